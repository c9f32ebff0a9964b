/- Numbers as bytes, in plain Lean: what is put, what is got, and that the one undoes the other. -/
import Derived.Laws.BytesArg
import Derived.Lib.ItoaNum
import Derived.WideShapes
set_option linter.unusedVariables false
set_option linter.unusedSimpArgs false
namespace Go.Proofs.Ytmmcigpbajlneaa

def nums8 (s : ByteArray) : List Int := s.data.toList.map fun c => (c.toNat : Int)
theorem nums8_length (s : ByteArray) : (nums8 s).length = s.size := by simp [nums8]
theorem nums8_range (s : ByteArray) : ∀ x ∈ nums8 s, 0 ≤ x ∧ x < 256 := by
  intro x hx
  obtain ⟨c, _, rfl⟩ := List.mem_map.1 hx
  have := c.toNat_lt
  omega
theorem nums8_inj {a b : ByteArray} (h : nums8 a = nums8 b) : a = b := by
  apply WideShapes.bytes_inj
  unfold nums8 at h
  refine List.map_inj_right (f := fun c : UInt8 => (c.toNat : Int)) (fun x y hxy => ?_) |>.1 h
  have h2 : (x.toNat : Int) = y.toNat := hxy
  exact UInt8.toNat_inj.1 (by omega)
theorem nums8_strOfNums (xs : List Int) (h : ∀ x ∈ xs, 0 ≤ x ∧ x < 256) : nums8 (strOfNums xs) = xs := by
  unfold nums8
  rw [strOfNums_data, List.map_map]
  conv => rhs; rw [← List.map_id xs]
  refine List.map_congr_left fun x hx => ?_
  have := h x hx
  simp
  omega
theorem strOfNums_nums8 (s : ByteArray) : strOfNums (nums8 s) = s := nums8_inj (nums8_strOfNums _ (nums8_range s))
theorem strOfNums_append (xs ys : List Int) : strOfNums (xs ++ ys) = strOfNums xs ++ strOfNums ys := by
  apply WideShapes.bytes_inj
  simp [strOfNums]
theorem nums8_append (a b : ByteArray) : nums8 (a ++ b) = nums8 a ++ nums8 b := by simp [nums8]
theorem nums8_extract (s : ByteArray) (a b : Nat) : nums8 (s.extract a b) = ((nums8 s).drop a).take (b - a) := by
  simp [nums8, ByteArray.data_extract, List.map_drop, List.map_take]
theorem str_eq_iff (a b : ByteArray) : (a.toList == b.toList) = decide (nums8 a = nums8 b) := by
  rw [ByteArray.toList_eq, ByteArray.toList_eq]
  by_cases h : a = b
  · subst h; simp
  · have h1 : a.data.toList ≠ b.data.toList := fun e => h (WideShapes.bytes_inj e)
    have h2 : nums8 a ≠ nums8 b := fun e => h (nums8_inj e)
    rw [decide_eq_false h2]
    simpa using h1

/-- How many bytes a number has. -/
def blen (m : Nat) : Nat := if h : m = 0 then 0 else blen (m / 256) + 1
termination_by m
decreasing_by omega
theorem blen_zero : blen 0 = 0 := by rw [blen]; rfl
theorem blen_pos {m : Nat} (h : m ≠ 0) : blen m = blen (m / 256) + 1 := by rw [blen, dif_neg h]
theorem lt_blen (m : Nat) : m < 256 ^ blen m := by
  induction m using Nat.strongRecOn with
  | _ m ih =>
    by_cases h : m = 0
    · subst h; rw [blen_zero]; decide
    · have := ih (m / 256) (by omega)
      rw [blen_pos h, Nat.pow_succ]
      omega
theorem blen_le (m : Nat) : ∀ k, m < 256 ^ k → blen m ≤ k := by
  induction m using Nat.strongRecOn with
  | _ m ih =>
    intro k hk
    by_cases h : m = 0
    · subst h; rw [blen_zero]; omega
    · cases k with
      | zero => simp at hk; omega
      | succ k =>
        rw [blen_pos h]
        have := ih (m / 256) (by omega) k (by rw [Nat.pow_succ] at hk; omega)
        omega
theorem le_of_lt_blen {m t : Nat} (h : t < blen m) : 256 ^ t ≤ m := by
  rcases Nat.lt_or_ge m (256 ^ t) with h1 | h1
  · have := blen_le m t h1; omega
  · exact h1
theorem blen_eq {m k : Nat} (h1 : m < 256 ^ k) (h2 : k = 0 ∨ 256 ^ (k - 1) ≤ m) : blen m = k := by
  have h3 := blen_le m k h1
  rcases h2 with rfl | h2
  · omega
  · rcases Nat.lt_or_ge (blen m) k with h4 | h4
    · have h5 := lt_blen m
      have : 256 ^ blen m ≤ 256 ^ (k - 1) := Nat.pow_le_pow_right (by decide) (by omega)
      omega
    · omega
theorem blen7 {m : Nat} (h : m ≤ 9007199254740992) : blen m ≤ 7 := blen_le m 7 (by omega)

theorem bitLen_bytes (m : Nat) (h : m < 2 ^ 64) : (Lib.bitLen m + 7) / 8 = blen m := by
  by_cases h0 : m = 0
  · subst h0; rw [blen_zero]; decide
  · obtain ⟨h1, h2, h3⟩ := Lib.bitLenAux_bounds 64 m h h0
    have hb : Lib.bitLenAux 64 m = Lib.bitLen m := rfl
    rw [hb] at h1 h2 h3
    generalize Lib.bitLen m = L at *
    symm
    refine blen_eq ?_ (.inr ?_)
    · refine Nat.lt_of_lt_of_le h3 ?_
      rw [show (256 : Nat) = 2 ^ 8 from rfl, ← Nat.pow_mul]
      exact Nat.pow_le_pow_right (by decide) (by omega)
    · refine Nat.le_trans ?_ h2
      rw [show (256 : Nat) = 2 ^ 8 from rfl, ← Nat.pow_mul]
      exact Nat.pow_le_pow_right (by decide) (by omega)

/-- k bytes of a number, the greatest first. -/
def be (k m : Nat) : List Int := (List.range k).map fun i => ((m / 256 ^ (k - 1 - i) % 256 : Nat) : Int)
theorem be_length (k m : Nat) : (be k m).length = k := by simp [be]
theorem be_zero (m : Nat) : be 0 m = [] := rfl
theorem be_succ (k m : Nat) : be (k + 1) m = ((m / 256 ^ k % 256 : Nat) : Int) :: be k m := by
  unfold be
  rw [List.range_succ_eq_map]
  simp only [List.map_cons, List.map_map, Nat.add_sub_cancel, Nat.sub_zero]
  congr 1
  refine List.map_congr_left fun i _ => ?_
  simp only [Function.comp_apply]
  rw [show k - i.succ = k - 1 - i by omega]
theorem be_take_succ (k m j : Nat) (hj : j < k) : (be k m).take (j + 1) = (be k m).take j ++ [((m / 256 ^ (k - 1 - j) % 256 : Nat) : Int)] := by
  rw [List.take_succ_eq_append_getElem (by rw [be_length]; exact hj)]
  simp [be]
theorem be_range (k m : Nat) : ∀ x ∈ be k m, 0 ≤ x ∧ x < 256 := by
  intro x hx
  obtain ⟨i, _, rfl⟩ := List.mem_map.1 hx
  omega

/-- The bytes of a number. -/
def putL (n : Int) : List Int := if n < -9007199254740992 ∨ 9007199254740992 < n then [] else ((if n < 0 then 128 else 0) + (blen n.natAbs : Int)) :: be (blen n.natAbs) n.natAbs
theorem putL_range (n : Int) : ∀ x ∈ putL n, 0 ≤ x ∧ x < 256 := by
  intro x hx
  unfold putL at hx
  split at hx
  · simp at hx
  · rename_i h
    have h7 : blen n.natAbs ≤ 7 := blen7 (by omega)
    rcases List.mem_cons.1 hx with rfl | hx
    · split <;> omega
    · exact be_range _ _ x hx
theorem putL_length (n : Int) : (putL n).length ≤ 8 := by
  unfold putL
  split
  · simp
  · have h7 : blen n.natAbs ≤ 7 := blen7 (by omega)
    simp [be_length]; omega

/-- The number that bytes stand for. -/
def beVal (l : List Int) : Int := l.foldl (fun a d => 256 * a + d) 0
theorem beVal_snoc (l : List Int) (x : Int) : beVal (l ++ [x]) = 256 * beVal l + x := by simp [beVal]
theorem beVal_from (l : List Int) (h : ∀ x ∈ l, 0 ≤ x ∧ x < 256) : ∀ a : Int, 0 ≤ a → a * 256 ^ l.length ≤ l.foldl (fun a d => 256 * a + d) a ∧ l.foldl (fun a d => 256 * a + d) a < (a + 1) * 256 ^ l.length := by
  induction l with
  | nil => intro a ha; simp; omega
  | cons x l ih =>
    intro a ha
    have h2 := h x (by simp)
    obtain ⟨h3, h4⟩ := ih (fun y hy => h y (by simp [hy])) (256 * a + x) (by omega)
    rw [List.foldl_cons, List.length_cons, Int.pow_succ]
    have hP : (0 : Int) < 256 ^ l.length := Int.pow_pos (by decide)
    generalize (256 : Int) ^ l.length = P at *
    have e1 : (256 * a + x) * P = 256 * (a * P) + x * P := by rw [Int.add_mul, Int.mul_assoc]
    have e2 : (256 * a + x + 1) * P = 256 * (a * P) + x * P + P := by rw [Int.add_mul, e1, Int.one_mul]
    have e3 : a * (P * 256) = 256 * (a * P) := by rw [← Int.mul_assoc, Int.mul_comm]
    have e4 : (a + 1) * (P * 256) = 256 * (a * P) + 256 * P := by rw [Int.add_mul, e3, Int.one_mul, Int.mul_comm P]
    have e5 : 0 ≤ x * P := Int.mul_nonneg h2.1 (Int.le_of_lt hP)
    have e6 : x * P ≤ 255 * P := Int.mul_le_mul_of_nonneg_right (by omega) (Int.le_of_lt hP)
    omega
theorem beVal_bound (l : List Int) (h : ∀ x ∈ l, 0 ≤ x ∧ x < 256) : 0 ≤ beVal l ∧ beVal l < 256 ^ l.length := by
  have := beVal_from l h 0 (by omega)
  unfold beVal
  omega

/-- The digits of a value are what it was made of. -/
theorem be_beVal (l : List Int) (h : ∀ x ∈ l, 0 ≤ x ∧ x < 256) : be l.length (beVal l).toNat = l := by
  have key : ∀ (l : List Int), (∀ x ∈ l, 0 ≤ x ∧ x < 256) → ∀ a : Int, 0 ≤ a → be l.length (l.foldl (fun a d => 256 * a + d) a).toNat = l := by
    intro l
    induction l with
    | nil => intro _ a _; rfl
    | cons x l ih =>
      intro h a ha
      have h2 := h x (by simp)
      have hl : ∀ y ∈ l, 0 ≤ y ∧ y < 256 := fun y hy => h y (by simp [hy])
      obtain ⟨h3, h4⟩ := beVal_from l hl (256 * a + x) (by omega)
      rw [List.foldl_cons, List.length_cons, be_succ, ih hl _ (by omega)]
      congr 1
      generalize l.foldl (fun a d => 256 * a + d) (256 * a + x) = v at *
      have hP : (0 : Int) < 256 ^ l.length := Int.pow_pos (by decide)
      have hv : 0 ≤ v := Int.le_trans (Int.mul_nonneg (by omega) (Int.le_of_lt hP)) h3
      have e : v / 256 ^ l.length = 256 * a + x := by
        refine Int.le_antisymm ?_ ?_
        · exact Int.lt_add_one_iff.1 (Int.ediv_lt_of_lt_mul hP h4)
        · exact Int.le_ediv_of_mul_le hP h3
      have e2 : ((v.toNat / 256 ^ l.length : Nat) : Int) = v / 256 ^ l.length := by
        rw [Int.natCast_ediv, Int.toNat_of_nonneg hv]
        simp
      omega
  exact key l h 0 (by omega)

/-- What is got from bytes: the number, how many bytes it takes, the error's number. -/
def getL : List Int → Int × Int × Int
  | [] => (0, 0, 3)
  | h :: t =>
    if 7 < h % 128 ∨ h = 128 then (0, 0, 2)
    else if (t.length : Int) < h % 128 then (0, 0, 3)
    else if 9007199254740992 < beVal (t.take (h % 128).toNat) ∨ (0 < h % 128 ∧ t.head? = some 0) then (0, 0, 2)
    else (if 127 < h then -beVal (t.take (h % 128).toNat) else beVal (t.take (h % 128).toNat), h % 128 + 1, 0)

theorem putL_of (n : Int) (h : -9007199254740992 ≤ n ∧ n ≤ 9007199254740992) : putL n = ((if n < 0 then 128 else 0) + (blen n.natAbs : Int)) :: be (blen n.natAbs) n.natAbs := by
  unfold putL
  rw [if_neg (by omega)]

/-- The first digit of a number's bytes is not nothing. -/
theorem be_head {m k : Nat} (hk : blen m = k + 1) : m / 256 ^ k % 256 ≠ 0 := by
  have h1 := le_of_lt_blen (m := m) (t := k) (by omega)
  have h2 := lt_blen m
  rw [hk, Nat.pow_succ] at h2
  have hP : 0 < 256 ^ k := Nat.pow_pos (by decide)
  have h3 : 1 ≤ m / 256 ^ k := (Nat.one_le_div_iff hP).2 h1
  have h4 : m / 256 ^ k < 256 := Nat.div_lt_of_lt_mul h2
  omega

theorem getL_putL (n : Int) (h : -9007199254740992 ≤ n ∧ n ≤ 9007199254740992) (rest : List Int) : getL (putL n ++ rest) = (n, ((putL n).length : Int), 0) := by
  rw [putL_of n h]
  have h7 : blen n.natAbs ≤ 7 := blen7 (by omega)
  have hz : n < 0 → 1 ≤ blen n.natAbs := fun hn => by rw [blen_pos (by omega)]; omega
  have hv := be_beVal (be (blen n.natAbs) n.natAbs) (be_range _ _)
  have hval : beVal (be (blen n.natAbs) n.natAbs) = n.natAbs := by
    have hlt := lt_blen n.natAbs
    generalize blen n.natAbs = k at *
    have key : ∀ k m : Nat, m < 256 ^ k → ∀ a : Int, (be k m).foldl (fun a d => 256 * a + d) a = a * 256 ^ k + m := by
      intro k
      induction k with
      | zero => intro m hm a; simp at hm; subst hm; simp [be]
      | succ k ih =>
        intro m hm a
        have hP : 0 < 256 ^ k := Nat.pow_pos (by decide)
        have hbe : be k m = be k (m % 256 ^ k) := by
          unfold be
          refine List.map_congr_left fun i hi => ?_
          have hi := List.mem_range.1 hi
          congr 1
          rw [show (256 : Nat) ^ k = 256 ^ (k - 1 - i) * 256 ^ (i + 1) by rw [← Nat.pow_add]; congr 1; omega, Nat.mod_mul_right_div_self, Nat.pow_succ, Nat.mod_mul_left_mod]
        rw [be_succ, List.foldl_cons, hbe, ih (m % 256 ^ k) (Nat.mod_lt _ hP)]
        rw [Nat.pow_succ] at hm
        have hq : m / 256 ^ k < 256 := Nat.div_lt_of_lt_mul hm
        have hdm := Nat.div_add_mod m (256 ^ k)
        rw [Nat.mod_eq_of_lt hq, Int.pow_succ]
        generalize m / 256 ^ k = q at *
        generalize m % 256 ^ k = r at *
        have e : (((256 : Nat) ^ k : Nat) : Int) = (256 : Int) ^ k := by simp
        rw [← e]
        generalize (256 : Nat) ^ k = P at *
        subst hdm
        rw [Int.add_mul, Int.mul_comm 256 a, Int.mul_assoc]
        push_cast
        rw [Int.mul_comm (256 : Int) (P : Int), Int.mul_comm (q : Int) (P : Int)]
        omega
    have := key k n.natAbs hlt 0
    unfold beVal
    omega
  simp only [List.cons_append, getL]
  have hh : ((if n < 0 then 128 else 0) + (blen n.natAbs : Int)) % 128 = blen n.natAbs := by split <;> omega
  have htk : (be (blen n.natAbs) n.natAbs ++ rest).take (blen n.natAbs) = be (blen n.natAbs) n.natAbs := by
    rw [List.take_append_of_le_length (by rw [be_length]; exact Nat.le_refl _), List.take_of_length_le (by rw [be_length]; exact Nat.le_refl _)]
  rw [hh, Int.toNat_natCast, htk, hval]
  rw [if_neg (by split <;> omega), if_neg (by rw [List.length_append, be_length]; omega), if_neg]
  · simp only [List.length_cons, be_length]
    congr 1
    split <;> split <;> omega
  · rintro (h1 | ⟨h1, h2⟩)
    · omega
    · obtain ⟨k, hk⟩ : ∃ k, blen n.natAbs = k + 1 := ⟨blen n.natAbs - 1, by omega⟩
      rw [hk, be_succ] at h2
      have := be_head hk
      simp only [List.cons_append, List.head?_cons, Option.some.injEq] at h2
      omega

theorem put_iff_get (h : Int) (t : List Int) (hr : ∀ x ∈ h :: t, 0 ≤ x ∧ x < 256) (h1 : ¬ (7 < h % 128 ∨ h = 128)) (h2 : ¬ (t.length : Int) < h % 128) :
    putL (if 127 < h then -beVal (t.take (h % 128).toNat) else beVal (t.take (h % 128).toNat)) = (h :: t).take ((h % 128).toNat + 1) ↔ ¬ (9007199254740992 < beVal (t.take (h % 128).toNat) ∨ (0 < h % 128 ∧ t.head? = some 0)) := by
  have hh := hr h (by simp)
  obtain ⟨k, hk⟩ : ∃ k : Nat, h % 128 = k := ⟨(h % 128).toNat, by omega⟩
  rw [hk] at h1 h2 ⊢
  rw [Int.toNat_natCast, List.take_succ_cons]
  have hlen : (t.take k).length = k := by rw [List.length_take]; omega
  have hrt : ∀ x ∈ t.take k, 0 ≤ x ∧ x < 256 := fun x hx => hr x (List.mem_cons_of_mem _ (List.mem_of_mem_take hx))
  have hhead : 0 < k → (t.take k).head? = t.head? := fun hk0 => by
    cases t with
    | nil => simp
    | cons x t => cases k with
      | zero => omega
      | succ k => simp
  have hb := beVal_bound (t.take k) hrt
  have hbe := be_beVal (t.take k) hrt
  rw [hlen] at hb hbe
  generalize hd : t.take k = d at *
  obtain ⟨v, hv⟩ : ∃ v : Nat, beVal d = v := ⟨(beVal d).toNat, by omega⟩
  rw [hv] at hb hbe ⊢
  rw [Int.toNat_natCast] at hbe
  have hvlt : v < 256 ^ k := by
    have e : (((256 : Nat) ^ k : Nat) : Int) = (256 : Int) ^ k := by rw [Int.natCast_pow]; rfl
    have := hb.2
    omega
  have habs : (if 127 < h then -(v : Int) else (v : Int)).natAbs = v := by split <;> omega
  constructor
  · intro e hcon
    by_cases hbig : 9007199254740992 < (v : Int)
    · have : putL (if 127 < h then -(v : Int) else (v : Int)) = [] := by
        unfold putL
        rw [if_pos (by split <;> omega)]
      rw [this] at e
      cases e
    · obtain ⟨hk0, hz⟩ := hcon.resolve_left hbig
      rw [putL_of _ (by split <;> omega), habs] at e
      injection e with e1 e2
      have hkb : blen v = k := by rw [← be_length (blen v) v, e2, hlen]
      obtain ⟨j, hj⟩ : ∃ j, k = j + 1 := ⟨k - 1, by omega⟩
      have := be_head (m := v) (k := j) (by omega)
      rw [← hhead (by omega), ← hbe, hj, be_succ] at hz
      simp only [List.head?_cons, Option.some.injEq] at hz
      omega
  · intro hn
    have hbig : (v : Int) ≤ 9007199254740992 := by
      by_cases h' : 9007199254740992 < (v : Int)
      · exact absurd (.inl h') hn
      · omega
    have hkb : blen v = k := by
      refine blen_eq hvlt ?_
      rcases Nat.eq_zero_or_pos k with h0 | h0
      · exact .inl h0
      · right
        obtain ⟨j, rfl⟩ : ∃ j, k = j + 1 := ⟨k - 1, by omega⟩
        have hP : 0 < 256 ^ j := Nat.pow_pos (by decide)
        rcases Nat.lt_or_ge v (256 ^ j) with h' | h'
        · exfalso
          refine hn (.inr ⟨by omega, ?_⟩)
          rw [← hhead (by omega), ← hbe, be_succ, Nat.div_eq_of_lt h']
          simp
        · simpa using h'
    have hneg : 127 < h → 0 < v := by
      intro h127
      have : 0 < k := by omega
      rcases Nat.eq_zero_or_pos v with h0 | h0
      · subst h0; rw [blen_zero] at hkb; omega
      · exact h0
    rw [putL_of _ (by split <;> omega), habs, hkb, hbe]
    congr 1
    by_cases h127 : 127 < h
    · have := hneg h127
      rw [if_pos h127, if_pos (by omega)]
      omega
    · rw [if_neg h127, if_neg (by omega)]
      omega
end Go.Proofs.Ytmmcigpbajlneaa
