/- The sum of bytes (CRC-32) in plain Lean: a step of four bits is four steps of one bit; bytes that were changed in a row of at most four have another sum. -/
import Derived.Test.YtmmcigpbajlneaaDoorOct
set_option linter.unusedVariables false
set_option linter.unusedSimpArgs false
namespace Go.Proofs.YtmmcigpbajlneaaDoor

/-- One step of one bit. -/
def bst (r : Nat) : Nat := (r / 2) ^^^ (if r % 2 = 1 then 3988292384 else 0)
theorem bst_xor (a b : Nat) : bst (a ^^^ b) = bst a ^^^ bst b := by
  unfold bst
  have h1 : (a ^^^ b) / 2 = (a / 2) ^^^ (b / 2) := by
    have := Nat.xor_div_two_pow (a := a) (b := b) (n := 1)
    simpa using this
  have h2 : (a ^^^ b) % 2 = (a + b) % 2 := by
    have h3 : (a ^^^ b) % 2 = (a % 2) ^^^ (b % 2) := by
      have := Nat.xor_mod_two_pow (a := a) (b := b) (n := 1)
      simpa using this
    rw [h3, Nat.add_mod]
    rcases Nat.mod_two_eq_zero_or_one a with ha | ha <;> rcases Nat.mod_two_eq_zero_or_one b with hb | hb <;> rw [ha, hb] <;> rfl
  rw [h1, h2]
  rcases Nat.mod_two_eq_zero_or_one a with ha | ha <;> rcases Nat.mod_two_eq_zero_or_one b with hb | hb
  · rw [if_neg (by omega), if_neg (by omega), if_neg (by omega)]; simp
  · rw [if_pos (by omega), if_neg (by omega), if_pos (by omega)]; simp [Nat.xor_assoc]
  · rw [if_pos (by omega), if_pos (by omega), if_neg (by omega)]
    simp only [Nat.xor_zero, Nat.xor_assoc]
    congr 1
    rw [Nat.xor_comm]
  · rw [if_neg (by omega), if_pos (by omega), if_pos (by omega)]
    rw [Nat.xor_zero, Nat.xor_assoc, ← Nat.xor_assoc 3988292384, Nat.xor_comm 3988292384 (b / 2), Nat.xor_assoc, Nat.xor_self, Nat.xor_zero]
theorem bst_even (q : Nat) : bst (2 * q) = q := by
  unfold bst
  rw [if_neg (by omega)]
  simp
theorem bst_lt {r : Nat} (h : r < 4294967296) : bst r < 4294967296 := by
  unfold bst
  refine Nat.xor_lt_two_pow (n := 32) (by omega) ?_
  split <;> decide
theorem bst_zero {c : Nat} (hc : c < 4294967296) (h : bst c = 0) : c = 0 := by
  unfold bst at h
  split at h
  · have : c / 2 = 3988292384 := by
      have h2 : (c / 2 ^^^ 3988292384) ^^^ 3988292384 = 0 ^^^ 3988292384 := by rw [h]
      rw [Nat.xor_assoc, Nat.xor_self, Nat.xor_zero, Nat.zero_xor] at h2
      exact h2
    omega
  · rw [Nat.xor_zero] at h
    omega
theorem xor_eq_zero {a b : Nat} (h : a ^^^ b = 0) : a = b := by
  have h2 : (a ^^^ b) ^^^ b = 0 ^^^ b := by rw [h]
  rw [Nat.xor_assoc, Nat.xor_self, Nat.xor_zero, Nat.zero_xor] at h2
  exact h2
theorem xor_lt32 {a b : Nat} (ha : a < 4294967296) (hb : b < 4294967296) : a ^^^ b < 4294967296 := Nat.xor_lt_two_pow (n := 32) ha hb
theorem bst_inj {a b : Nat} (ha : a < 4294967296) (hb : b < 4294967296) (h : bst a = bst b) : a = b := by
  refine xor_eq_zero (bst_zero (xor_lt32 ha hb) ?_)
  rw [bst_xor, h, Nat.xor_self]

/-- Four bits. -/
def nst (r : Nat) : Nat := bst (bst (bst (bst r)))
theorem nst_xor (a b : Nat) : nst (a ^^^ b) = nst a ^^^ nst b := by unfold nst; rw [bst_xor, bst_xor, bst_xor, bst_xor]
theorem nst_lt {r : Nat} (h : r < 4294967296) : nst r < 4294967296 := bst_lt (bst_lt (bst_lt (bst_lt h)))
theorem nst_inj {a b : Nat} (ha : a < 4294967296) (hb : b < 4294967296) (h : nst a = nst b) : a = b :=
  bst_inj ha hb (bst_inj (bst_lt ha) (bst_lt hb) (bst_inj (bst_lt (bst_lt ha)) (bst_lt (bst_lt hb)) (bst_inj (bst_lt (bst_lt (bst_lt ha))) (bst_lt (bst_lt (bst_lt hb))) h)))
theorem nst_16 (q : Nat) : nst (16 * q) = q := by
  unfold nst
  rw [show 16 * q = 2 * (2 * (2 * (2 * q))) by omega, bst_even, bst_even, bst_even, bst_even]

theorem add_eq_xor (k q c : Nat) (h : c < 2 ^ k) : 2 ^ k * q + c = (2 ^ k * q) ^^^ c := by
  apply Nat.eq_of_testBit_eq
  intro i
  rw [Nat.testBit_two_pow_mul_add _ h, Nat.testBit_xor, Nat.testBit_two_pow_mul]
  by_cases hi : i < k
  · rw [if_pos hi]
    simp [show ¬ k ≤ i by omega]
  · rw [if_neg hi]
    have : c.testBit i = false := Nat.testBit_lt_two_pow (Nat.lt_of_lt_of_le h (Nat.pow_le_pow_right (by decide) (by omega)))
    simp [this, show k ≤ i by omega]

/-- The table of four bits. -/
def tabL : List Nat := [0, 498536548, 997073096, 651767980, 1994146192, 1802195444, 1303535960, 1342533948, 3988292384, 4027552580, 3604390888, 3412177804, 2607071920, 2262029012, 2685067896, 3183342108]
theorem tab_nst : ∀ c : Nat, c < 16 → nst c = tabL.getD c 0 := by decide
theorem nst_tab (r : Nat) : nst r = (r / 16) ^^^ tabL.getD (r % 16) 0 := by
  have h : r = (2 ^ 4 * (r / 16)) ^^^ (r % 16) := by
    rw [← add_eq_xor 4 _ _ (by omega)]
    exact (Nat.div_add_mod r 16).symm
  conv => lhs; rw [h]
  rw [nst_xor, tab_nst (r % 16) (by omega), show (2 : Nat) ^ 4 = 16 from rfl, nst_16]

/-- One byte. -/
def zst (r : Nat) : Nat := nst (nst r)
theorem zst_xor (a b : Nat) : zst (a ^^^ b) = zst a ^^^ zst b := by unfold zst; rw [nst_xor, nst_xor]
theorem zst_lt {r : Nat} (h : r < 4294967296) : zst r < 4294967296 := nst_lt (nst_lt h)
theorem zst_inj {a b : Nat} (ha : a < 4294967296) (hb : b < 4294967296) (h : zst a = zst b) : a = b := nst_inj ha hb (nst_inj (nst_lt ha) (nst_lt hb) h)
theorem zst_256 (q : Nat) : zst (256 * q) = q := by
  unfold zst
  rw [show 256 * q = 16 * (16 * q) by omega, nst_16, nst_16]

/-- The register behind bytes. -/
def reg (r : Nat) (l : List Int) : Nat := l.foldl (fun r b => zst (r ^^^ b.toNat)) r
theorem reg_nil (r : Nat) : reg r [] = r := rfl
theorem reg_cons (r : Nat) (x : Int) (l : List Int) : reg r (x :: l) = reg (zst (r ^^^ x.toNat)) l := rfl
theorem reg_append (r : Nat) (a b : List Int) : reg r (a ++ b) = reg (reg r a) b := by simp [reg]
theorem reg_snoc (r : Nat) (a : List Int) (x : Int) : reg r (a ++ [x]) = zst (reg r a ^^^ x.toNat) := by simp [reg]
theorem reg_lt (l : List Int) (hl : ∀ x ∈ l, 0 ≤ x ∧ x < 256) : ∀ {r : Nat}, r < 4294967296 → reg r l < 4294967296 := by
  induction l with
  | nil => intro r h; exact h
  | cons x l ih =>
    intro r h
    have := hl x (by simp)
    rw [reg_cons]
    exact ih (fun y hy => hl y (by simp [hy])) (zst_lt (xor_lt32 h (by omega)))
theorem reg_inj (l : List Int) (hl : ∀ x ∈ l, 0 ≤ x ∧ x < 256) : ∀ {a b : Nat}, a < 4294967296 → b < 4294967296 → reg a l = reg b l → a = b := by
  induction l with
  | nil => intro a b _ _ h; exact h
  | cons x l ih =>
    intro a b ha hb h
    have := hl x (by simp)
    rw [reg_cons, reg_cons] at h
    have h2 := ih (fun y hy => hl y (by simp [hy])) (zst_lt (xor_lt32 ha (by omega))) (zst_lt (xor_lt32 hb (by omega))) h
    have h3 := zst_inj (xor_lt32 ha (by omega)) (xor_lt32 hb (by omega)) h2
    have h4 : (a ^^^ x.toNat) ^^^ x.toNat = (b ^^^ x.toNat) ^^^ x.toNat := by rw [h3]
    simpa [Nat.xor_assoc] using h4

/-- The sum. -/
def crc (l : List Int) : Nat := 4294967295 - reg 4294967295 l
/-- Four bytes of a number, the smallest first. -/
def le4 (m : Nat) : List Int := [((m % 256 : Nat) : Int), ((m / 256 % 256 : Nat) : Int), ((m / 65536 % 256 : Nat) : Int), ((m / 16777216 % 256 : Nat) : Int)]
def seal4 (l : List Int) : List Int := le4 (crc l)
theorem seal4_length (l : List Int) : (seal4 l).length = 4 := rfl
theorem seal4_range (l : List Int) : ∀ x ∈ seal4 l, 0 ≤ x ∧ x < 256 := by
  intro x hx
  simp only [seal4, le4, List.mem_cons, List.not_mem_nil, or_false] at hx
  rcases hx with rfl | rfl | rfl | rfl <;> omega

theorem reg4 (r a b c d : Nat) (ha : a < 256) (hb : b < 256) (hc : c < 256) (hd : d < 256) :
    zst (zst (zst (zst (r ^^^ a) ^^^ b) ^^^ c) ^^^ d) = zst (zst (zst (zst (r ^^^ (a + 256 * b + 65536 * c + 16777216 * d))))) := by
  have h1 : a + 256 * b + 65536 * c + 16777216 * d = ((16777216 * d ^^^ 65536 * c) ^^^ 256 * b) ^^^ a := by
    have e1 := add_eq_xor 8 (b + 256 * c + 65536 * d) a (by omega)
    have e2 := add_eq_xor 16 (c + 256 * d) (256 * b) (by omega)
    have e3 := add_eq_xor 24 d (65536 * c) (by omega)
    simp only [show (2 : Nat) ^ 8 = 256 from rfl, show (2 : Nat) ^ 16 = 65536 from rfl, show (2 : Nat) ^ 24 = 16777216 from rfl] at e1 e2 e3
    rw [show a + 256 * b + 65536 * c + 16777216 * d = 256 * (b + 256 * c + 65536 * d) + a by omega, e1, show 256 * (b + 256 * c + 65536 * d) = 65536 * (c + 256 * d) + 256 * b by omega, e2, show 65536 * (c + 256 * d) = 16777216 * d + 65536 * c by omega, e3]
  rw [h1]
  simp only [zst_xor, zst_256, show 65536 * c = 256 * (256 * c) by omega, show 16777216 * d = 256 * (256 * (256 * d)) by omega]
  generalize zst (zst (zst (zst r))) = R
  generalize zst (zst (zst (zst a))) = A
  generalize zst (zst (zst b)) = B
  generalize zst (zst c) = C
  generalize zst d = D
  apply Nat.eq_of_testBit_eq
  intro i
  simp only [Nat.testBit_xor]
  cases R.testBit i <;> cases A.testBit i <;> cases B.testBit i <;> cases C.testBit i <;> cases D.testBit i <;> rfl

theorem reg_four (r : Nat) (m : List Int) (hm : m.length = 4) (hr : ∀ x ∈ m, 0 ≤ x ∧ x < 256) :
    ∃ v : Nat, v < 4294967296 ∧ reg r m = zst (zst (zst (zst (r ^^^ v)))) ∧ le4 v = m := by
  obtain ⟨a, b, c, d, rfl⟩ : ∃ a b c d, m = [a, b, c, d] := by
    rcases m with _ | ⟨a, _ | ⟨b, _ | ⟨c, _ | ⟨d, _ | ⟨e, m⟩⟩⟩⟩⟩ <;> simp at hm
    exact ⟨a, b, c, d, rfl⟩
  have h1 := hr a (by simp)
  have h2 := hr b (by simp)
  have h3 := hr c (by simp)
  have h4 := hr d (by simp)
  refine ⟨a.toNat + 256 * b.toNat + 65536 * c.toNat + 16777216 * d.toNat, by omega, ?_, ?_⟩
  · rw [← reg4 _ _ _ _ _ (by omega) (by omega) (by omega) (by omega)]
    rfl
  · unfold le4
    congr 1
    · omega
    · congr 1
      · omega
      · congr 1
        · omega
        · congr 1
          omega

/-- A row of bytes and its sum lead to one and the same register. -/
theorem sealed_iff (l m : List Int) (hl : ∀ x ∈ l, 0 ≤ x ∧ x < 256) (hm : m.length = 4) (hr : ∀ x ∈ m, 0 ≤ x ∧ x < 256) :
    m = seal4 l ↔ reg 4294967295 (l ++ m) = zst (zst (zst (zst 4294967295))) := by
  obtain ⟨v, hv, h1, h2⟩ := reg_four (reg 4294967295 l) m hm hr
  have hlt := reg_lt l hl (r := 4294967295) (by decide)
  rw [reg_append, h1]
  generalize hR : reg 4294967295 l = R at *
  have hx : R ^^^ (4294967295 - R) = 4294967295 := by
    apply Nat.eq_of_testBit_eq
    intro i
    rw [Nat.testBit_xor, show 4294967295 - R = 2 ^ 32 - (R + 1) by omega, Nat.testBit_two_pow_sub_succ hlt, show (4294967295 : Nat) = 2 ^ 32 - 1 from rfl, Nat.testBit_two_pow_sub_one]
    by_cases hi : i < 32
    · cases hb : R.testBit i <;> simp [hi]
    · have : R.testBit i = false := Nat.testBit_lt_two_pow (Nat.lt_of_lt_of_le hlt (Nat.pow_le_pow_right (n := 2) (by decide) (show 32 ≤ i by omega)))
      simp [hi, this]
  have hc : crc l = 4294967295 - R := by unfold crc; rw [hR]
  constructor
  · intro e
    have hvc : v = 4294967295 - R := by
      have h3 : le4 v = le4 (4294967295 - R) := by rw [h2, e, seal4, hc]
      simp only [le4, List.cons.injEq, and_true] at h3
      omega
    rw [hvc, hx]
  · intro e
    have hvr := xor_lt32 hlt hv
    have h3 := zst_inj hvr (by decide) (zst_inj (zst_lt hvr) (zst_lt (by decide)) (zst_inj (zst_lt (zst_lt hvr)) (zst_lt (zst_lt (by decide))) (zst_inj (zst_lt (zst_lt (zst_lt hvr))) (zst_lt (zst_lt (zst_lt (by decide)))) e)))
    have h4 : R ^^^ v = R ^^^ (4294967295 - R) := by rw [h3, hx]
    have h5 : R ^^^ (R ^^^ v) = R ^^^ (R ^^^ (4294967295 - R)) := by rw [h4]
    rw [← Nat.xor_assoc, ← Nat.xor_assoc, Nat.xor_self, Nat.zero_xor, Nat.zero_xor] at h5
    rw [← h2, seal4, hc, h5]

/-- Two sealed rows that differ within four bytes in a row are the same. -/
theorem burst (p a b t : List Int) (hp : ∀ x ∈ p, 0 ≤ x ∧ x < 256) (ha : ∀ x ∈ a, 0 ≤ x ∧ x < 256) (hb : ∀ x ∈ b, 0 ≤ x ∧ x < 256) (ht : ∀ x ∈ t, 0 ≤ x ∧ x < 256)
    (hl : a.length = b.length) (h4 : a.length ≤ 4) (h : reg 4294967295 (p ++ a ++ t) = reg 4294967295 (p ++ b ++ t)) : a = b := by
  rw [reg_append, reg_append, reg_append, reg_append] at h
  have hR := reg_lt p hp (r := 4294967295) (by decide)
  generalize reg 4294967295 p = R at *
  have h2 := reg_inj t ht (reg_lt a ha hR) (reg_lt b hb hR) h
  have hz : ∀ x ∈ List.replicate (4 - a.length) (0 : Int), 0 ≤ x ∧ x < 256 := by
    intro x hx
    rw [List.mem_replicate] at hx
    omega
  obtain ⟨u, hu, hu1, hu2⟩ := reg_four R (a ++ List.replicate (4 - a.length) 0) (by simp; omega) (fun x hx => (List.mem_append.1 hx).elim (ha x) (hz x))
  obtain ⟨v, hv, hv1, hv2⟩ := reg_four R (b ++ List.replicate (4 - a.length) 0) (by simp; omega) (fun x hx => (List.mem_append.1 hx).elim (hb x) (hz x))
  rw [reg_append, h2, ← reg_append, hv1] at hu1
  have hur := xor_lt32 hR hu
  have hvr := xor_lt32 hR hv
  have h3 := zst_inj hvr hur (zst_inj (zst_lt hvr) (zst_lt hur) (zst_inj (zst_lt (zst_lt hvr)) (zst_lt (zst_lt hur)) (zst_inj (zst_lt (zst_lt (zst_lt hvr))) (zst_lt (zst_lt (zst_lt hur))) hu1)))
  have h5 : R ^^^ (R ^^^ v) = R ^^^ (R ^^^ u) := by rw [h3]
  rw [← Nat.xor_assoc, ← Nat.xor_assoc, Nat.xor_self, Nat.zero_xor, Nat.zero_xor] at h5
  subst h5
  have h6 := hu2.symm.trans hv2
  exact (List.append_inj h6 hl).1

/-- The reference's way, bit by bit. -/
theorem bit_step (q x j : Nat) (hq : q < 4294967296) : ((q / 2) ^^^ (if (q ^^^ (x / 2 ^ j)) % 2 = 1 then 3988292384 else 0)) ^^^ (x / 2 ^ (j + 1)) = bst (q ^^^ (x / 2 ^ j)) := by
  unfold bst
  have h1 : (q ^^^ x / 2 ^ j) / 2 = (q / 2) ^^^ (x / 2 ^ j / 2) := by
    have := Nat.xor_div_two_pow (a := q) (b := x / 2 ^ j) (n := 1)
    simpa using this
  rw [h1, Nat.div_div_eq_div_mul, ← Nat.pow_succ, Nat.xor_assoc, Nat.xor_assoc]
  congr 1
  rw [Nat.xor_comm]
end Go.Proofs.YtmmcigpbajlneaaDoor
