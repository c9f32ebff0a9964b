/- What the tails of a right side are, in plain words. -/
import Derived.Test.YtnkpmogpmcggiaaLTails
import Derived.Test.YtnkpmogpmcggiaaLPlain
set_option linter.unusedVariables false
set_option linter.unusedSimpArgs false
set_option linter.unusedSectionVars false
namespace Go.Proofs.Ytnkpmogpmcggiaa
open Go.RowKit Go.Proofs.YtnkpmogpmcggiaaW.PrintWords Go.Proofs.YtnkpmogpmcggiaaW.PrintLast Go.Proofs.YtnkpmogpmcggiaaW.PrintMore

def tabL (m z : Nat) (f : Nat → Nat → Int) : List (List Int) := (List.range (m + 1)).map fun k => (List.range (z + 1)).map (f k)
theorem tabL_len (m z : Nat) (f : Nat → Nat → Int) : (tabL m z f).length = m + 1 := by simp [tabL]
theorem rd_tabL (m z : Nat) (f : Nat → Nat → Int) (k : Nat) (hk : k ≤ m) : rd_L2 (tabL m z f) (k : Int) = (List.range (z + 1)).map (f k) := by
  unfold rd_L2 tabL
  rw [Int.toNat_natCast, List.getD_eq_getElem?_getD, List.getElem?_map, List.getElem?_range (by omega)]
  rfl
theorem rd_rowL (z : Nat) (g : Nat → Int) (j : Nat) (hj : j ≤ z) : rd ((List.range (z + 1)).map g) (j : Int) = g j := by
  unfold rd
  rw [Int.toNat_natCast, List.getD_eq_getElem?_getD, List.getElem?_map, List.getElem?_range (by omega)]
  rfl
def upd (f : Nat → Nat → Int) (K i : Nat) (v : Int) : Nat → Nat → Int := fun k' i' => if k' = K ∧ i' = i then v else f k' i'
theorem set_tabL (m z : Nat) (f : Nat → Nat → Int) (K i : Nat) (hK : K ≤ m) (hi : i ≤ z) (v : Int) :
    (tabL m z f).set K (((List.range (z + 1)).map (f K)).set i v) = tabL m z (upd f K i v) := by
  apply List.ext_getElem
  · simp [tabL]
  · intro a h1 h2
    rw [List.length_set, tabL_len] at h1
    rw [List.getElem_set]
    by_cases e : K = a
    · subst e
      rw [if_pos rfl]
      simp only [tabL, List.getElem_map, List.getElem_range]
      apply List.ext_getElem
      · simp
      · intro b h3 h4
        rw [List.getElem_set]
        simp only [List.getElem_map, List.getElem_range]
        unfold upd
        by_cases e2 : i = b
        · subst e2; simp
        · rw [if_neg e2, if_neg (by omega)]
    · rw [if_neg e]
      simp only [tabL, List.getElem_map, List.getElem_range]
      congr 1
      funext b
      unfold upd
      rw [if_neg (by omega)]

theorem w64 {x : Int} (h0 : -9223372036854775808 ≤ x) (h1 : x ≤ 9223372036854775807) : wrap64 x = x := by unfold wrap64; omega

theorem w64n (K : Nat) (h : K ≤ 1000000) : wrap64 ((K : Int) + 1) = ((K + 1 : Nat) : Int) := by rw [w64 (by omega) (by omega)]; omega
theorem w64p (K : Nat) (h : K ≤ 1000000) : wrap64 ((K : Int) - 1) = (K : Int) - 1 := w64 (by omega) (by omega)
theorem w64s {a b : Int} (h0 : -1 ≤ a) (h1 : a ≤ top40) (h2 : -1 ≤ b) (h3 : b ≤ top40) : wrap64 (a + b) = a + b := w64 (by unfold top40 at *; omega) (by unfold top40 at *; omega)
theorem mn_eq (a : Int) : mn a 1099511627776 = min a top40 := by unfold mn top40; omega

theorem of_eq {L n : Nat} {N : Tab3} (h : Dim L n N) (s0 s1 : Int) (s2 s3 : List ByteArray) (s4 : List S39) (word : List Int) (hw : word.length = L) (hL : L ≤ 900) (s : Int) (hs : s < n) (hs0 : -1000000 ≤ s) (i j : Nat) (hi : i ≤ L) (hj : j ≤ L) :
    least_table_of.f s0 s1 s2 s3 s4 word N s i j = some (ofL word N s i j, s0, s1) := by
  unfold least_table_of.f ofL
  have e1 := h.len
  by_cases c : 0 ≤ s
  · obtain ⟨a, rfl⟩ := Int.eq_ofNat_of_zero_le c
    have ha : a < n := by omega
    have e2 : rd_L4 N (a : Int) = N.getD a [] := by simp [rd_L4]
    have e3 : rd_L2 (N.getD a []) (i : Int) = (N.getD a []).getD i [] := by simp [rd_L2]
    rw [if_pos (by omega), if_pos (by omega), if_pos (by omega), if_pos (by omega), e2, if_pos (by rw [h.mid a ha]; omega), if_pos (by omega), e3, if_pos (by rw [h.row a ha i hi]; omega), if_pos (by omega)]
    simp [node, rd]
  · rw [if_neg (by omega), if_neg c, w64 (by omega) (by omega), w64 (by omega) (by omega)]
    by_cases c2 : j = i + 1
    · rw [if_pos (by omega), if_pos (by omega), if_pos (by omega)]
      have e4 : rd word (i : Int) = word.getD i 0 := by simp [rd]
      rw [e4]
      by_cases c3 : word.getD i 0 = -1 - s
      · rw [if_pos c3, if_pos ⟨c2, c3⟩]
      · rw [if_neg c3, if_neg (fun h => c3 h.2)]
    · rw [if_neg (by omega), if_neg (fun h => c2 h.1)]

section
variable {L n : Nat} {N : Tab3} (hD : Dim L n N) (s0 s1 : Int) (s2 s3 : List ByteArray) (s4 : List S39) (word : List Int) (hw : word.length = L) (hL : L ≤ 900) (syms : List Int) (hs : ∀ s ∈ syms, s < n ∧ -1000000 ≤ s) (hm : syms.length ≤ 1000) (fr z : Nat) (hz : z ≤ L) (hf : fr ≤ z)
include hD hw hL hs hm hz hf

set_option maxHeartbeats 2000000 in
theorem l3_ev (f : Nat → Nat → Int) (K i : Nat) (hK : K < syms.length) (hi : i ≤ z) (hb0 : ∀ j, j ≤ z → -1 ≤ f (K + 1) j ∧ f (K + 1) j ≤ top40) {r : List (List Int) × Int × Int} : ∀ (c j : Nat) (b : Int), j + c = z + 1 → i ≤ j → -1 ≤ b → b ≤ top40 →
    Ev (fun k => least_table_tails.l2 k syms fr z (tabL syms.length z (upd f K i (bestFrom (ofL word N syms[K] i) (f (K + 1)) c j b))) K ((i + 1 : Nat) : Int) s0 s1 s2 s3 s4 word N) r →
    Ev (fun k => least_table_tails.l3 k syms fr z (tabL syms.length z f) K i b j s0 s1 s2 s3 s4 word N) r
  | 0, j, b, hj, hij, h0, h1, H => by
    refine Ev.step (fun k => ?_) H
    simp only [least_table_tails.l3]
    rw [if_neg (by omega), if_pos (by omega), if_pos (by rw [tabL_len]; omega), if_pos (by omega), rd_tabL _ _ _ _ (by omega), if_pos (by simp; omega), w64n i (by omega), Int.toNat_natCast, Int.toNat_natCast, set_tabL _ _ _ _ _ (by omega) hi]
    simp only [bestFrom]
  | c + 1, j, b, hj, hij, h0, h1, H => by
    have hsK := hs syms[K] (List.getElem_mem hK)
    have q1 : (j : Int) ≤ (z : Int) := by clear H hD hs; omega
    have q2 : (0 : Int) ≤ ((K + 1 : Nat) : Int) := by clear H hD hs; omega
    have q3 : ((K + 1 : Nat) : Int) < ((tabL syms.length z f).length : Int) := by rw [tabL_len]; clear H hD hs; omega
    have q4 : (0 : Int) ≤ (j : Int) := by clear H hD hs; omega
    have q5 : (j : Int) < (((List.range (z + 1)).map (f (K + 1))).length : Int) := by rw [List.length_map, List.length_range]; clear H hD hs; omega
    have q9 : K ≤ 1000000 := by clear H hD hs; omega
    have q10 : j ≤ 1000000 := by clear H hD hs; omega
    have q11 : i ≤ 1000000 := by clear H hD hs; omega
    have q7 : (0 : Int) ≤ (K : Int) := by clear H hD hs; omega
    have q8 : (K : Int) < (syms.length : Int) := by clear H hD hs; omega
    have hof := ofL_bounds hD word syms[K] hsK.1 i j (by omega) (by omega)
    have hrest := hb0 j (by omega)
    have hstep : -1 ≤ bestStep (ofL word N syms[K] i) (f (K + 1)) j b ∧ bestStep (ofL word N syms[K] i) (f (K + 1)) j b ≤ top40 := by
      unfold bestStep
      split
      · exact ⟨h0, h1⟩
      · exact better_bounds h0 h1 (by unfold top40; omega) (by omega)
    have H2 := l3_ev f K i hK hi hb0 c (j + 1) _ (by omega) (by omega) hstep.1 hstep.2 (by simpa only [bestFrom] using H)
    -- the join
    have J : ∀ own : Int, own = -1 ∨ own = ofL word N syms[K] i j → (f (K + 1) j = -1 → own = -1) → (f (K + 1) j ≠ -1 → own = ofL word N syms[K] i j) →
        Ev (fun k => least_table_tails.j4 k syms fr z (tabL syms.length z f) K i b j (f (K + 1) j) own s0 s1 s2 s3 s4 word N) r := by
      intro own ho e1 e2
      refine Ev.step (fun k => ?_) H2
      simp only [least_table_tails.j4]
      have ho1 : -1 ≤ own ∧ own ≤ top40 := by
        rcases ho with h | h
        · rw [h]; unfold top40; decide
        · rw [h]; exact hof
      rw [w64s ho1.1 ho1.2 hrest.1 hrest.2, mn_eq, w64n j q10]
      by_cases c1 : own = -1
      · rw [if_pos c1]
        have : bestStep (ofL word N syms[K] i) (f (K + 1)) j b = b := by
          unfold bestStep
          rw [if_pos]
          by_cases c2 : f (K + 1) j = -1
          · exact .inl c2
          · exact .inr (by rw [← e2 c2]; exact c1)
        rw [this]
      · have c2 : f (K + 1) j ≠ -1 := fun h => c1 (e1 h)
        have c3 := e2 c2
        rw [if_neg c1]
        have hb : bestStep (ofL word N syms[K] i) (f (K + 1)) j b = better b (min (own + f (K + 1) j) top40) := by
          unfold bestStep
          rw [if_neg (by rintro (h | h); exact c2 h; exact c1 (c3.trans h)), ← c3]
        rw [hb]
        unfold better
        by_cases c4 : b = -1
        · rw [if_pos c4, if_pos (.inl c4)]
        · rw [if_neg c4]
          by_cases c5 : min (own + f (K + 1) j) top40 < b
          · rw [if_pos c5, if_pos (.inr c5)]
          · rw [if_neg c5, if_neg (by rintro (h | h); exact c4 h; exact c5 h)]
    by_cases c1 : f (K + 1) j = -1
    · refine Ev.step (fun k => ?_) (J (-1) (.inl rfl) (fun _ => rfl) (fun h => absurd c1 h))
      simp only [least_table_tails.l3]
      rw [if_pos q1, w64n K q9, if_pos q2, if_pos q3, if_pos q4, rd_tabL _ _ _ _ hK, if_pos q5, rd_rowL _ _ _ (Int.ofNat_le.1 q1), if_pos c1]
    · refine Ev.step (fun k => ?_) (J (ofL word N syms[K] i j) (.inr rfl) (fun h => absurd h c1) (fun _ => rfl))
      simp only [least_table_tails.l3]
      have hrs : rd syms (K : Int) = syms[K] := by simp [rd, List.getD_eq_getElem?_getD, List.getElem?_eq_getElem hK]
      rw [if_pos q1, w64n K q9, if_pos q2, if_pos q3, if_pos q4, rd_tabL _ _ _ _ hK, if_pos q5, rd_rowL _ _ _ (Int.ofNat_le.1 q1), if_neg c1, if_pos q7, if_pos q8, hrs,
        of_eq hD s0 s1 s2 s3 s4 word hw hL _ hsK.1 hsK.2 i j (by omega) (by omega)]
      rfl

/-- Row k, place i of what comes out. -/
def TL (word : List Int) (N : Tab3) (syms : List Int) (fr z k i : Nat) : Int := if i < fr then -1 else tl word N z (syms.drop k) i
def st2 (word : List Int) (N : Tab3) (syms : List Int) (fr z K i : Nat) : Nat → Nat → Int := fun k' i' => if K + 1 ≤ k' then TL word N syms fr z k' i' else if k' = K ∧ i' < i then TL word N syms fr z K i' else -1
def st1 (word : List Int) (N : Tab3) (syms : List Int) (fr z d : Nat) : Nat → Nat → Int := fun k' i' => if d ≤ k' then TL word N syms fr z k' i' else -1
omit hD hw hL hs hm hz hf in
theorem tabL_congr (m z : Nat) (f g : Nat → Nat → Int) (h : ∀ k i, k ≤ m → i ≤ z → f k i = g k i) : tabL m z f = tabL m z g := by
  unfold tabL
  apply List.map_congr_left
  intro k hk
  apply List.map_congr_left
  intro i hi
  rw [List.mem_range] at hk hi
  exact h k i (by omega) (by omega)
omit hD hw hL hs hm hz hf in
theorem bestFrom_congr {own rest rest' : Nat → Int} : ∀ (c j : Nat) (b : Int), (∀ q, j ≤ q → q < j + c → rest q = rest' q) → bestFrom own rest c j b = bestFrom own rest' c j b
  | 0, _, _, _ => rfl
  | c + 1, j, b, h => by
    unfold bestFrom
    have e : bestStep own rest j b = bestStep own rest' j b := by unfold bestStep; rw [h j (Nat.le_refl _) (by omega)]
    rw [e]
    exact bestFrom_congr c (j + 1) _ (fun q h1 h2 => h q (by omega) (by omega))
theorem TL_bounds (k i : Nat) (hi : i ≤ z) : -1 ≤ TL word N syms fr z k i ∧ TL word N syms fr z k i ≤ top40 := by
  unfold TL
  split
  · unfold top40; decide
  · exact tl_bounds hD word z hz _ (fun q hq => (hs q (List.mem_of_mem_drop hq)).1) i hi

theorem l2_ev (K : Nat) (hK : K < syms.length) {r : List (List Int) × Int × Int} : ∀ (c i : Nat), i + c = z + 1 → fr ≤ i →
    Ev (fun k => least_table_tails.l1 k syms fr z (tabL syms.length z (st1 word N syms fr z K)) ((K : Int) - 1) s0 s1 s2 s3 s4 word N) r →
    Ev (fun k => least_table_tails.l2 k syms fr z (tabL syms.length z (st2 word N syms fr z K i)) K i s0 s1 s2 s3 s4 word N) r
  | 0, i, hi, hfi, H => by
    refine Ev.step (fun k => ?_) H
    simp only [least_table_tails.l2]
    rw [if_neg (by omega), w64p K (by omega)]
    congr 1
    refine tabL_congr _ _ _ _ (fun k' i' h1 h2 => ?_)
    unfold st2 st1
    by_cases c1 : K + 1 ≤ k'
    · rw [if_pos c1, if_pos (by omega)]
    · rw [if_neg c1]
      by_cases c2 : k' = K
      · rw [if_pos ⟨c2, by omega⟩, if_pos (by omega), c2]
      · rw [if_neg (fun h => c2 h.1), if_neg (by omega)]
  | c + 1, i, hi, hfi, H => by
    have H2 := l2_ev K hK c (i + 1) (by omega) (by omega) H
    have key := l3_ev hD s0 s1 s2 s3 s4 word hw hL syms hs hm fr z hz hf (st2 word N syms fr z K i) K i hK (by omega) (fun j hj => by
        unfold st2
        rw [if_pos (by omega)]
        exact TL_bounds hD word hw hL syms hs hm fr z hz hf (K + 1) j hj) (r := r) (z + 1 - i) i (-1) (by omega) (Nat.le_refl _) (by omega) (by unfold top40; omega) (by
      have e : upd (st2 word N syms fr z K i) K i (bestFrom (ofL word N syms[K] i) (st2 word N syms fr z K i (K + 1)) (z + 1 - i) i (-1)) = st2 word N syms fr z K (i + 1) := by
        funext k' i'
        unfold upd
        by_cases c1 : k' = K ∧ i' = i
        · obtain ⟨rfl, rfl⟩ := c1
          rw [if_pos ⟨rfl, rfl⟩]
          unfold st2
          rw [if_neg (by omega), if_pos ⟨rfl, by omega⟩]
          unfold TL
          rw [if_neg (by omega), List.drop_eq_getElem_cons hK]
          show _ = bestFrom _ _ _ _ _
          refine bestFrom_congr _ _ _ (fun q h1 h2 => ?_)
          rw [if_pos (by omega), if_neg (by omega)]
        · rw [if_neg c1]
          unfold st2
          by_cases c2 : K + 1 ≤ k'
          · rw [if_pos c2, if_pos c2]
          · rw [if_neg c2, if_neg c2]
            by_cases c3 : k' = K
            · by_cases c4 : i' < i
              · rw [if_pos ⟨c3, c4⟩, if_pos ⟨c3, by omega⟩]
              · rw [if_neg (fun h => c4 h.2), if_neg (fun h => by omega)]
            · rw [if_neg (fun h => c3 h.1), if_neg (fun h => c3 h.1)]
      rw [e]
      exact H2)
    refine Ev.step (fun k => ?_) key
    simp only [least_table_tails.l2]
    rw [if_pos (by omega)]

theorem l1_ev : ∀ (d : Nat), d ≤ syms.length →
    Ev (fun k => least_table_tails.l1 k syms fr z (tabL syms.length z (st1 word N syms fr z d)) ((d : Int) - 1) s0 s1 s2 s3 s4 word N) (tabL syms.length z (TL word N syms fr z), s0, s1)
  | 0, _ => by
    refine Ev.step (fun k => ?_) (Ev.now _)
    simp only [least_table_tails.l1]
    rw [if_neg (by omega)]
    rw [show tabL syms.length z (st1 word N syms fr z 0) = tabL syms.length z (TL word N syms fr z) from tabL_congr _ _ _ _ (fun k' i' h1 h2 => by unfold st1; rw [if_pos (Nat.zero_le _)])]
  | d + 1, hd => by
    have H := l1_ev d (by omega)
    have H2 := l2_ev hD s0 s1 s2 s3 s4 word hw hL syms hs hm fr z hz hf d (by omega) (z + 1 - fr) fr (by omega) (Nat.le_refl _) H
    refine Ev.step (fun k => ?_) H2
    simp only [least_table_tails.l1]
    rw [if_pos (by omega), show ((d + 1 : Nat) : Int) - 1 = (d : Int) by omega]
    congr 1
    refine tabL_congr _ _ _ _ (fun k' i' h1 h2 => ?_)
    unfold st1 st2
    by_cases c1 : d + 1 ≤ k'
    · rw [if_pos c1, if_pos c1]
    · rw [if_neg c1, if_neg c1]
      by_cases c2 : k' = d ∧ i' < fr
      · rw [if_pos c2]; unfold TL; rw [if_pos c2.2]
      · rw [if_neg c2]

theorem l0_ev : ∀ (c e : Nat), e + c = syms.length + 1 →
    Ev (fun k => least_table_tails.l0 k syms fr z (List.replicate e (List.replicate (z + 1) (-1)) ++ List.replicate c []) ((syms.length + 1 : Nat) : Int) e s0 s1 s2 s3 s4 word N) (tabL syms.length z (TL word N syms fr z), s0, s1)
  | 0, e, he => by
    obtain rfl : e = syms.length + 1 := by omega
    have H := l1_ev hD s0 s1 s2 s3 s4 word hw hL syms hs hm fr z hz hf syms.length (Nat.le_refl _)
    refine Ev.step (fun k => ?_) H
    simp only [least_table_tails.l0]
    have e0 : List.replicate (syms.length + 1) (List.replicate (z + 1) (-1 : Int)) ++ List.replicate 0 [] = tabL syms.length z (fun _ _ => -1) := by
      unfold tabL
      rw [List.replicate_zero, List.append_nil]
      apply List.ext_getElem
      · simp
      · intro a h1 h2
        rw [List.getElem_replicate, List.getElem_map]
        exact (by rw [List.map_const', List.length_range])
    rw [e0, if_neg (by omega), if_pos (by omega), if_pos (by rw [tabL_len]; omega), if_pos (by omega), rd_tabL _ _ _ _ (Nat.le_refl _), if_pos (by simp; omega), Int.toNat_natCast, Int.toNat_natCast, set_tabL _ _ _ _ _ (Nat.le_refl _) (Nat.le_refl _), w64p _ (by omega)]
    congr 1
    refine tabL_congr _ _ _ _ (fun k' i' h1 h2 => ?_)
    unfold st1 upd
    by_cases c1 : k' = syms.length
    · subst c1
      rw [if_pos (Nat.le_refl syms.length)]
      unfold TL
      rw [List.drop_length]
      show _ = if i' < fr then -1 else if i' = z then 0 else -1
      by_cases c2 : i' = z
      · rw [if_pos ⟨rfl, c2⟩, if_neg (by omega), if_pos c2]
      · rw [if_neg (fun h => c2 h.2), if_neg c2]
        split <;> rfl
    · rw [if_neg (fun h => c1 h.1), if_neg (by omega)]
  | c + 1, e, he => by
    have H := l0_ev c (e + 1) (by omega)
    refine Ev.step (fun k => ?_) H
    simp only [least_table_tails.l0]
    have hrep : slices_Repeat_int_int.f ([(-1)] : List Int) ((z + 1 : Nat) : Int) = some (List.replicate (z + 1) (-1)) := by
      unfold slices_Repeat_int_int.f
      rw [if_pos ⟨rfl, by omega, by omega⟩]
      rfl
    rw [if_pos (by omega), w64n z (by omega), hrep, Option.bind_some, if_pos (by omega), if_pos (by simp; omega), w64n e (by omega), Int.toNat_natCast]
    congr 1
    rw [List.set_append_right _ _ (by simp), List.length_replicate, Nat.sub_self]
    rw [List.replicate_succ (n := c) (a := ([] : List Int)), List.set_cons_zero, List.replicate_succ' (n := e) (a := List.replicate (z + 1) (-1 : Int)), List.append_assoc]
    rfl

theorem tails_ev : Ev (fun k => least_table_tails.f k s0 s1 s2 s3 s4 word N syms fr z) (tabL syms.length z (TL word N syms fr z), s0, s1) := by
  have H := l0_ev hD s0 s1 s2 s3 s4 word hw hL syms hs hm fr z hz hf (syms.length + 1) 0 (by omega)
  have e : ∀ k, least_table_tails.f k s0 s1 s2 s3 s4 word N syms fr z = least_table_tails.l0 k syms fr z (List.replicate 0 (List.replicate (z + 1) (-1)) ++ List.replicate (syms.length + 1) []) ((syms.length + 1 : Nat) : Int) (0 : Nat) s0 s1 s2 s3 s4 word N := by
    intro k
    unfold least_table_tails.f
    rw [w64n _ (by omega), if_pos (by omega), Int.toNat_natCast, if_pos (by omega), Option.bind_some, List.length_replicate]
    rfl
  obtain ⟨K, hK⟩ := H
  exact ⟨K, fun k hk => (e k).trans (hK k hk)⟩
end
end Go.Proofs.Ytnkpmogpmcggiaa
