/- LeastBest: what its parts compute is as the law wants it. -/
import Derived.Test.YtnkpmogpmcggiaaLOpt
import Derived.Test.YtnkpmogpmcggiaaLBest
set_option linter.unusedVariables false
set_option linter.unusedSimpArgs false
namespace Go.Proofs.Ytnkpmogpmcggiaa
open Go.RowKit Go.Proofs.YtnkpmogpmcggiaaW.PrintWords Go.Proofs.YtnkpmogpmcggiaaW.PrintLast Go.Proofs.YtnkpmogpmcggiaaW.PrintMore

theorem rd30_of_drop {L : List S30} {i : Nat} {t : S30} {r : List S30} (h : L.drop i = t :: r) : i < L.length ∧ rd_T30 L (i : Int) = t ∧ L.drop (i + 1) = r := by
  have hl : i < L.length := by
    rcases Nat.lt_or_ge i L.length with h1 | h1
    · exact h1
    · rw [List.drop_eq_nil_of_le h1] at h; cases h
  rw [List.drop_eq_getElem_cons hl] at h
  injection h with h1 h2
  refine ⟨hl, ?_, h2⟩
  rw [← h1]
  simp [rd_T30, List.getD_eq_getElem?_getD, List.getElem?_eq_getElem hl]
theorem szs_cons (t : S30) (r : List S30) : szs (t :: r) = szT t + szs r := by rw [szs]
theorem szs_nil : szs [] = 0 := by rw [szs]
theorem szT_mk (p : Int) (ks : List S30) : szT ⟨p, ks⟩ = szs ks + 1 := by rw [szT]
theorem ys_cons (t : S30) (r : List S30) : ys (t :: r) = yT t ++ ys r := by rw [ys]
theorem ys_nil : ys [] = [] := by rw [ys]
theorem yT_mk (p : Int) (ks : List S30) : yT ⟨p, ks⟩ = if p < 0 then [-1 - p] else ys ks := by rw [yT]
theorem szs_ge : ∀ r : List S30, r.length ≤ szs r
  | [] => Nat.zero_le _
  | t :: r => by
    have h1 := szT_pos t
    have h2 := szs_ge r
    rw [szs_cons, List.length_cons]
    omega
mutual
theorem size_T : ∀ t : S30, szT t ≤ 100000 → ∃ (K : Nat) (d : Int), 0 ≤ d ∧ d ≤ szT t ∧ ∀ k, K ≤ k → tree_Size.f k t.f0 t.f1 = some ((szT t : Int), d)
  | ⟨p, ks⟩, h => by
    rw [szT_mk] at h ⊢
    have hl := szs_ge ks
    obtain ⟨K, d, h0, h1, hk⟩ := size_s ks ks 0 1 0 rfl (by omega) (by omega) (by omega) (by omega) (by omega)
    refine ⟨K + 1, d, h0, by omega, fun k hk2 => ?_⟩
    obtain ⟨k, rfl⟩ : ∃ m, k = m + 1 := ⟨k - 1, by omega⟩
    have h2 := hk k (by omega)
    rw [tree_Size.f]
    simp only [Int.ofNat_zero, Int.natCast_zero] at h2 ⊢
    rw [h2]
    congr 2
    omega
theorem size_s : ∀ (r L : List S30) (i : Nat) (acc dd : Int), L.drop i = r → acc + szs r ≤ 100001 → L.length ≤ 100000 → 1 ≤ acc → 0 ≤ dd → dd ≤ 100000 → ∃ (K : Nat) (d : Int), 0 ≤ d ∧ (d ≤ dd + 1 ∨ d ≤ (szs r : Int) + 1) ∧ ∀ k, K ≤ k → tree_Size.l0 k acc dd L (L.length : Int) (i : Int) = some (acc + szs r, d)
  | [], L, i, acc, dd, h, hs, hL, a0, d0, d1 => by
    have hl : L.length ≤ i := by
      rcases Nat.lt_or_ge i L.length with h1 | h1
      · rw [List.drop_eq_getElem_cons h1] at h; cases h
      · exact h1
    refine ⟨1, dd + 1, by omega, .inl (by omega), fun k hk => ?_⟩
    obtain ⟨k, rfl⟩ : ∃ m, k = m + 1 := ⟨k - 1, by omega⟩
    rw [tree_Size.l0, if_neg (by omega), szs_nil, show wrap64 (dd + 1) = dd + 1 from by unfold wrap64; omega]
    simp
  | t :: r, L, i, acc, dd, h, hs, hL, a0, d0, d1 => by
    obtain ⟨hl, hr, hd⟩ := rd30_of_drop h
    rw [szs_cons] at hs
    have hb : szT t ≤ 100000 := by omega
    obtain ⟨K1, d, e0, e1, hk1⟩ := size_T t hb
    have hm : 0 ≤ mx dd d ∧ mx dd d ≤ 100000 ∧ (mx dd d = dd ∨ mx dd d = d) := by unfold mx; split <;> omega
    obtain ⟨K2, d', e2, e3, hk2⟩ := size_s r L (i + 1) (acc + szT t) (mx dd d) hd (by omega) hL (by omega) hm.1 hm.2.1
    refine ⟨K1 + K2 + 1, d', e2, ?_, fun k hk => ?_⟩
    · rw [szs_cons]
      have := szT_pos t
      rcases e3 with e3 | e3
      · rcases hm.2.2 with h4 | h4
        · exact .inl (by omega)
        · exact .inr (by omega)
      · exact .inr (by omega)
    · obtain ⟨k, rfl⟩ : ∃ m, k = m + 1 := ⟨k - 1, by omega⟩
      rw [tree_Size.l0, if_pos (by omega), if_pos (by omega), if_pos (by omega), hr, hk1 k (by omega)]
      simp only [Option.bind_some]
      rw [show wrap64 (acc + szT t) = acc + szT t from by unfold wrap64; omega, show wrap64 ((i : Int) + 1) = ((i + 1 : Nat) : Int) from by unfold wrap64; omega, hk2 k (by omega), szs_cons]
      congr 2
      omega
end

/-- Symbols that are no less than -1000. -/
def LowS (prods : List S39) : Prop := ∀ x ∈ prods, ∀ s ∈ x.f1, -1000 ≤ s
mutual
theorem yT_len : ∀ t : S30, (yT t).length ≤ szT t
  | ⟨p, ks⟩ => by
    rw [yT_mk, szT_mk]
    have := ys_len ks
    split
    · simp
    · omega
theorem ys_len : ∀ r : List S30, (ys r).length ≤ szs r
  | [] => by rw [ys_nil]; exact Nat.zero_le _
  | t :: r => by
    have h1 := yT_len t
    have h2 := ys_len r
    rw [ys_cons, szs_cons, List.length_append]
    omega
end
mutual
theorem yield_T {prods : List S39} (hp : LowS prods) : ∀ (t : S30) (s : Int), okT prods s t → -1000 ≤ s → szT t ≤ 100000 → ∃ K, ∀ k, K ≤ k → tree_Yield.f k t.f0 t.f1 = some (yT t)
  | ⟨p, ks⟩, s, hok, hs, hz => by
    rw [szT_mk] at hz
    unfold okT at hok
    rcases hok with ⟨h0, rfl, rfl⟩ | ⟨h0, h1, h2, h3, h4⟩
    · refine ⟨1, fun k hk => ?_⟩
      obtain ⟨k, rfl⟩ : ∃ m, k = m + 1 := ⟨k - 1, by omega⟩
      rw [tree_Yield.f]
      simp only
      rw [if_pos h0, yT_mk, if_pos h0, show wrap64 (-1 - p) = -1 - p from by unfold wrap64; omega]
    · obtain ⟨K, hk⟩ := yield_s hp ks (rd_T39 prods p).f1 ks 0 [] h4 (hp _ (rd_mem39 prods p h0 h1)) rfl (by simp; omega) (by have := szs_ge ks; omega)
      refine ⟨K + 1, fun k hk2 => ?_⟩
      obtain ⟨k, rfl⟩ : ∃ m, k = m + 1 := ⟨k - 1, by omega⟩
      have h5 := hk k (by omega)
      rw [tree_Yield.f, yT_mk]
      simp only
      rw [if_neg (by omega), if_neg (by omega)]
      simpa using h5
theorem yield_s {prods : List S39} (hp : LowS prods) : ∀ (r : List S30) (syms : List Int) (L : List S30) (i : Nat) (acc : List Int), oks prods syms r → (∀ s ∈ syms, -1000 ≤ s) → L.drop i = r → acc.length + szs r ≤ 100000 → L.length ≤ 100000 → ∃ K, ∀ k, K ≤ k → tree_Yield.l0 k acc L (L.length : Int) (i : Int) = some (acc ++ ys r)
  | [], syms, L, i, acc, hok, hs, h, hz, hL => by
    have hl : L.length ≤ i := by
      rcases Nat.lt_or_ge i L.length with h1 | h1
      · rw [List.drop_eq_getElem_cons h1] at h; cases h
      · exact h1
    refine ⟨1, fun k hk => ?_⟩
    obtain ⟨k, rfl⟩ : ∃ m, k = m + 1 := ⟨k - 1, by omega⟩
    rw [tree_Yield.l0, if_neg (by omega), ys_nil, List.append_nil]
  | t :: r, syms, L, i, acc, hok, hs, h, hz, hL => by
    obtain ⟨hl, hr, hd⟩ := rd30_of_drop h
    obtain ⟨s, r', rfl, o1, o2⟩ := oks_cons hok
    rw [szs_cons] at hz
    have hyl := yT_len t
    obtain ⟨K1, hk1⟩ := yield_T hp t s o1 (hs s (by simp)) (by omega)
    obtain ⟨K2, hk2⟩ := yield_s hp r r' L (i + 1) (acc ++ yT t) o2 (fun q hq => hs q (by simp [hq])) hd (by rw [List.length_append]; omega) hL
    refine ⟨K1 + K2 + 1, fun k hk => ?_⟩
    obtain ⟨k, rfl⟩ : ∃ m, k = m + 1 := ⟨k - 1, by omega⟩
    rw [tree_Yield.l0, if_pos (by omega), if_pos (by omega), if_pos (by omega), hr, hk1 k (by omega)]
    simp only [Option.bind_some]
    rw [if_pos (by omega), show wrap64 ((i : Int) + 1) = ((i + 1 : Nat) : Int) from by unfold wrap64; omega, hk2 k (by omega), ys_cons, List.append_assoc]
end
mutual
/-- Terminals of the yield. -/
theorem yT_terms {prods : List S39} {T : Int} (hp : ∀ x ∈ prods, ∀ s ∈ x.f1, -T ≤ s) : ∀ (t : S30) (s : Int), okT prods s t → -T ≤ s → ∀ v ∈ yT t, 0 ≤ v ∧ v < T
  | ⟨p, ks⟩, s, hok, hs, v, hv => by
    unfold okT at hok
    rw [yT_mk] at hv
    rcases hok with ⟨h0, rfl, rfl⟩ | ⟨h0, h1, h2, h3, h4⟩
    · rw [if_pos h0] at hv
      obtain rfl := List.mem_singleton.1 hv
      omega
    · rw [if_neg (by omega)] at hv
      exact ys_terms hp ks (rd_T39 prods p).f1 h4 (hp _ (rd_mem39 prods p h0 h1)) v hv
theorem ys_terms {prods : List S39} {T : Int} (hp : ∀ x ∈ prods, ∀ s ∈ x.f1, -T ≤ s) : ∀ (r : List S30) (syms : List Int), oks prods syms r → (∀ s ∈ syms, -T ≤ s) → ∀ v ∈ ys r, 0 ≤ v ∧ v < T
  | [], syms, hok, hs, v, hv => by rw [ys_nil] at hv; cases hv
  | t :: r, syms, hok, hs, v, hv => by
    obtain ⟨s, r', rfl, o1, o2⟩ := oks_cons hok
    rw [ys_cons] at hv
    rcases List.mem_append.1 hv with hv | hv
    · exact yT_terms hp t s o1 (hs s (by simp)) v hv
    · exact ys_terms hp r r' o2 (fun q hq => hs q (by simp [hq])) v hv
end
/-- The tree that choices tell is one of the grammar's, and no great one. -/
theorem rd39_map (q : List S64) (p : Int) (h0 : 0 ≤ p) (h1 : p < q.length) : rd_T39 (q.map convP) p = convP (rd_T64 q p) := by
  simp [rd_T39, rd_T64, List.getD_eq_getElem?_getD, List.getElem?_eq_getElem (show p.toNat < q.length by omega)]
theorem kidsG_ok {prods : List S39} {f : Int → Nat → Option (Option S30 × Nat)} (hf : ∀ s n t m, f s n = some (some t, m) → okT prods s t ∧ n ≤ m ∧ szT t ≤ 4 * (m - n) + 1) : ∀ (r : List Int) (n : Nat) (ks : List S30) (m : Nat), kidsG f r n = some (some ks, m) → oks prods r ks ∧ n ≤ m ∧ szs ks ≤ 4 * (m - n) + r.length
  | [], n, ks, m, h => by
    simp only [kidsG, Option.some.injEq, Prod.mk.injEq] at h
    obtain ⟨rfl, rfl⟩ := h
    refine ⟨by unfold oks; trivial, Nat.le_refl _, ?_⟩
    rw [szs_nil]; omega
  | s :: r, n, ks, m, h => by
    rcases kidsG_cons h with ⟨n', _, h2, _⟩ | ⟨x, n', u', h1, h2, h3⟩
    · cases h2
    · cases u' with
      | none => cases h3
      | some us =>
        simp only [Option.map_some, Option.some.injEq] at h3
        subst h3
        obtain ⟨a1, a2, a3⟩ := hf _ _ _ _ h1
        obtain ⟨b1, b2, b3⟩ := kidsG_ok hf r n' us m h2
        refine ⟨by unfold oks; exact ⟨a1, b1⟩, by omega, ?_⟩
        rw [szs_cons, List.length_cons]
        omega
theorem grownG_ok (q : List S64) (choices : List Int) (hq : ∀ y ∈ q, y.f1.length ≤ 4) : ∀ (k : Nat) (s : Int) (n : Nat) (t : S30) (m : Nat), grownG q choices k s n = some (some t, m) → okT (q.map convP) s t ∧ n ≤ m ∧ szT t ≤ 4 * (m - n) + 1
  | 0, s, n, t, m, h => by cases h
  | k + 1, s, n, t, m, h => by
    unfold grownG at h
    split at h
    · rename_i c
      simp only [Option.some.injEq, Prod.mk.injEq] at h
      obtain ⟨rfl, rfl⟩ := h
      refine ⟨by unfold okT; exact .inl ⟨c, rfl, rfl⟩, Nat.le_refl _, ?_⟩
      rw [szT_mk, szs_nil]; omega
    · rename_i c
      split at h
      · simp at h
      · split at h
        · simp at h
        · rename_i c2
          obtain ⟨m1, m2, m3⟩ := ownG_mem q s q.length _ (pickG_mem q s (ownG q s q.length) (rd choices n) c2)
          generalize pickG (ownG q s q.length) (rd choices n) = p at *
          cases hk : kidsG (grownG q choices k) (rd_T64 q p).f1 (n + 1) with
          | none => rw [hk] at h; cases h
          | some u =>
            obtain ⟨u1, u2⟩ := u
            rw [hk] at h
            simp only [Option.bind_some, Option.some.injEq, Prod.mk.injEq] at h
            obtain ⟨h1, rfl⟩ := h
            cases u1 with
            | none => cases h1
            | some ks =>
              simp only [Option.map_some, Option.some.injEq] at h1
              subst h1
              obtain ⟨b1, b2, b3⟩ := kidsG_ok (grownG_ok q choices hq k) _ _ _ _ hk
              have hmem : rd_T64 q p ∈ q := by
                have e : rd_T64 q p = q[p.toNat]'(by omega) := by simp [rd_T64, List.getD_eq_getElem?_getD, List.getElem?_eq_getElem (show p.toNat < q.length by omega)]
                rw [e]; exact List.getElem_mem _
              have hl := hq _ hmem
              have hrd := rd39_map q p m1 m2
              refine ⟨?_, by omega, ?_⟩
              · unfold okT
                refine .inr ⟨m1, by rw [List.length_map]; exact m2, by omega, ?_, ?_⟩
                · rw [hrd]; exact m3
                · rw [hrd]; exact b1
              · rw [szT_mk]; omega
end Go.Proofs.Ytnkpmogpmcggiaa

/- LeastBest, whatever the input. -/
set_option linter.unusedVariables false
set_option linter.unusedSimpArgs false
namespace Go.Proofs.Ytnkpmogpmcggiaa
open Go.RowKit Go.Proofs.YtnkpmogpmcggiaaW.PrintWords Go.Proofs.YtnkpmogpmcggiaaW.PrintLast Go.Proofs.YtnkpmogpmcggiaaW.PrintMore

theorem apart_big (c : Nat) (h : c ≤ 4) : Apart (nameL 65 c) 65536 := by
  have : c = 0 ∨ c = 1 ∨ c = 2 ∨ c = 3 ∨ c = 4 := by omega
  rcases this with rfl | rfl | rfl | rfl | rfl <;> exact ⟨by decide +kernel, by decide +kernel⟩
theorem apart_small (c : Nat) (h : c ≤ 3) : Apart (nameL 97 c) 16 := by
  have : c = 0 ∨ c = 1 ∨ c = 2 ∨ c = 3 := by omega
  rcases this with rfl | rfl | rfl | rfl <;> exact ⟨by decide +kernel, by decide +kernel⟩
theorem made_sound {n t : Int} {q : List S64} (n0 : 1 ≤ n) (n1 : n ≤ 4) (t0 : 0 ≤ t) (t1 : t ≤ 3) (hq : PInv n t (n - 1) 48 q) : SoundL n (nameL 65 n.toNat) (nameL 97 t.toNat) (q.map convP) := by
  have h1 := nameL_length 65 n.toNat
  have h2 := nameL_length 97 t.toNat
  have hl := hq.len
  refine ⟨by omega, by omega, by omega, by omega, apart_big _ (by omega), by omega, apart_small _ (by omega), by rw [List.length_map]; omega, fun x hx => ?_, fun k hk => ?_⟩
  · obtain ⟨y, hy, rfl⟩ := List.mem_map.1 hx
    obtain ⟨a, b, c, d⟩ := hq.all y hy
    refine ⟨a, by show y.f0 < _; omega, by show y.f1.length ≤ 16; omega, ?_⟩
    rw [List.any_eq_false]
    intro s hs
    have := d s hs
    unfold symOut
    simp only [Bool.or_eq_true, decide_eq_true_eq]
    omega
  · rw [List.length_map] at hk
    rw [rd39_map q k (by omega) (by omega), rd39_map q _ (by omega) (by omega)]
    have hp := List.pairwise_iff_getElem.1 hq.sorted k (k + 1) (by omega) hk (by omega)
    have e1 : rd_T64 q (k : Int) = q[k] := by simp [rd_T64, List.getD_eq_getElem?_getD, List.getElem?_eq_getElem (show k < q.length by omega)]
    have e2 : rd_T64 q ((k + 1 : Nat) : Int) = q[k + 1] := by simp [rd_T64, List.getD_eq_getElem?_getD, List.getElem?_eq_getElem hk]
    rw [e1, e2]
    exact hp
theorem seg_all (word : List Int) : seg word 0 word.length = word := by unfold seg; simp

theorem best_ok {n t s0 : Int} {q : List S64} (n0 : 1 ≤ n) (n1 : n ≤ 4) (t0 : 0 ≤ t) (t1 : t ≤ 3) (h0 : 0 ≤ s0) (h1 : s0 < n) (hq : PInv n t (n - 1) 48 q) (choices : List Int) :
    BestOk s0 n (nameL 65 n.toNat) (nameL 97 t.toNat) (q.map convP) s0 q choices := by
  have hl := hq.len
  have hall := hq.all
  refine ⟨by omega, fun y hy => by have := (hall y hy).2.2.1; omega, ?_⟩
  obtain ⟨o, m, hg, _, hm⟩ := grownG_some q choices 64 s0 0 (by omega) (by omega) (by omega)
  refine ⟨o, m, hg, fun tr htr => ?_⟩
  subst htr
  obtain ⟨ok, _, hsz⟩ := grownG_ok q choices (fun y hy => (hall y hy).2.2.1) 64 s0 0 tr m hg
  have hsyms : ∀ x ∈ q.map convP, ∀ s ∈ x.f1, -t ≤ s := fun x hx s hs => by
    obtain ⟨y, hy, rfl⟩ := List.mem_map.1 hx
    exact ((hall y hy).2.2.2 s hs).1
  have hlow : LowS (q.map convP) := fun x hx s hs => by have := hsyms x hx s hs; omega
  obtain ⟨ky, hky⟩ := yield_T hlow tr s0 ok (by omega) (by omega)
  refine ⟨ky, yT tr, hky ky (Nat.le_refl _), fun h12 => ?_⟩
  have hn1 := nameL_length 65 n.toNat
  have hn2 := nameL_length 97 t.toNat
  have hR : RightL s0 n (nameL 65 n.toNat) (nameL 97 t.toNat) (q.map convP) (yT tr) := by
    refine ⟨made_sound n0 n1 t0 t1 hq, h0, by omega, by omega, ?_⟩
    rw [List.any_eq_false]
    intro v hv
    have := yT_terms hsyms tr s0 ok (by omega) v hv
    unfold termOut
    simp only [Bool.or_eq_true, decide_eq_true_eq]
    omega
  have hF : Full (nameL 65 n.toNat).length (q.map convP) (yT tr) (fillL (nameL 65 n.toNat).length (q.map convP) (yT tr)) := fillL_full (fun x hx => ⟨(hR.over x hx).1, (hR.over x hx).2.1, fun s hs => ((hR.over x hx).2.2.2 s hs).1⟩)
  generalize hN : fillL (nameL 65 n.toNat).length (q.map convP) (yT tr) = N at *
  have hmin := leq_le (min_T hF tr s0 0 (yT tr).length ok (by omega) (Nat.zero_le _) (Nat.le_refl _) (seg_all _).symm)
  have hle : ofL (yT tr) N s0 0 (yT tr).length ≤ szT tr := by have := hmin.2; omega
  obtain ⟨u, hu, hb⟩ := tree_ok hF 70000 s0 0 (yT tr).length (by omega) (Nat.zero_le _) (Nat.le_refl _) hmin.1 (by omega) (by omega)
  have hus := hb.size
  obtain ⟨kn, d, _, _, hkn⟩ := size_T tr (by omega)
  obtain ⟨km, d', _, _, hkm⟩ := size_T u (by omega)
  refine ⟨u.f0, u.f1, kn, szT tr, d, km, szT u, d', ?_, hkn kn (Nat.le_refl _), hkm km (Nat.le_refl _), by omega, ?_⟩
  · unfold least_Tree.f
    rw [if_pos hR, hN, if_neg hmin.1, if_neg (by omega), hu]
    rfl
  · by_cases hlt : (szT u : Int) < szT tr
    · exact .inl hlt
    · refine .inr ?_
      obtain ⟨hf1, hf2⟩ := hb.first h0
      obtain ⟨p, ks⟩ := tr
      unfold okT at ok
      rcases ok with ⟨c, _⟩ | ⟨p0, p1, _, p3, p4⟩
      · omega
      · have hx := rd_mem39 _ p p0 p1
        have hsy := (hF.over _ hx).2.2
        have hyk : yT ⟨p, ks⟩ = ys ks := by rw [yT_mk, if_neg (by omega)]
        have hms := min_s hF ks _ 0 (yT ⟨p, ks⟩).length p4 hsy (Nat.zero_le _) (Nat.le_refl _) (by rw [seg_all, hyk])
        have hms2 := leq_le hms
        have hcl := hF.closed 0 (yT ⟨p, ks⟩).length (Nat.zero_le _) (Nat.le_refl _) _ hx
        rw [p3] at hcl
        have hof : ofL (yT ⟨p, ks⟩) N s0 0 (yT ⟨p, ks⟩).length = node N s0.toNat 0 (yT ⟨p, ks⟩).length := by unfold ofL; rw [if_pos h0]
        have htb := tl_bounds hF.dim (yT ⟨p, ks⟩) (yT ⟨p, ks⟩).length (Nat.le_refl _) (rd_T39 (q.map convP) p).f1 hsy 0 (Nat.zero_le _)
        rw [szT_mk] at hlt hle hsz
        have hhit : hitL (yT ⟨p, ks⟩) N s0 0 (yT ⟨p, ks⟩).length (node N s0.toNat 0 (yT ⟨p, ks⟩).length) (rd_T39 (q.map convP) p) = true := by
          unfold hitL
          have e1 : tl (yT ⟨p, ks⟩) N (yT ⟨p, ks⟩).length (rd_T39 (q.map convP) p).f1 0 + 1 = node N s0.toNat 0 (yT ⟨p, ks⟩).length := by
            have h2 := hms2.2
            unfold capS Leq top40 at hcl
            split at hcl
            · omega
            · unfold top40 at h2
              omega
          rw [decide_eq_true p3, decide_eq_true hms2.1, decide_eq_true e1]
          rfl
        obtain ⟨g1, _, g3⟩ := List.findIdx?_eq_some_iff_getElem.1 hf1
        show u.f0 ≤ p
        rcases Int.lt_or_le p u.f0 with hc | hc
        · exfalso
          have h5 := g3 p.toNat (by omega)
          have e : (q.map convP)[p.toNat]'(by omega) = rd_T39 (q.map convP) p := by simp [rd_T39, List.getD_eq_getElem?_getD, List.getElem?_eq_getElem (show p.toNat < q.length by rw [List.length_map] at p1; omega)]
          rw [e, hhit] at h5
          simp at h5
        · exact hc
/-- LeastBest returns true. -/
theorem best_true (a0 a1 a2 : Int) (A3 : Option Addr) (c3 : Nat) (l3 : List Int) (A4 : Option Addr) (c4 : Nat) (l4 : List (List Int)) (A1 : Option Addr) (c1 : Nat) (l1 : List Int) (W : World)
    (h3 : Kd.C (Kd.int .i64) W A3 l3.length l3) (hc3 : l3.length ≤ c3) (h4 : Kd.C (Kd.slice 3 (Kd.int .i64)) W A4 l4.length l4) (hc4 : l4.length ≤ c4) (h1 : Kd.C (Kd.int .i64) W A1 l1.length l1) (hc1 : l1.length ≤ c1) :
    Calls Try.prog 5 #[.agg #[.int .i64 a0, .int .i64 a1, .int .i64 a2, .slice A3 l3.length c3, .slice A4 l4.length c4], .slice A1 l1.length c1] W fun e w' => e = .returned (.bool true) ∧ Below W.heap.size W w' := by
  obtain ⟨n, t, s0, k, r, hf, n0, n1, t0, t1, s1, s2, q, rfl, hq⟩ := made_some a0 a1 a2 l3 l4
  exact best_calls k a0 a1 a2 A3 c3 l3 A4 c4 l4 A1 c1 l1 W h3 hc3 h4 hc4 h1 hc1 _ _ _ _ _ _ _ _ _ _ hf (best_ok n0 n1 t0 t1 s1 s2 hq l1)
end Go.Proofs.Ytnkpmogpmcggiaa
