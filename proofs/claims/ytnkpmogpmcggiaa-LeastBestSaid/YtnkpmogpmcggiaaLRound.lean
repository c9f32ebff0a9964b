/- One round over the productions. -/
import Derived.Test.YtnkpmogpmcggiaaLPut
import Derived.RegionTactic
set_option linter.unusedVariables false
set_option linter.unusedSimpArgs false
namespace Go.Proofs.Ytnkpmogpmcggiaa
open Go.RowKit Go.Proofs.YtnkpmogpmcggiaaW.PrintWords Go.Proofs.YtnkpmogpmcggiaaW.PrintLast Go.Proofs.YtnkpmogpmcggiaaW.PrintMore
attribute [local go_sem] max2_int min2_int max_two min_two

/-- Productions over n nonterminals. -/
def Over (n : Nat) (l4 : List S39) : Prop := ∀ x ∈ l4, 0 ≤ x.f0 ∧ x.f0 < n ∧ x.f1.length ≤ 16 ∧ ∀ s ∈ x.f1, s < n ∧ -1000000 ≤ s

theorem roundL_dims {L n : Nat} {N : Tab3} (hD : Dim L n N) {l4 : List S39} (hx : Over n l4) (word : List Int) {i j : Nat} (hij : i ≤ j) (hj : j ≤ L) (k : Nat) : Dim L n (roundL (l4.take k) word i j N).1 :=
  roundL_dim hij hj _ _ hD (fun x h => ⟨(hx x (List.mem_of_mem_take h)).1, (hx x (List.mem_of_mem_take h)).2.1, fun s hs => ((hx x (List.mem_of_mem_take h)).2.2.2 s hs).1⟩)

set_option maxHeartbeats 8000000 in
theorem round_calls {t : Tb} {w0 W : World} {g : Nat} {v : Value} {N : Tab3} (h : TabAt t w0 W g v N) {L n : Nat} (hD : Dim L n N) (hw : t.word.length = L) (hL : L ≤ 900) (hx : Over n t.l4) (i j : Nat) (hij : i ≤ j) (hj : j ≤ L) :
    Calls Try.prog 27 #[.pointer (some ⟨g, 0, none⟩), .int .i64 i, .int .i64 j] W fun e w' =>
      e = .returned (.bool (roundL t.l4 t.word i j N).2) ∧ TabAt t w0 w' g v (roundL t.l4 t.word i j N).1 ∧ Not3 W w' := by
  obtain ⟨ts, tr, A2, c2, l2, A3, c3, l3, A4, c4, l4, A5, c5, word⟩ := t
  simp only at hw hx ⊢
  have H := Lib.hid h
  have HD := Lib.hid hD
  have HX := Lib.hid hx
  have HW := Lib.hid hw
  have a4 := blk_cell h.blk 4
  simp only [Tb.cells, List.getElem?_toArray, List.getElem?_cons_zero, List.getElem?_cons_succ] at a4
  have hmx := Kd.C_max h.came.r4
  simp only at hmx
  clear h hD hx hw
  rcases A4 with _ | ad0
  · have hnil : l4 = [] := by
      rcases Nat.eq_zero_or_pos l4.length with h0 | h0
      · exact List.eq_nil_of_length_eq_zero h0
      · obtain ⟨ad, _, _, e4, _⟩ := at_T39 H.out.came.r4 (0 : Int) (by omega) (by simp only; omega)
        cases e4
    subst hnil
    go_enter Try.func27, Try.ntmps27
    go_wp2
    refine wp_loop_rounds 1 ?_
    rw [rounds_succ]
    go_wp2
    go_ret
    exact ⟨rfl, H.out, Not3.refl W⟩
  · go_enter Try.func27, Try.ntmps27
    go_wp2
    clear a4
    go_loopw [7, 18] (fun bv iv wr => ∃ k : Nat, k ≤ l4.length ∧ iv = .int .i64 k ∧ bv = .bool (roundL (l4.take k) word i j N).2 ∧ Hid (TabAt ⟨ts, tr, A2, c2, l2, A3, c3, l3, some ad0, c4, l4, A5, c5, word⟩ w0 wr g v (roundL (l4.take k) word i j N).1) ∧ Hid (Not3 W wr)) (fun _ iv _ => l4.length - (intOf iv).toNat)
    case atStart => exact ⟨0, Nat.zero_le _, rfl, rfl, H, Not3.refl W⟩
    obtain ⟨k, hk, rfl, rfl, HT, HN⟩ := hrel
    by_cases hlt : k < l4.length
    · have hDk := roundL_dims HD.out HX.out word hij hj k
      have hmem : rd_T39 l4 k ∈ l4 := by
        have : rd_T39 l4 k = l4[k] := by simp [rd_T39, List.getD_eq_getElem?_getD, List.getElem?_eq_getElem hlt]
        rw [this]; exact List.getElem_mem hlt
      have hnext := roundL_take l4 word i j N k hlt
      have hxk : l4[k] = rd_T39 l4 k := by simp [rd_T39, List.getD_eq_getElem?_getD, List.getElem?_eq_getElem hlt]
      rw [hxk] at hnext
      obtain ⟨ad, B1, c1, e4, x0, x1, x2, x3⟩ := at_T39 HT.out.came.r4 (k : Int) (by omega) (by simp only; omega)
      cases e4
      rw [Int.toNat_natCast] at x0 x1
      have y0 := (HT.out.below.cell (World.block_lt_of_cell? w0 _ x0)).trans x0
      have y1 := (HT.out.below.cell (World.block_lt_of_cell? w0 _ x1)).trans x1
      simp only at y0 y1
      obtain ⟨q1, q2, q3, q4⟩ := HX.out _ hmem
      generalize hst : roundL (l4.take k) word i j N = st at *
      obtain ⟨Nk, bk⟩ := st
      simp only at x2 x3
      generalize hxx : rd_T39 l4 k = x at *
      obtain ⟨xl, xr⟩ := x
      simp only at hDk y0 y1 x2 x3 q1 q2 q3 q4 HT
      obtain ⟨a, rfl⟩ := Int.eq_ofNat_of_zero_le q1
      have ha : a < n := by omega
      have TC := Lib.hid (fun (w1 : World) (hb : Below wr.heap.size wr w1) => tails_at (HT.out.then_ hb) hDk HW.out hL xr x3 x2 q4 (by omega) i j hj hij)
      have TC2 := Lib.hid (fun (w1 : World) (hT : TabAt ⟨ts, tr, A2, c2, l2, A3, c3, l3, some ad0, c4, l4, A5, c5, word⟩ w0 w1 g v Nk) => tab_cells hT hDk a i j ha (by omega) hj)
      have HNX := Lib.hid hnext
      have HD' := Lib.hid hDk
      have Q4 := Lib.hid q4
      clear hnext hDk hmem hxk hxx x0 x1 x2 x3 q3 q4 hst
      go_wp2_with fail
      refine (TC.out _ ((Below.refl _ _).alloc (Nat.le_refl _) _)).mono ?_
      rintro e w2 ⟨v0, rfl, hS, hb2⟩
      obtain ⟨go, co, rfl, _⟩ := Kd.S_form hS (by rw [tabL_len]; omega)
      rw [tabL_len] at hS ⊢
      obtain ⟨ad', A', c', e', z0, z1, z2⟩ := at_L2 (Kd.S_reads' hS).2.2 ((0 : Nat) : Int) (by omega) (by rw [tabL_len]; omega)
      cases e'
      rw [rd_tabL _ _ _ 0 (by omega)] at z0 z1 z2
      obtain ⟨ad2, rfl, z3⟩ := Kd.at_int z2 (i : Int) (by omega) (by rw [List.length_map, List.length_range]; omega)
      rw [rd_rowL _ _ _ hij, Int.toNat_natCast] at z3
      rw [Int.toNat_natCast, add_plain, List.length_map, List.length_range] at z0
      have htl : TL word Nk xr i j 0 i = tl word Nk j xr i := by unfold TL; rw [if_neg (by omega)]; rfl
      rw [htl] at z3
      have hb3 := ((Below.refl wr.heap.size wr).alloc (Nat.le_refl _) (.cells #[.int .i64 (a : Int), .slice B1 xr.length c1] 39)).trans (hb2.mono (by simp))
      have HT2 := Lib.hid (HT.out.then_ hb3)
      have HN2 : Hid (Not3 W w2) := HN.out.trans (Not3.of_below hb3)
      have hblk : w2.heap[wr.heap.size]? = some (.cells #[.int .i64 (a : Int), .slice B1 xr.length c1] 39 (0, 0)) := (hb2.block wr.heap.size (by simp)).trans (heap_alloc_new wr _)
      have b0 := blk_cell hblk 0
      simp only [List.getElem?_toArray, List.getElem?_cons_zero, List.getElem?_cons_succ] at b0
      have htlb := tl_bounds HD'.out word j hj xr (fun s hs => (Q4.out s hs).1) i hij
      have hstep : stepL word i j (Nk, bk) ⟨(a : Int), xr⟩ = (if tl word Nk j xr i = -1 then (Nk, bk)
          else if node Nk a i j = -1 ∨ min (tl word Nk j xr i + 1) top40 < node Nk a i j then (setNode Nk a i j (min (tl word Nk j xr i + 1) top40), true) else (Nk, bk)) := by
        unfold stepL
        simp only [Int.toNat_natCast]
      obtain ⟨gv, cv, gm, cm, gr, cr, rfl, p1, p2, p3, p4, ⟨cells, p5⟩, hput⟩ := TC2.out w2 HT2.out
      have hnd := HD'.out.val a ha i (by omega) j hj
      generalize htn : tl word Nk j xr i = tn at *
      generalize hndd : node Nk a i j = nd at *
      have HNX' := Lib.hid (HNX.out.trans hstep)
      have g6 := blk_cell HT2.out.blk 6
      simp only [Tb.cells, List.getElem?_toArray, List.getElem?_cons_zero, List.getElem?_cons_succ] at g6
      have P5 := Lib.hid p5
      have PUT := Lib.hid hput
      have hb0 : -1 ≤ tn := htlb.1
      have hb1 : tn ≤ 1099511627776 := htlb.2
      clear htl hS z1 z2 hb2 hb3 hblk hstep p5 hput htn hndd htlb HNX
      by_cases c0 : tn = -1
      · subst c0
        have HNX2 := HNX'.out
        rw [if_pos rfl] at HNX2
        have HNX3 := Lib.hid HNX2
        clear HNX2 HNX'
        go_wp2_with fail
        go_roundw
        case rel => exact ⟨k + 1, by omega, by go_num, by rw [HNX3.out], by rw [HNX3.out]; exact HT2, HN2⟩
        case measure => simp [intOf]; omega
      · have d0 : (tn == (-1 : Int)) = false := by simpa using c0
        have HNX2 := HNX'.out
        rw [if_neg c0] at HNX2
        go_wp2_with fail
        all_goals
          first
            | (have hmn : min (tn + 1) top40 = 1099511627776 := by unfold top40; omega
               rw [hmn] at HNX2)
            | (have hmn : min (tn + 1) top40 = tn + 1 := by unfold top40; omega
               rw [hmn] at HNX2)
          clear hmn
          go_quiet (fail)
          by_cases c1 : nd = -1
          · subst c1
            rw [if_pos (.inl rfl)] at HNX2
            have HNX3 := Lib.hid HNX2
            clear HNX2
            go_wp2_with fail
            apply wp_meet0
            case h =>
              go_region
              all_goals exact ⟨rfl, rfl⟩
            go_wp2_with fail
            go_roundw
            case rel => exact ⟨k + 1, by omega, by go_num, by rw [HNX3.out], by rw [HNX3.out]; exact (PUT.out _).then_ (pw_below_drewN (Below.refl _ _) _), HN2.out.trans ((Not3.set_ P5.out _).trans (Not3.of_below (pw_below_drewN (Below.refl _ _) _)))⟩
            case measure => simp [intOf]; omega
          · have d1 : (nd == (-1 : Int)) = false := by simpa using c1
            first
              | (have hq : 1099511627776 < tn + 1 := by assumption
                 have c2 : ¬ (1099511627776 : Int) < nd := by unfold top40 at hnd; omega
                 have d2 : decide ((1099511627776 : Int) < nd) = false := decide_eq_false c2
                 rw [if_neg (by rintro (h | h); exact c1 h; exact c2 h)] at HNX2
                 have HNX3 := Lib.hid HNX2
                 clear HNX2 c2
                 go_wp2_with fail
                 go_roundw
                 case rel => exact ⟨k + 1, by omega, by go_num, by rw [HNX3.out], by rw [HNX3.out]; exact HT2.out.then_ (pw_below_drewN (Below.refl _ _) _), HN2.out.trans (Not3.of_below (pw_below_drewN (Below.refl _ _) _))⟩
                 case measure => simp [intOf]; omega)
              | skip
            all_goals
              by_cases c2 : tn + 1 < nd
              · have d2 : decide (tn + 1 < nd) = true := decide_eq_true c2
                rw [if_pos (.inr c2)] at HNX2
                have HNX3 := Lib.hid HNX2
                clear HNX2
                go_wp2_with fail
                apply wp_meet0
                case h =>
                  go_region
                  all_goals exact ⟨rfl, rfl⟩
                go_wp2_with fail
                go_roundw
                case rel => exact ⟨k + 1, by omega, by go_num, by rw [HNX3.out], by rw [HNX3.out]; exact (PUT.out _).then_ (pw_below_drewN (Below.refl _ _) _), HN2.out.trans ((Not3.set_ P5.out _).trans (Not3.of_below (pw_below_drewN (Below.refl _ _) _)))⟩
                case measure => simp [intOf]; omega
              · have d2 : decide (tn + 1 < nd) = false := decide_eq_false c2
                rw [if_neg (by rintro (h | h); exact c1 h; exact c2 h)] at HNX2
                have HNX3 := Lib.hid HNX2
                clear HNX2
                go_wp2_with fail
                go_roundw
                case rel => exact ⟨k + 1, by omega, by go_num, by rw [HNX3.out], by rw [HNX3.out]; exact HT2.out.then_ (pw_below_drewN (Below.refl _ _) _), HN2.out.trans (Not3.of_below (pw_below_drewN (Below.refl _ _) _))⟩
                case measure => simp [intOf]; omega
    · obtain rfl : k = l4.length := by omega
      rw [List.take_length] at HT ⊢
      go_wp2
      go_ret
      exact ⟨rfl, HT.out, HN.out⟩
end Go.Proofs.Ytnkpmogpmcggiaa
