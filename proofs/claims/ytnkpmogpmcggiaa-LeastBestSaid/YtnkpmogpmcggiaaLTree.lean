/- The least tree, walked. -/
import Derived.Test.YtnkpmogpmcggiaaLTreeL
import Derived.Test.YtnkpmogpmcggiaaLNodes
import Derived.Deep.RegionLaw
import Derived.StillTailTactics
set_option linter.unusedVariables false
set_option linter.unusedSimpArgs false
namespace Go.Proofs.Ytnkpmogpmcggiaa
open Go.RowKit Go.Proofs.YtnkpmogpmcggiaaW.PrintWords Go.Proofs.YtnkpmogpmcggiaaW.PrintLast Go.Proofs.YtnkpmogpmcggiaaW.PrintMore

theorem info30 : (Try.prog.info? 30).map (fun i => (i.zero, i.size, i.bytes)) = some (some (.agg #[(.int .i64 0), (.slice none 0 0)]), 2, 32) := by kernel_rfl

/-- A row of the tails. -/
theorem tabrow {W : World} {B : Nat} {ok : Nat → Prop} {go co m z : Nat} {f : Nat → Nat → Int} (hS : Kd.S rowK 34 W B ok (.slice (some ⟨go, 0, none⟩) (m + 1) co) (tabL m z f)) (k : Nat) (hk : k ≤ m) :
    ∃ gr cr, W.cell? ⟨go, k, none⟩ = some (.slice (some ⟨gr, 0, none⟩) (z + 1) cr) ∧ B ≤ gr ∧ z + 1 ≤ cr ∧ Kd.C (Kd.int .i64) W (some ⟨gr, 0, none⟩) (z + 1) ((List.range (z + 1)).map (f k)) ∧
      ∀ q, q ≤ z → W.cell? ⟨gr, q, none⟩ = some (.int .i64 (f k q)) := by
  have hl : ((List.range (z + 1)).map (f k)).length = z + 1 := by rw [List.length_map, List.length_range]
  obtain ⟨oki, c, hcl, ⟨vm, rfl, hM⟩, hcc, _, _⟩ := Kd.S_borrow hS [] (k : Int) (by omega) (by omega)
  have e1 : (tabL m z f).getD (k : Int).toNat [] = (List.range (z + 1)).map (f k) := rd_tabL m z f k hk
  rw [e1] at hM
  rw [Int.toNat_natCast] at hcc
  obtain ⟨gr, cr, rfl, hb, _⟩ := Kd.R_form hM (by rw [hl]; omega)
  have x1 := hcc 0 _ rfl
  rw [show k * rowK.sz + 0 = k from by show k * 1 + 0 = k; omega, add_plain, hl] at x1
  rw [hl] at hM
  have hC := (Kd.R_reads' hM).2.2
  refine ⟨gr, cr, x1, hb, (Kd.R_reads' hM).2.1, by rwa [hl] at hC, fun q hq => ?_⟩
  obtain ⟨ad2, e2, z3⟩ := Kd.at_int hC (q : Int) (by omega) (by omega)
  cases e2
  rw [rd_rowL _ _ _ hq, Int.toNat_natCast, add_plain] at z3
  exact z3

theorem hit_some {l4 : List S39} {word : List Int} {N : Tab3} {s : Int} {i j : Nat} {nd : Int} {f : Int → Nat → Nat → Option S30} {p : Nat} {xr : List Int} {xl : Int} {r : S30} (hlt : p < l4.length) (hq : ∀ q, q < p → hitL word N s i j nd (rd_T39 l4 q) = false) (hx : rd_T39 l4 p = ⟨xl, xr⟩) (hh : hitL word N s i j nd ⟨xl, xr⟩ = true)
    (H : (match l4.findIdx? (hitL word N s i j nd) with | none => some ⟨0, []⟩ | some p => (kidsL f word N j (rd_T39 l4 p).f1 i).bind fun ks => some ⟨p, ks⟩) = some r) :
    ∃ ks, kidsL f word N j xr i = some ks ∧ r = ⟨p, ks⟩ := by
  have e : ∀ q (h : q < l4.length), l4[q] = rd_T39 l4 q := fun q h => by simp [rd_T39, List.getD_eq_getElem?_getD, List.getElem?_eq_getElem h]
  have hf : l4.findIdx? (hitL word N s i j nd) = some p := by
    rw [List.findIdx?_eq_some_iff_getElem]
    refine ⟨hlt, by rw [e p hlt, hx]; exact hh, fun q hq2 => ?_⟩
    rw [e q (by omega), hq q hq2]
    simp
  rw [hf] at H
  simp only [hx] at H
  cases hk : kidsL f word N j xr i with
  | none => rw [hk] at H; cases H
  | some ks =>
    rw [hk] at H
    simp only [Option.bind_some, Option.some.injEq] at H
    exact ⟨ks, rfl, H.symm⟩
theorem hit_none {l4 : List S39} {word : List Int} {N : Tab3} {s : Int} {i j : Nat} {nd : Int} {f : Int → Nat → Nat → Option S30} {r : S30} (hq : ∀ q, q < l4.length → hitL word N s i j nd (rd_T39 l4 q) = false)
    (H : (match l4.findIdx? (hitL word N s i j nd) with | none => some ⟨0, []⟩ | some p => (kidsL f word N j (rd_T39 l4 p).f1 i).bind fun ks => some ⟨p, ks⟩) = some r) : r = ⟨0, []⟩ := by
  have hf : l4.findIdx? (hitL word N s i j nd) = none := by
    rw [List.findIdx?_eq_none_iff]
    intro x hx
    obtain ⟨q, hq1, rfl⟩ := List.getElem_of_mem hx
    have e : l4[q] = rd_T39 l4 q := by simp [rd_T39, List.getD_eq_getElem?_getD, List.getElem?_eq_getElem hq1]
    rw [e]; exact hq q hq1
  rw [hf] at H
  exact (Option.some.inj H).symm
theorem kidsL_cons {f : Int → Nat → Nat → Option S30} {word : List Int} {N : Tab3} {z : Nat} {s : Int} {r : List Int} {i : Nat} {ks : List S30} (h : kidsL f word N z (s :: r) i = some ks) :
    ∃ t ks', f s i (endL word N s i (tl word N z (s :: r) i) (tl word N z r) (z + 1 - i) i) = some t ∧ kidsL f word N z r (endL word N s i (tl word N z (s :: r) i) (tl word N z r) (z + 1 - i) i) = some ks' ∧ ks = t :: ks' := by
  unfold kidsL at h
  cases h1 : f s i (endL word N s i (tl word N z (s :: r) i) (tl word N z r) (z + 1 - i) i) with
  | none => rw [h1] at h; cases h
  | some t =>
    rw [h1] at h
    simp only [Option.bind_some] at h
    cases h2 : kidsL f word N z r (endL word N s i (tl word N z (s :: r) i) (tl word N z r) (z + 1 - i) i) with
    | none => rw [h2] at h; cases h
    | some ks' =>
      rw [h2] at h
      exact ⟨t, ks', rfl, rfl, (Option.some.inj h).symm⟩
theorem TL_ge (word : List Int) (N : Tab3) (syms : List Int) (fr z k q : Nat) (h : fr ≤ q) : TL word N syms fr z k q = tl word N z (syms.drop k) q := by
  unfold TL; rw [if_neg (by omega)]
theorem TLb {L n : Nat} {N : Tab3} (hD : Dim L n N) (word : List Int) (syms : List Int) (hs : ∀ s ∈ syms, s < n) (fr z k : Nat) (hz : z ≤ L) (q : Nat) (hq : q ≤ z) : -1 ≤ TL word N syms fr z k q ∧ TL word N syms fr z k q ≤ top40 := by
  unfold TL
  split
  · unfold top40; omega
  · exact tl_bounds hD word z hz _ (fun s h => hs s (List.mem_of_mem_drop h)) q hq
theorem wrap_succ (k : Nat) (h : k ≤ 1000) : IntKind.i64.wrap ((k : Int) + 1) = (k : Int) + 1 := by rw [IntKind.wrap_i64]; omega
theorem put30 {W : World} {g t : Nat} {x y : Value} (h : W.heap[g]? = some (.cells #[x, y] t (0, 0))) (u v : Value) : ((W.setCell ⟨g, 0, none⟩ u).setCell ⟨g, 1, none⟩ v).heap[g]? = some (.cells #[u, v] t (0, 0)) := by
  have h1 := blk_set h 0 u
  have h2 := blk_set h1 1 v
  simpa using h2
theorem below2 {W W1 : World} {g : Nat} (h : Below W.heap.size W W1) (hg : W.heap.size ≤ g) (u v : Value) : Below W.heap.size W ((W1.setCell ⟨g, 0, none⟩ u).setCell ⟨g, 1, none⟩ v) := below_set (below_set h hg) hg

set_option maxHeartbeats 8000000 in
set_option maxRecDepth 100000 in
theorem tree_calls {t : Tb} {w0 : World} {g : Nat} {v : Value} {N : Tab3} {L n : Nat} (hD : Dim L n N) (hw : t.word.length = L) (hL : L ≤ 900) (hx : Over n t.l4) : ∀ (fuel : Nat) (s : Int) (i j : Nat) (r : S30) (W : World), TabAt t w0 W g v N →
    treeL t.l4 t.word N fuel s i j = some r → s < n → i ≤ j → j ≤ L →
    Calls Try.prog 21 #[.pointer (some ⟨g, 0, none⟩), .int .i64 s, .int .i64 i, .int .i64 j] W fun e w' =>
      ∃ A c, e = .returned (.agg #[.int .i64 r.f0, .slice A r.f1.length c]) ∧ k30.R 30 w' W.heap.size (fun _ => True) (.slice A r.f1.length c) r.f1 ∧ Below W.heap.size W w'
  | 0, s, i, j, r, W, _, h, _, _, _ => by cases h
  | fuel + 1, s, i, j, r, W, hT, h, hs, hij, hj => by
    have IH := Lib.hid (tree_calls (t := t) (w0 := w0) (g := g) (v := v) hD hw hL hx fuel)
    obtain ⟨ts, tr, A2, c2, l2, A3, c3, l3, A4, c4, l4, A5, c5, word⟩ := t
    simp only at *
    have HT := Lib.hid hT
    have HD := Lib.hid hD
    have HX := Lib.hid hx
    have HW := Lib.hid hw
    unfold treeL at h
    by_cases c0 : s < 0
    · rw [if_pos c0] at h
      obtain rfl := Option.some.inj h
      clear h hT hD hx hw
      go_enter Try.func21, Try.ntmps21
      go_wp2_with (first | ((with_reducible refine gate_dst (N := 8) rfl ?_); refine box_event ?hg (N := 8) ?hd (cs := #[.int .i64 0, .slice none 0 0]) (t := 30) ?hr ?_; (case hd => rfl); (case hg => rfl); (case hr => first | (go_simp; done) | (go_simp; rfl)); intro gb hgb w1 hbox hb; have HXgb := Lib.hid hbox; have HBgb := Lib.hid hb; have HGgb := Lib.hid hgb; have f0gb := frozen_of_row w1 gb 0 _ _ hbox; have f1gb := frozen_of_row w1 gb 1 _ _ hbox; have k0gb := blk_cell hbox 0; have k1gb := blk_cell hbox 1; simp only [List.getElem?_toArray, List.getElem?_cons_zero, List.getElem?_cons_succ] at k0gb k1gb; clear hbox hb hgb))
      refine bodyPost_ret (results_cell_row rfl _ _ gb 30 #[.int .i64 s, .slice none 0 0] (0, 0) _ rfl (put30 HXgb.out _ _) Try.underlying30 rfl (by kernel_rfl)) rfl ?_
      exact ⟨none, 0, rfl, Kd.R_nil _ _ _ _ _, below2 HBgb.out (by rw [HGgb.out]; exact Nat.le_refl _) _ _⟩
    · rw [if_neg c0] at h
      obtain ⟨a, rfl⟩ := Int.eq_ofNat_of_zero_le (show 0 ≤ s by omega)
      rw [Int.toNat_natCast] at h
      have TC := tab_cells hT hD a i j (by omega) (by omega) hj
      have hnd := hD.val a (by omega) i (by omega) j hj
      generalize hndd : node N a i j = nd at *
      obtain ⟨gv, cv, gm, cm, gr, cr, rfl, p1, p2, p3, p4, ⟨cells, p5⟩, hput⟩ := TC
      have HH := Lib.hid h
      have HP1 := Lib.hid p1
      have HP2 := Lib.hid p2
      have HP3 := Lib.hid p3
      have HM := Lib.hid (Kd.C_max hT.came.r4)
      clear h hT hD hx hw hput p5 p4 p1 p2 p3 hndd
      rcases A4 with _ | ad0
      · have hnil : l4 = [] := by
          rcases Nat.eq_zero_or_pos l4.length with h0 | h0
          · exact List.eq_nil_of_length_eq_zero h0
          · obtain ⟨ad, _, _, e4, _⟩ := at_T39 HT.out.came.r4 (0 : Int) (by omega) (by simp only; omega)
            cases e4
        subst hnil
        obtain rfl := Option.some.inj HH.out
        go_enter Try.func21, Try.ntmps21
        go_wp2_with (first | ((with_reducible refine gate_dst (N := 8) rfl ?_); refine box_event ?hg (N := 8) ?hd (cs := #[.int .i64 0, .slice none 0 0]) (t := 30) ?hr ?_; (case hd => rfl); (case hg => rfl); (case hr => first | (go_simp; done) | (go_simp; rfl)); intro gb hgb w1 hbox hb; have HXgb := Lib.hid hbox; have HBgb := Lib.hid hb; have HGgb := Lib.hid hgb; have f0gb := frozen_of_row w1 gb 0 _ _ hbox; have f1gb := frozen_of_row w1 gb 1 _ _ hbox; have k0gb := blk_cell hbox 0; have k1gb := blk_cell hbox 1; simp only [List.getElem?_toArray, List.getElem?_cons_zero, List.getElem?_cons_succ] at k0gb k1gb; have HT1 := Lib.hid (HT.out.then_ hb); have g4 := blk_cell HT1.out.blk 4; have g6 := blk_cell HT1.out.blk 6; simp only [Tb.cells, List.getElem?_toArray, List.getElem?_cons_zero, List.getElem?_cons_succ] at g4 g6; have p1 := (hb.cell (World.block_lt_of_cell? _ _ HP1.out)).trans HP1.out; have p2 := (hb.cell (World.block_lt_of_cell? _ _ HP2.out)).trans HP2.out; have p3 := (hb.cell (World.block_lt_of_cell? _ _ HP3.out)).trans HP3.out; clear hbox hb hgb))
        refine wp_loop_rounds 1 ?_
        rw [rounds_succ]
        go_wp2
        refine bodyPost_ret (results_cell_row rfl _ _ gb 30 #[.int .i64 0, .slice none 0 0] (0, 0) _ rfl (put30 HXgb.out _ _) Try.underlying30 rfl (by kernel_rfl)) rfl ?_
        exact ⟨none, 0, rfl, Kd.R_nil _ _ _ _ _, below2 HBgb.out (by rw [HGgb.out]; exact Nat.le_refl _) _ _⟩
      · go_enter Try.func21, Try.ntmps21
        go_wp2_with (first | ((with_reducible refine gate_dst (N := 8) rfl ?_); refine box_event ?hg (N := 8) ?hd (cs := #[.int .i64 0, .slice none 0 0]) (t := 30) ?hr ?_; (case hd => rfl); (case hg => rfl); (case hr => first | (go_simp; done) | (go_simp; rfl)); intro gb hgb w1 hbox hb; have HXgb := Lib.hid hbox; have HBgb := Lib.hid hb; have HGgb := Lib.hid hgb; have f0gb := frozen_of_row w1 gb 0 _ _ hbox; have f1gb := frozen_of_row w1 gb 1 _ _ hbox; have k0gb := blk_cell hbox 0; have k1gb := blk_cell hbox 1; simp only [List.getElem?_toArray, List.getElem?_cons_zero, List.getElem?_cons_succ] at k0gb k1gb; have HT1 := Lib.hid (HT.out.then_ hb); have g4 := blk_cell HT1.out.blk 4; have g6 := blk_cell HT1.out.blk 6; simp only [Tb.cells, List.getElem?_toArray, List.getElem?_cons_zero, List.getElem?_cons_succ] at g4 g6; have p1 := (hb.cell (World.block_lt_of_cell? _ _ HP1.out)).trans HP1.out; have p2 := (hb.cell (World.block_lt_of_cell? _ _ HP2.out)).trans HP2.out; have p3 := (hb.cell (World.block_lt_of_cell? _ _ HP3.out)).trans HP3.out; clear hbox hb hgb))
        go_loopw [42] (fun iv wr => ∃ p : Nat, p ≤ l4.length ∧ iv = .int .i64 p ∧ Hid (Below w1.heap.size w1 wr) ∧ Hid (∀ q, q < p → hitL word N a i j nd (rd_T39 l4 q) = false)) (fun iv _ => l4.length - (intOf iv).toNat)
        case atStart => exact ⟨0, Nat.zero_le _, rfl, Below.refl _ _, fun q hq => by omega⟩
        case round =>
          obtain ⟨p, hp, rfl, HBp, HQ⟩ := hrel
          have hmx := HM.out
          by_cases hlt : p < l4.length
          · obtain ⟨ad, B1, cB, e4, x0, x1, x2, x3⟩ := at_T39 HT.out.came.r4 (p : Int) (by omega) (by simp only; omega)
            cases e4
            rw [Int.toNat_natCast] at x0 x1
            have HTr := Lib.hid (HT1.out.then_ HBp.out)
            have y0 := (HTr.out.below.cell (World.block_lt_of_cell? w0 _ x0)).trans x0
            have y1 := (HTr.out.below.cell (World.block_lt_of_cell? w0 _ x1)).trans x1
            simp only at y0 y1
            have hmem : rd_T39 l4 p ∈ l4 := by
              have : rd_T39 l4 p = l4[p] := by simp [rd_T39, List.getD_eq_getElem?_getD, List.getElem?_eq_getElem hlt]
              rw [this]; exact List.getElem_mem hlt
            obtain ⟨q1, q2, q3, q4⟩ := HX.out _ hmem
            generalize hxx : rd_T39 l4 p = x at *
            obtain ⟨xl, xr⟩ := x
            simp only at x2 x3 y0 y1 q1 q2 q3 q4
            have HXX := Lib.hid hxx
            clear hmem hxx x0 x1
            by_cases c1 : xl = (a : Int)
            · subst c1
              have TCF := Lib.hid (fun (w3 : World) (hb : Below wr.heap.size wr w3) => tails_at (HTr.out.then_ hb) HD.out HW.out hL xr x3 x2 q4 (by omega) i j hj hij)
              have Q4 := Lib.hid q4
              have HX3 := Lib.hid x3
              have HX16 := Lib.hid q3
              clear x2 x3 q4 q1 q2
              go_wp2_with (first | ((with_reducible refine gate_dst (N := 11) rfl ?_); refine box_event ?hg (N := 11) ?hd (cs := #[.int .i64 0, .slice none 0 0]) (t := 39) ?hr ?_; (case hd => rfl); (case hg => rfl); (case hr => first | (go_simp; done) | (go_simp; rfl)); intro gx hgx w2 hbox hb; have HXgx := Lib.hid hbox; have HBgx := Lib.hid hb; have HGgx := Lib.hid hgx; have f0gx := frozen_of_row w2 gx 0 _ _ hbox; have f1gx := frozen_of_row w2 gx 1 _ _ hbox; have k0gx := blk_cell hbox 0; have k1gx := blk_cell hbox 1; simp only [List.getElem?_toArray, List.getElem?_cons_zero, List.getElem?_cons_succ] at k0gx k1gx; clear hbox hb hgx))
              have hB2 := below2 (g := gx) HBgx.out (by rw [HGgx.out]; exact Nat.le_refl _) (.int .i64 (a : Int)) (.slice B1 xr.length cB)
              have HBX := Lib.hid hB2
              refine (TCF.out _ hB2).mono ?_
              rintro e w3 ⟨v0, rfl, hS, hb3⟩
              obtain ⟨go, co, rfl, _⟩ := Kd.S_form hS (by rw [tabL_len]; omega)
              rw [tabL_len] at hS ⊢
              obtain ⟨gr0, cr0, r0, r1, r2, r3, r4⟩ := tabrow hS 0 (by omega)
              have r5 := r4 i hij
              have htl : TL word N xr i j 0 i = tl word N j xr i := by unfold TL; rw [if_neg (by omega)]; rfl
              rw [htl] at r5
              have HS := Lib.hid hS
              have HB3 := Lib.hid (HBX.out.trans (hb3.mono HBX.out.size))
              have hblkx := (hb3.block gx (blk_lt (put30 HXgx.out (.int .i64 (a : Int)) (.slice B1 xr.length cB)))).trans (put30 HXgx.out (.int .i64 (a : Int)) (.slice B1 xr.length cB))
              have HBLKX := Lib.hid hblkx
              have kx1 := blk_cell hblkx 1
              simp only [List.getElem?_toArray, List.getElem?_cons_zero, List.getElem?_cons_succ] at kx1
              have htb := tl_bounds HD.out word j hj xr (fun s hs => (Q4.out s hs).1) i hij
              have hhit : hitL word N a i j nd ⟨(a : Int), xr⟩ = (decide (tl word N j xr i ≠ -1) && decide (tl word N j xr i + 1 = nd)) := by simp [hitL]
              have hb0 : -1 ≤ tl word N j xr i := htb.1
              have hb1 : tl word N j xr i ≤ 1099511627776 := htb.2
              generalize htn : tl word N j xr i = tn at *
              have HHIT := Lib.hid hhit
              have HGE : Hid (g < ((w2.setCell ⟨gx, 0, none⟩ (.int .i64 (a : Int))).setCell ⟨gx, 1, none⟩ (.slice B1 xr.length cB)).heap.size) := Nat.lt_of_lt_of_le HTr.out.lt HBX.out.size
              clear hS hb3 hblkx hB2 r1 r2 r3 r4 htl htn htb hhit k0gx k1gx f0gx f1gx
              by_cases c2 : tn = -1
              · subst c2
                have hq : ∀ q, q < p + 1 → hitL word N a i j nd (rd_T39 l4 q) = false := fun q hq => by
                  by_cases e : q = p
                  · subst e; rw [HXX.out, HHIT.out]; rfl
                  · exact HQ.out q (by omega)
                have HQ2 := Lib.hid hq
                clear hq
                go_wp2_with fail
                go_roundw
                case rel => exact ⟨p + 1, by omega, by go_num, HBp.out.trans (HB3.out.mono HBp.out.size), HQ2⟩
                case measure => simp [intOf]; omega
              · have d0 : (tn == (-1 : Int)) = false := by simpa using c2
                by_cases c3 : tn + 1 = nd
                · subst c3
                  obtain ⟨ks, hks, hr⟩ := hit_some hlt HQ.out HXX.out (by rw [HHIT.out]; simp [c2]) HH.out
                  subst hr
                  have HKS := Lib.hid hks
                  clear hks
                  go_wp2_with (first | ((with_reducible refine gate_dst (N := 14) rfl ?_); refine box_event ?hg (N := 14) ?hd (cs := #[.int .i64 0, .slice none 0 0]) (t := 30) ?hr ?_; (case hd => rfl); (case hg => rfl); (case hr => first | (go_simp; done) | (go_simp; rfl)); intro go4 hgo4 w4 hbox hb; have HXgo4 := Lib.hid hbox; have HBgo4 := Lib.hid hb; have HGgo4 := Lib.hid hgo4; have f0go4 := frozen_of_row w4 go4 0 _ _ hbox; have f1go4 := frozen_of_row w4 go4 1 _ _ hbox; have k0go4 := blk_cell hbox 0; have k1go4 := blk_cell hbox 1; simp only [List.getElem?_toArray, List.getElem?_cons_zero, List.getElem?_cons_succ] at k0go4 k1go4; have kx4 := (hb.cell (p := ⟨gx, 1, none⟩) (blk_lt HBLKX.out)).trans kx1; have ne1 : ¬ gx = go4 := (by have := blk_lt HBLKX.out; rw [hgo4]; omega); have ne2 : ¬ go4 = gx := fun e => ne1 e.symm; clear hbox hb hgo4))
                  go_loopw [77, 15] (fun kv av wr2 => ∃ (k at_ : Nat) (acc rest : List S30) (vA : Option Addr) (vc : Nat), k ≤ xr.length ∧ kv = .int .i64 k ∧ av = .int .i64 at_ ∧ Hid (i ≤ at_ ∧ at_ ≤ j) ∧ Hid (Below w3.heap.size w3 wr2) ∧ Hid (wr2.heap[go4]? = some (.cells #[.int .i64 p, .slice vA acc.length vc] 30 (0, 0))) ∧ Hid (k30.R 30 wr2 (w3.heap.size + 1) (fun _ => True) (.slice vA acc.length vc) acc) ∧ Hid (kidsL (treeL l4 word N fuel) word N j (xr.drop k) at_ = some rest) ∧ Hid (acc ++ rest = ks) ∧ Hid (acc.length = k)) (fun kv _ _ => xr.length - (intOf kv).toNat)
                  case atStart => exact ⟨0, i, [], ks, none, 0, Nat.zero_le _, rfl, rfl, ⟨Nat.le_refl _, hij⟩, below2 HBgo4.out (by rw [HGgo4.out]; exact Nat.le_refl _) _ _, put30 HXgo4.out _ _, Kd.R_nil _ _ _ _ _, HKS.out, rfl, rfl⟩
                  case round =>
                    rename World => wp
                    obtain ⟨k, at_, acc, rest, vA, vc, hk, rfl, rfl, HAT, HB5, HB14, HR, HKD, HAC, HAL⟩ := hrel
                    have hlt14 := blk_lt HB14.out
                    have HB0 := Lib.hid (HB3.out.trans (HB5.out.mono HB3.out.size))
                    have hgb14 : ¬ gb = go4 := by have := blk_lt HXgb.out; have := HBp.out.size; have := HB3.out.size; rw [HGgo4.out]; omega
                    have hgb14' : ¬ go4 = gb := fun e => hgb14 e.symm
                    have hk16 : k ≤ 1000 := by have := HX16.out; omega
                    by_cases hlt2 : k < xr.length
                    · obtain ⟨adB, hB, cB1⟩ := Kd.at_int HX3.out (k : Int) (by omega) (by omega)
                      subst hB
                      have HTw := Lib.hid (HTr.out.then_ HB0.out)
                      have cBw := (HTw.out.below.cell (World.block_lt_of_cell? w0 _ cB1)).trans cB1
                      rw [Int.toNat_natCast] at cBw
                      have hsk : rd xr (k : Int) = xr[k] := by simp [rd, List.getD_eq_getElem?_getD, List.getElem?_eq_getElem hlt2]
                      rw [hsk] at cBw
                      have hmem : xr[k] ∈ xr := List.getElem_mem hlt2
                      have hdr := List.drop_eq_getElem_cons hlt2
                      have hkd := HKD.out
                      rw [hdr] at hkd
                      obtain ⟨tk, rest', hk1, hk2, hk3⟩ := kidsL_cons hkd
                      subst hk3
                      rw [← hdr] at hk1 hk2
                      generalize hskk : xr[k] = sk at *
                      have hat := HAT.out
                      have hSw := Kd.S_below HS.out HB5.out
                      obtain ⟨grk, crk, t0, t1, t2, t3, t4⟩ := tabrow hSw k (by omega)
                      obtain ⟨grl, crl, u0, u1, u2, u3, u4⟩ := tabrow hSw (k + 1) (by omega)
                      have t5 := t4 at_ hat.2
                      rw [TL_ge _ _ _ _ _ _ _ hat.1] at t5
                      have hsL := Q4.out sk hmem
                      have EN := end_at (HTw.out.then_ (Below.drew (Below.refl wp.heap.size wp))) HD.out HW.out hL sk hsL.1 hsL.2 at_ j hj hat.2 (tl word N j (xr.drop k) at_) (TL word N xr i j (k + 1)) (fun q hq => TLb HD.out word xr (fun s hs => (Q4.out s hs).1) i j (k + 1) hj q hq) (Kd.C_drew u3) u2 (fun ad he => by cases he; have := HGE.out; simp only; omega)
                      simp only at EN
                      rw [endL_congr word N sk at_ _ (TL word N xr i j (k + 1)) (tl word N j (xr.drop (k + 1))) _ _ (fun q h1 _ => TL_ge _ _ _ _ _ _ _ (by omega))] at EN
                      have hend := endL_bounds word N sk at_ (tl word N j (xr.drop k) at_) (tl word N j (xr.drop (k + 1))) j hat.2 (j + 1 - at_) at_ (Nat.le_refl _) (by omega)
                      generalize hen : endL word N sk at_ (tl word N j (xr.drop k) at_) (tl word N j (xr.drop (k + 1))) (j + 1 - at_) at_ = en at *
                      have HEN := Lib.hid EN
                      have HK1 := Lib.hid hk1
                      have HK2 := Lib.hid hk2
                      have HEND := Lib.hid hend
                      have HSL := Lib.hid hsL.1
                      have b0 := blk_cell HB14.out 1
                      simp only [List.getElem?_toArray, List.getElem?_cons_zero, List.getElem?_cons_succ] at b0
                      have e0 : (0 : Int) ≤ (k : Int) := by omega
                      generalize htk : tl word N j (xr.drop k) at_ = tk0 at *
                      clear EN hk1 hk2 hend hsL hen htk hskk hmem hdr hkd hSw t1 t2 t3 t4 u1 u2 u3 u4 hsk cB1 hat
                      go_wp2_with fail
                      have n1 : (k : Int) < (xr.length : Int) + 1 := by omega
                      have n2 : k < xr.length + 1 := by omega
                      have n3 : (at_ : Int) < (j : Int) + 1 := by have := HAT.out; omega
                      have n4 : at_ < j + 1 := by have := HAT.out; omega
                      have n5 : (0 : Int) ≤ (at_ : Int) := by omega
                      have n6 : (k : Int) + 1 < (xr.length : Int) + 1 := by omega
                      have n7 : k + 1 < xr.length + 1 := by omega
                      have n8 : (0 : Int) ≤ (k : Int) + 1 := by omega
                      have n9 : ((k : Int) + 1).toNat = k + 1 := by omega
                      have n11 : ((k : Int) < (xr.length : Int)) := by omega
                      have n10 : IntKind.i64.wrap ((k : Int) + 1) = (k : Int) + 1 := wrap_succ k hk16
                      go_still_tail 15, (by kernel_rfl)
                      clear n10 n1 n2 n3 n4 n6 n7 n8 n9 n11
                      change wpList _ _ _ _ _ wp.drew
                      go_wp2_with fail
                      refine (HEN.out).mono ?_
                      rintro e w5 ⟨rfl, hb5⟩
                      have HB6 : Hid (Below wp.heap.size wp w5) := (Below.drew (Below.refl wp.heap.size wp)).trans hb5
                      have hsz6 := HB6.out.size
                      have hl5 : go4 < w5.heap.size := Nat.lt_of_lt_of_le hlt14 hsz6
                      have HSZ5 : Hid (w3.heap.size + 1 ≤ w5.heap.size) := by show _ ≤ _; rw [← HGgo4.out]; exact hl5
                      have b5 := (HB6.out.cell (p := ⟨go4, 1, none⟩) hlt14).trans b0
                      have HK5 := Lib.hid ((HB6.out.block go4 hlt14).trans HB14.out)
                      have HR5 := Lib.hid (Kd.R_below HR.out HB6.out)
                      have HOK : Hid (∀ q, w5.heap.size ≤ q → True ∧ some q ≠ (Value.slice vA acc.length vc).ownBlock) := fun q hq => ⟨trivial, fun e => by
                        obtain ⟨cells, hc⟩ := Kd.R_typed HR5.out q e.symm
                        have := blk_lt hc
                        exact Nat.lt_irrefl _ (Nat.lt_of_lt_of_le this hq)⟩
                      have HT5 := Lib.hid (HTw.out.then_ HB6.out)
                      have HC21 := Lib.hid (fun (W' : World) (hb : Below w5.heap.size w5 W') => IH.out sk at_ en tk W' (HT5.out.then_ hb) HK1.out HSL.out HEND.out.1 (Nat.le_trans HEND.out.2 hj))
                      have HLL : Hid ((acc.length + 1) * 32 ≤ 140737488355328) := by show _ ≤ _; rw [HAL.out]; omega
                      obtain ⟨acc7, hacc7⟩ : ∃ x, x = acc ++ [tk] := ⟨_, rfl⟩
                      have HACC7 := Lib.hid hacc7
                      have HAC7 : Hid (acc7 ++ rest' = ks) := by show _ = _; rw [hacc7, List.append_assoc]; exact HAC.out
                      have HAL7 : Hid (acc7.length = k + 1) := by show _ = _; rw [hacc7, List.length_append, HAL.out]; rfl
                      clear hacc7 b0 hb5 hsz6
                      go_wp2_with fail
                      go_region_law (first
                        | (refine Kd.R_append_step k30 (w0 := w6) (w3.heap.size + 1) (by rfl) (.tmp 99) (.tmp 105) 28 30 (.agg #[(.int .i64 0), (.slice none 0 0)]) 32 rfl Try.underlying28 info30 rfl (by decide) (by omega) (.slice vA acc.length vc) acc tk [.int .i64 tk.f0, .slice Ak tk.f1.length ck] (fun _ => True) (fun q => w5.heap.size ≤ q) rfl rfl (k30_mkM _ _ _ _ HRK.out) HOK.out (fun _ _ => trivial) (Kd.R_below HR5.out HB7.out) (Below.refl _ _) (Nat.le_trans HSZ5.out HB7.out.size) HLL.out ?_
                           intro v1 w7 hS7 hb7 hg7 hn7
                           rw [← HACC7.out] at hS7
                           obtain ⟨A7, c7, rfl⟩ := Kd.R_slice hS7
                           have hblk7 := (hb7.block go4 (by rw [HGgo4.out]; exact Nat.lt_succ_self _)).trans HK6.out
                           have m1 := blk_cell hblk7 1
                           simp only [List.getElem?_toArray, List.getElem?_cons_zero, List.getElem?_cons_succ] at m1
                           have m2 := frozen_of_row w7 go4 1 _ _ hblk7
                           have HFK := Lib.hid (blk_set hblk7 1 (.slice A7 acc7.length c7))
                           have HFR := Lib.hid (Kd.R_mono (ok' := fun _ => True) (Kd.R_far (p := ⟨go4, 1, none⟩) (Kd.R_bound hS7) (fun q hq e => by have h1 := hq.2.1; rw [e] at h1; simp only at h1; rw [HGgo4.out] at h1; exact Nat.lt_irrefl _ h1) (.slice A7 acc7.length c7)) (fun _ _ => trivial))
                           have HFB : Hid (Below w3.heap.size w3 (w7.setCell ⟨go4, 1, none⟩ (.slice A7 acc7.length c7))) := below_set (HB5.out.trans ((HB6.out.mono HB5.out.size).trans ((HB7.out.mono (Nat.le_trans HB5.out.size HB6.out.size)).trans (hb7.mono (Nat.le_succ _))))) (by rw [HGgo4.out]; exact Nat.le_refl _)
                           clear hS7 hb7 hg7 hn7 hblk7)
                        | (go_simp
                           go_at_call 21
                           refine (HC21.out _ (Below.drew (Below.refl _ _))).mono ?_
                           rintro e w6 ⟨Ak, ck, rfl, hR6, hb6⟩
                           have HB7 : Hid (Below w5.heap.size w5 w6) := (Below.drew (Below.refl w5.heap.size w5)).trans hb6
                           have HRK : Hid (k30.R 30 w6 (w3.heap.size + 1) (fun q => w5.heap.size ≤ q) (.slice Ak tk.f1.length ck) tk.f1) := Kd.R_lower (Kd.R_mono (Kd.R_bound hR6) (fun q hq => hq.2.1)) HSZ5.out
                           have b6 := (HB7.out.cell (p := ⟨go4, 1, none⟩) hl5).trans b5
                           have HK6 := Lib.hid ((HB7.out.block go4 hl5).trans HK5.out)
                           have hl6 : go4 < w6.heap.size := Nat.lt_of_lt_of_le hl5 HB7.out.size
                           have b6a := (((Below.refl w6.heap.size w6).alloc (Nat.le_refl _) (.cells #[.int .i64 tk.f0, .slice Ak tk.f1.length ck] 30)).cell (p := ⟨go4, 1, none⟩) hl6).trans b6
                           clear hR6 hb6))
                      all_goals
                        go_wp2_with fail
                        go_roundw
                        case rel => exact ⟨k + 1, en, acc7, rest', A7, c7, by omega, by go_num, rfl, ⟨Nat.le_trans HAT.out.1 HEND.out.1, HEND.out.2⟩, HFB, HFK, HFR, HK2, HAC7, HAL7⟩
                        case measure => simp [intOf]; omega
                    · obtain rfl : k = xr.length := by omega
                      have hkd := HKD.out
                      rw [List.drop_length] at hkd
                      obtain rfl := Option.some.inj hkd
                      have hac := HAC.out
                      rw [List.append_nil] at hac
                      subst hac
                      have hgw : wp.heap[gb]? = some (.cells #[.int .i64 0, .slice none 0 0] 30 (0, 0)) := (HB0.out.block gb (by have := blk_lt HXgb.out; have := HBp.out.size; omega)).trans ((HBp.out.block gb (blk_lt HXgb.out)).trans HXgb.out)
                      have b0 := blk_cell HB14.out 0
                      have b1 := blk_cell HB14.out 1
                      have j0 := blk_cell hgw 0
                      have j1 := blk_cell hgw 1
                      have j2 := frozen_of_row wp gb 0 _ _ hgw
                      have j3 := frozen_of_row wp gb 1 _ _ hgw
                      simp only [List.getElem?_toArray, List.getElem?_cons_zero, List.getElem?_cons_succ] at b0 b1 j0 j1
                      have HGW := Lib.hid hgw
                      clear hgw hkd
                      have hgl : gb < w3.heap.size := by have := blk_lt HXgb.out; have := HBp.out.size; have := HB3.out.size; omega
                      have hwl : W.heap.size ≤ w3.heap.size + 1 := by have := HBgb.out.size; have := HBp.out.size; have := HB3.out.size; omega
                      have hrr := Kd.R_mono (ok' := fun _ => True) (Kd.R_lower (Kd.R_far (p := ⟨gb, 1, none⟩) (Kd.R_far (p := ⟨gb, 0, none⟩) (Kd.R_bound HR.out) (fun q hq => by have := hq.2.1; simp only; omega) (.int .i64 p)) (fun q hq => by have := hq.2.1; simp only; omega) (.slice vA acc.length vc)) hwl) (fun _ _ => trivial)
                      have HRR := Lib.hid hrr
                      clear hrr hgl hwl
                      go_wp2_with fail
                      refine bodyPost_ret (results_cell_row rfl _ _ gb 30 #[.int .i64 p, .slice vA acc.length vc] (0, 0) _ rfl (put30 HGW.out _ _) Try.underlying30 rfl (by kernel_rfl)) rfl ?_
                      exact ⟨vA, vc, rfl, HRR.out, below2 (HBgb.out.trans ((HBp.out.trans (HB0.out.mono HBp.out.size)).mono HBgb.out.size)) (by rw [HGgb.out]; exact Nat.le_refl _) _ _⟩
                · have d2 : (tn + 1 == nd) = false := by simpa using c3
                  have hq : ∀ q, q < p + 1 → hitL word N a i j nd (rd_T39 l4 q) = false := fun q hq => by
                    by_cases e : q = p
                    · subst e; rw [HXX.out, HHIT.out]; simp [c3]
                    · exact HQ.out q (by omega)
                  have HQ2 := Lib.hid hq
                  clear hq
                  go_wp2_with fail
                  go_roundw
                  case rel => exact ⟨p + 1, by omega, by go_num, HBp.out.trans (HB3.out.mono HBp.out.size), HQ2⟩
                  case measure => simp [intOf]; omega
            · have d1 : (xl == (a : Int)) = false := by simpa using c1
              have hq : ∀ q, q < p + 1 → hitL word N a i j nd (rd_T39 l4 q) = false := fun q hq => by
                by_cases e : q = p
                · subst e; rw [HXX.out]; simp [hitL, c1]
                · exact HQ.out q (by omega)
              have HQ2 := Lib.hid hq
              clear hq x2 x3 q1 q2 q3 q4
              go_wp2_with (first | ((with_reducible refine gate_dst (N := 11) rfl ?_); refine box_event ?hg (N := 11) ?hd (cs := #[.int .i64 0, .slice none 0 0]) (t := 39) ?hr ?_; (case hd => rfl); (case hg => rfl); (case hr => first | (go_simp; done) | (go_simp; rfl)); intro gx hgx w2 hbox hb; have HXgx := Lib.hid hbox; have HBgx := Lib.hid hb; have HGgx := Lib.hid hgx; have f0gx := frozen_of_row w2 gx 0 _ _ hbox; have f1gx := frozen_of_row w2 gx 1 _ _ hbox; have k0gx := blk_cell hbox 0; have k1gx := blk_cell hbox 1; simp only [List.getElem?_toArray, List.getElem?_cons_zero, List.getElem?_cons_succ] at k0gx k1gx; clear hbox hb hgx))
              go_roundw
              case rel => exact ⟨p + 1, by omega, by go_num, below2 (HBp.out.trans (HBgx.out.mono HBp.out.size)) (by rw [HGgx.out]; exact HBp.out.size) _ _, HQ2⟩
              case measure => simp [intOf]; omega
          · obtain rfl : p = l4.length := by omega
            obtain rfl := hit_none HQ.out HH.out
            have hgw : wr.heap[gb]? = some (.cells #[.int .i64 0, .slice none 0 0] 30 (0, 0)) := (HBp.out.block gb (blk_lt HXgb.out)).trans HXgb.out
            have j0 := blk_cell hgw 0
            have j1 := blk_cell hgw 1
            have j2 := frozen_of_row wr gb 0 _ _ hgw
            have j3 := frozen_of_row wr gb 1 _ _ hgw
            simp only [List.getElem?_toArray, List.getElem?_cons_zero, List.getElem?_cons_succ] at j0 j1
            have HGW := Lib.hid hgw
            clear hgw
            go_wp2_with fail
            refine bodyPost_ret (results_cell_row rfl _ _ gb 30 #[.int .i64 0, .slice none 0 0] (0, 0) _ rfl (put30 HGW.out _ _) Try.underlying30 rfl (by kernel_rfl)) rfl ?_
            exact ⟨none, 0, rfl, Kd.R_nil _ _ _ _ _, below2 (HBgb.out.trans (HBp.out.mono HBgb.out.size)) (by rw [HGgb.out]; exact Nat.le_refl _) _ _⟩
end Go.Proofs.Ytnkpmogpmcggiaa
