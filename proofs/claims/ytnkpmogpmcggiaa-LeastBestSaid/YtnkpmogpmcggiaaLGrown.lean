/- The tree that choices tell: the walk. -/
import Derived.Test.YtnkpmogpmcggiaaMadeL
import Derived.Test.YtnkpmogpmcggiaaFresh
import Derived.Deep.RegionHeld3
import Derived.Lib.Hide
set_option linter.unusedVariables false
set_option linter.unusedSimpArgs false
namespace Go.Proofs.Ytnkpmogpmcggiaa
open Go.RowKit Go.Proofs.YtnkpmogpmcggiaaW.PrintWords Go.Proofs.YtnkpmogpmcggiaaW.PrintLast Go.Proofs.YtnkpmogpmcggiaaW.PrintMore

theorem info30g : (Try.prog.info? 30).map (fun i => (i.zero, i.size, i.bytes)) = some (some (.agg #[(.int .i64 0), (.slice none 0 0)]), 2, 32) := by kernel_rfl
theorem results_cell_tmp_rowg {P : Program} {fn : Func} {p u : Tmp} {ty : TypeId} (h : fn.results = #[.cell p ty, .tmp u]) (tmps : Array Value) (w : World) (g : Nat) (t : TypeId) (cs : Array Value) (fr : Nat × Nat) (d : TypeDesc)
    (hp : tmps.getD p undef = .pointer (some ⟨g, 0, none⟩)) (hg : w.heap[g]? = some (.cells cs t fr))
    (hu : P.underlying ty = some d) (hd : (match d with | .struct _ | .array _ _ => true | _ => false) = true) (hi : (P.info? ty).map (·.size) = some cs.size) (x : Value) (hx : tmps.getD u undef = x) :
    (results fn tmps).run P w = .ok (.tuple #[.agg cs, x]) w := by
  subst hx
  rw [results_cell_tmp h, hp]
  simp [asAddr, run_loadVar_row w g t ty cs fr d hg hu hd hi, Result.andThen]
theorem put2 {W : World} {g t : Nat} {x y : Value} (h : W.heap[g]? = some (.cells #[x, y] t (0, 0))) (u v : Value) : ((W.setCell ⟨g, 0, none⟩ u).setCell ⟨g, 1, none⟩ v).heap[g]? = some (.cells #[u, v] t (0, 0)) := by
  have h1 := blk_set h 0 u
  have h2 := blk_set h1 1 v
  simpa using h2
theorem far2 {W : World} {g g' : Nat} {o : Obj} (h : W.heap[g]? = some o) (hne : g ≠ g') (u v : Value) : ((W.setCell ⟨g', 0, none⟩ u).setCell ⟨g', 1, none⟩ v).heap[g]? = some o := far1 (p := ⟨g', 1, none⟩) (far1 (p := ⟨g', 0, none⟩) h hne u) hne v
theorem but_put2 {W W1 : World} {g ga : Nat} (h : But W W1 ga) (hg : W.heap.size ≤ g) (u v : Value) : But W ((W1.setCell ⟨g, 0, none⟩ u).setCell ⟨g, 1, none⟩ v) ga :=
  ⟨h.os, h.tape, h.output, by simpa [World.setCell] using h.size, fun k hk hne => by
    rw [Below.heap_setCell _ _ _ _ (show k ≠ g by omega), Below.heap_setCell _ _ _ _ (show k ≠ g by omega)]; exact h.block k hk hne⟩
theorem but_set1 {W W1 : World} {g ga : Nat} (h : But W W1 ga) (hg : W.heap.size ≤ g) (j : Nat) (u : Value) : But W (W1.setCell ⟨g, j, none⟩ u) ga :=
  ⟨h.os, h.tape, h.output, by simpa [World.setCell] using h.size, fun k hk hne => by rw [Below.heap_setCell _ _ _ _ (show k ≠ g by omega)]; exact h.block k hk hne⟩
theorem But.then_below {W W1 w1 : World} {g B : Nat} (h : But W W1 g) (hb : Below B W1 w1) (hB : W.heap.size ≤ B) : But W w1 g :=
  ⟨hb.os.trans h.os, hb.tape.trans h.tape, hb.output.trans h.output, Nat.le_trans h.size hb.size, fun k hk hne => (hb.block k (by omega)).trans (h.block k hk hne)⟩

def primerlaw15_grown.T20 : Bool × List (List Nat × List Nat) := (true, [([], []), ([], []), ([], []), ([1, 2], [1, 2]), ([3], [3]), ([], []), ([], []), ([0, 4, 5, 6], [0, 4, 5, 6]), ([7], [7]), ([8], [8]), ([8], [8]), ([], []), ([11, 9, 7, 0, 1, 2, 3, 4, 5, 6, 7, 8, 9, 11], [9, 11]), ([10, 12, 0, 1, 2, 3, 4, 5, 6, 7, 8, 9, 10, 11, 12], [10])])
def primerlaw15_grown.B20 : List Nat := [0, 0, 0, 6, 14, 0, 0, 127, 255, 511, 511, 0, 3071, 8191]
theorem primerlaw15_grown.tab20 : rtab .any (opsOf Try.f13 20) = primerlaw15_grown.T20 := by kernel_rfl
theorem primerlaw15_grown.bits20 : waitsOk primerlaw15_grown.T20.2 primerlaw15_grown.B20 = true := by kernel_rfl
section
variable {gs gr : Int} {A2 : Option Addr} {c2 : Nat} {l2 : List ByteArray} {A3 : Option Addr} {c3 : Nat} {l3 : List ByteArray} {A4 : Option Addr} {c4 : Nat} {q : List S64} {Ac : Option Addr} {cc : Nat} {choices : List Int} {w0 : World} {ga : Nat}

set_option maxHeartbeats 8000000 in
set_option maxRecDepth 100000 in
theorem grown_calls (hq : Kd.C k64 w0 A4 q.length q) (hch : Kd.C (Kd.int .i64) w0 Ac choices.length choices) (hga : w0.heap.size ≤ ga) (hql : q.length ≤ 1000) (hyl : ∀ y ∈ q, y.f1.length ≤ 1000) :
    ∀ (fuel : Nat) (s : Int) (n : Nat) (o : Option S30) (n' : Nat) (W : World), Below w0.heap.size w0 W → W.heap[ga]? = some (.cells #[.int .i64 (n : Int)] 3 (0, 0)) → grownG q choices fuel s n = some (o, n') → n ≤ 61 →
    Calls Try.prog 13 #[.agg #[.int .i64 gs, .int .i64 gr, .slice A2 l2.length c2, .slice A3 l3.length c3, .slice A4 q.length c4], .int .i64 s, .slice Ac choices.length cc, .pointer (some ⟨ga, 0, none⟩)] W (GrownPost W ga o n')
  | 0, s, n, o, n', W, _, _, h, _ => by cases h
  | fuel + 1, s, n, o, n', W, hb0, hxa, h, hn => by
    have IH := Lib.hid (grown_calls hq hch hga hql hyl fuel)
    have HQ := Lib.hid hq
    have HCH := Lib.hid hch
    have HGA := Lib.hid hga
    have HQL := Lib.hid hql
    have HYL := Lib.hid hyl
    have HB0 := Lib.hid hb0
    have HXA := Lib.hid hxa
    have HH := Lib.hid h
    have HN := Lib.hid hn
    have hcm := Kd.C_max hch
    have HCM := Lib.hid hcm
    clear hq hch hga hql hyl hb0 hxa h hn hcm
    by_cases c0 : s < 0
    · have h := HH.out
      unfold grownG at h
      rw [if_pos c0] at h
      simp only [Option.some.injEq, Prod.mk.injEq] at h
      obtain ⟨rfl, rfl⟩ := h
      go_enter Try.func13, Try.ntmps13
      go_wp2_with (first | ((with_reducible refine gate_dst (N := 4) rfl ?_); (try (refine gate_guard (by rfl) ?_; dsimp only)); refine box_event ?hg (N := 4) ?hd (cs := #[.int .i64 gs, .int .i64 gr, .slice A2 l2.length c2, .slice A3 l3.length c3, .slice A4 q.length c4]) (t := 48) ?hr ?_; (case hd => rfl); (case hg => rfl); (case hr => first | (go_simp; done) | (go_simp; rfl)); intro g4 hg4 w1 hbox hb; have HX4 := Lib.hid hbox; have HB4 := Lib.hid hb; have HXA4 := Lib.hid (blk_below_ HXA.out hb); have HGE4 : Hid (W.heap.size ≤ g4) := Nat.le_of_eq hg4.symm; clear hbox hb hg4) | ((with_reducible refine gate_dst (N := 8) rfl ?_); (try (refine gate_guard (by rfl) ?_; dsimp only)); refine box_event ?hg (N := 8) ?hd (cs := #[.int .i64 0, .slice none 0 0]) (t := 30) ?hr ?_; (case hd => rfl); (case hg => rfl); (case hr => first | (go_simp; done) | (go_simp; rfl)); intro gb hgb w2 hbox hb; have HX8 := Lib.hid hbox; have HB8 := Lib.hid (below_step HB4.out hb); have HXA8 := Lib.hid (blk_below_ HXA4.out hb); have HX48 := Lib.hid (blk_below_ HX4.out hb); have HGE8 : Hid (W.heap.size ≤ gb) := (by show _ ≤ _; rw [hgb]; exact HB4.out.size); have HNE8 : Hid (ga ≠ gb) := (by show ga ≠ gb; rw [hgb]; exact Nat.ne_of_lt (blk_lt HXA4.out)); have HN48 : Hid (g4 ≠ gb) := (by show g4 ≠ gb; rw [hgb]; exact Nat.ne_of_lt (blk_lt HX4.out)); clear hb hgb; have f0gb := frozen_of_row w2 gb 0 _ _ hbox; have f1gb := frozen_of_row w2 gb 1 _ _ hbox; have k0gb := blk_cell hbox 0; have k1gb := blk_cell hbox 1; have kga := blk_cell HXA8.out 0; simp only [List.getElem?_toArray, List.getElem?_cons_zero, List.getElem?_cons_succ] at k0gb k1gb kga; clear hbox))
      refine bodyPost_ret (results_cell_tmp_rowg rfl _ _ gb 30 #[.int .i64 s, .slice none 0 0] (0, 0) _ rfl (put2 HX8.out _ _) Try.underlying30 rfl (by kernel_rfl) (.bool true) rfl) rfl ?_
      exact ⟨none, 0, rfl, Kd.R_nil _ _ _ _ _, far2 HXA8.out HNE8.out _ _, but_put2 (But.of_below HB8.out ga) HGE8.out _ _⟩
    · have hs : ¬ s < 0 := c0
      have H1 : Hid ((if choices.length ≤ n ∨ 60 < n then some (none, n) else if ownG q s q.length = [] then some (none, n + 1) else
        (kidsG (grownG q choices fuel) (rd_T64 q (pickG (ownG q s q.length) (rd choices n))).f1 (n + 1)).bind fun u => some (u.1.map (⟨pickG (ownG q s q.length) (rd choices n), ·⟩), u.2)) = some (o, n')) := by
        have h := HH.out
        unfold grownG at h
        rw [if_neg c0] at h
        exact h
      clear HH
      have hsd : decide (s < 0) = false := decide_eq_false hs
      by_cases c1 : choices.length ≤ n
      · have h := H1.out
        rw [if_pos (.inl c1)] at h
        simp only [Option.some.injEq, Prod.mk.injEq] at h
        obtain ⟨rfl, rfl⟩ := h
        have d1 : decide (choices.length ≤ n) = true := decide_eq_true c1
        have d2 : decide ((choices.length : Int) ≤ (n : Int)) = true := decide_eq_true (by omega)
        clear c1 H1
        go_enter Try.func13, Try.ntmps13
        go_wp2_with (first | ((with_reducible refine gate_dst (N := 4) rfl ?_); (try (refine gate_guard (by rfl) ?_; dsimp only)); refine box_event ?hg (N := 4) ?hd (cs := #[.int .i64 gs, .int .i64 gr, .slice A2 l2.length c2, .slice A3 l3.length c3, .slice A4 q.length c4]) (t := 48) ?hr ?_; (case hd => rfl); (case hg => rfl); (case hr => first | (go_simp; done) | (go_simp; rfl)); intro g4 hg4 w1 hbox hb; have HX4 := Lib.hid hbox; have HB4 := Lib.hid hb; have HXA4 := Lib.hid (blk_below_ HXA.out hb); have HGE4 : Hid (W.heap.size ≤ g4) := Nat.le_of_eq hg4.symm; clear hbox hb hg4) | ((with_reducible refine gate_dst (N := 8) rfl ?_); (try (refine gate_guard (by rfl) ?_; dsimp only)); refine box_event ?hg (N := 8) ?hd (cs := #[.int .i64 0, .slice none 0 0]) (t := 30) ?hr ?_; (case hd => rfl); (case hg => rfl); (case hr => first | (go_simp; done) | (go_simp; rfl)); intro gb hgb w2 hbox hb; have HX8 := Lib.hid hbox; have HB8 := Lib.hid (below_step HB4.out hb); have HXA8 := Lib.hid (blk_below_ HXA4.out hb); have HX48 := Lib.hid (blk_below_ HX4.out hb); have HGE8 : Hid (W.heap.size ≤ gb) := (by show _ ≤ _; rw [hgb]; exact HB4.out.size); have HNE8 : Hid (ga ≠ gb) := (by show ga ≠ gb; rw [hgb]; exact Nat.ne_of_lt (blk_lt HXA4.out)); have HN48 : Hid (g4 ≠ gb) := (by show g4 ≠ gb; rw [hgb]; exact Nat.ne_of_lt (blk_lt HX4.out)); clear hb hgb; have f0gb := frozen_of_row w2 gb 0 _ _ hbox; have f1gb := frozen_of_row w2 gb 1 _ _ hbox; have k0gb := blk_cell hbox 0; have k1gb := blk_cell hbox 1; have kga := blk_cell HXA8.out 0; simp only [List.getElem?_toArray, List.getElem?_cons_zero, List.getElem?_cons_succ] at k0gb k1gb kga; clear hbox))
        refine bodyPost_ret (results_cell_tmp_rowg rfl _ _ gb 30 #[.int .i64 0, .slice none 0 0] (0, 0) _ rfl (put2 HX8.out _ _) Try.underlying30 rfl (by kernel_rfl) (.bool false) rfl) rfl ?_
        exact ⟨none, 0, rfl, Kd.R_nil _ _ _ _ _, far2 HXA8.out HNE8.out _ _, but_put2 (But.of_below HB8.out ga) HGE8.out _ _⟩
      · by_cases c2 : 60 < n
        · have h := H1.out
          rw [if_pos (.inr c2)] at h
          simp only [Option.some.injEq, Prod.mk.injEq] at h
          obtain ⟨rfl, rfl⟩ := h
          have d1 : decide (choices.length ≤ n) = false := decide_eq_false c1
          have d2 : decide ((choices.length : Int) ≤ (n : Int)) = false := decide_eq_false (by omega)
          have d3 : decide (60 < n) = true := decide_eq_true c2
          have d4 : decide ((60 : Int) < (n : Int)) = true := decide_eq_true (by omega)
          clear c1 c2 H1
          go_enter Try.func13, Try.ntmps13
          go_wp2_with (first | ((with_reducible refine gate_dst (N := 4) rfl ?_); (try (refine gate_guard (by rfl) ?_; dsimp only)); refine box_event ?hg (N := 4) ?hd (cs := #[.int .i64 gs, .int .i64 gr, .slice A2 l2.length c2, .slice A3 l3.length c3, .slice A4 q.length c4]) (t := 48) ?hr ?_; (case hd => rfl); (case hg => rfl); (case hr => first | (go_simp; done) | (go_simp; rfl)); intro g4 hg4 w1 hbox hb; have HX4 := Lib.hid hbox; have HB4 := Lib.hid hb; have HXA4 := Lib.hid (blk_below_ HXA.out hb); have HGE4 : Hid (W.heap.size ≤ g4) := Nat.le_of_eq hg4.symm; clear hbox hb hg4) | ((with_reducible refine gate_dst (N := 8) rfl ?_); (try (refine gate_guard (by rfl) ?_; dsimp only)); refine box_event ?hg (N := 8) ?hd (cs := #[.int .i64 0, .slice none 0 0]) (t := 30) ?hr ?_; (case hd => rfl); (case hg => rfl); (case hr => first | (go_simp; done) | (go_simp; rfl)); intro gb hgb w2 hbox hb; have HX8 := Lib.hid hbox; have HB8 := Lib.hid (below_step HB4.out hb); have HXA8 := Lib.hid (blk_below_ HXA4.out hb); have HX48 := Lib.hid (blk_below_ HX4.out hb); have HGE8 : Hid (W.heap.size ≤ gb) := (by show _ ≤ _; rw [hgb]; exact HB4.out.size); have HNE8 : Hid (ga ≠ gb) := (by show ga ≠ gb; rw [hgb]; exact Nat.ne_of_lt (blk_lt HXA4.out)); have HN48 : Hid (g4 ≠ gb) := (by show g4 ≠ gb; rw [hgb]; exact Nat.ne_of_lt (blk_lt HX4.out)); clear hb hgb; have f0gb := frozen_of_row w2 gb 0 _ _ hbox; have f1gb := frozen_of_row w2 gb 1 _ _ hbox; have k0gb := blk_cell hbox 0; have k1gb := blk_cell hbox 1; have kga := blk_cell HXA8.out 0; simp only [List.getElem?_toArray, List.getElem?_cons_zero, List.getElem?_cons_succ] at k0gb k1gb kga; clear hbox))
          refine bodyPost_ret (results_cell_tmp_rowg rfl _ _ gb 30 #[.int .i64 0, .slice none 0 0] (0, 0) _ rfl (put2 HX8.out _ _) Try.underlying30 rfl (by kernel_rfl) (.bool false) rfl) rfl ?_
          exact ⟨none, 0, rfl, Kd.R_nil _ _ _ _ _, far2 HXA8.out HNE8.out _ _, but_put2 (But.of_below HB8.out ga) HGE8.out _ _⟩
        · have H2 : Hid ((if ownG q s q.length = [] then some (none, n + 1) else (kidsG (grownG q choices fuel) (rd_T64 q (pickG (ownG q s q.length) (rd choices n))).f1 (n + 1)).bind fun u => some (u.1.map (⟨pickG (ownG q s q.length) (rd choices n), ·⟩), u.2)) = some (o, n')) := by
            have h := H1.out
            rw [if_neg (by omega)] at h
            exact h
          have d1 : decide (choices.length ≤ n) = false := decide_eq_false c1
          have d2 : decide ((choices.length : Int) ≤ (n : Int)) = false := decide_eq_false (by omega)
          have d3 : decide (60 < n) = false := decide_eq_false c2
          have d4 : decide ((60 : Int) < (n : Int)) = false := decide_eq_false (by omega)
          have HC1 : Hid (n < choices.length) := by show n < choices.length; omega
          have HC2 : Hid (n ≤ 60) := by show n ≤ 60; omega
          obtain ⟨adc, eac, xc⟩ := Kd.at_int HCH.out (n : Int) (by omega) (by have := HC1.out; omega)
          subst eac
          rw [Int.toNat_natCast] at xc
          have xcW := pw_cell_below HB0.out xc
          generalize hpk : rd choices n = pk at *
          have n1 : (n : Int) < (choices.length : Int) := by have := HC1.out; omega
          have n2 : (0 : Int) ≤ (n : Int) := by omega
          have n3 : (n : Int) ≤ 60 := by have := HC2.out; omega
          clear c1 c2 H1 hpk xc
          go_enter Try.func13, Try.ntmps13
          go_wp2_with (first | ((with_reducible refine gate_dst (N := 4) rfl ?_); (try (refine gate_guard (by rfl) ?_; dsimp only)); refine box_event ?hg (N := 4) ?hd (cs := #[.int .i64 gs, .int .i64 gr, .slice A2 l2.length c2, .slice A3 l3.length c3, .slice A4 q.length c4]) (t := 48) ?hr ?_; (case hd => rfl); (case hg => rfl); (case hr => first | (go_simp; done) | (go_simp; rfl)); intro g4 hg4 w1 hbox hb; have HX4 := Lib.hid hbox; have HB4 := Lib.hid hb; have HXA4 := Lib.hid (blk_below_ HXA.out hb); have HGE4 : Hid (W.heap.size ≤ g4) := Nat.le_of_eq hg4.symm; clear hbox hb hg4) | ((with_reducible refine gate_dst (N := 8) rfl ?_); (try (refine gate_guard (by rfl) ?_; dsimp only)); refine box_event ?hg (N := 8) ?hd (cs := #[.int .i64 0, .slice none 0 0]) (t := 30) ?hr ?_; (case hd => rfl); (case hg => rfl); (case hr => first | (go_simp; done) | (go_simp; rfl)); intro gb hgb w2 hbox hb; have HX8 := Lib.hid hbox; have HB8 := Lib.hid (below_step HB4.out hb); have HXA8 := Lib.hid (blk_below_ HXA4.out hb); have HX48 := Lib.hid (blk_below_ HX4.out hb); have HGE8 : Hid (W.heap.size ≤ gb) := (by show _ ≤ _; rw [hgb]; exact HB4.out.size); have HNE8 : Hid (ga ≠ gb) := (by show ga ≠ gb; rw [hgb]; exact Nat.ne_of_lt (blk_lt HXA4.out)); have HN48 : Hid (g4 ≠ gb) := (by show g4 ≠ gb; rw [hgb]; exact Nat.ne_of_lt (blk_lt HX4.out)); clear hb hgb; have f0gb := frozen_of_row w2 gb 0 _ _ hbox; have f1gb := frozen_of_row w2 gb 1 _ _ hbox; have k0gb := blk_cell hbox 0; have k1gb := blk_cell hbox 1; have kga := blk_cell HXA8.out 0; simp only [List.getElem?_toArray, List.getElem?_cons_zero, List.getElem?_cons_succ] at k0gb k1gb kga; have xc8 := pw_cell_below HB8.out xcW; have fga := blk_frozen HXA8.out 0; clear hbox))
          clear d1 d2 d3 d4 hsd hs c0 n1 n3 f0gb f1gb k0gb k1gb kga xc8 fga xcW
          have hx3 : (w2.setCell ⟨ga, 0, none⟩ (.int .i64 ((n : Int) + 1))).heap[ga]? = some (.cells #[.int .i64 ((n : Int) + 1)] 3 (0, 0)) := by simpa using blk_set HXA8.out 0 (.int .i64 ((n : Int) + 1))
          have HXA3 := Lib.hid hx3
          have HX83 := Lib.hid (far1 (p := ⟨ga, 0, none⟩) HX8.out (fun e => HNE8.out e.symm) (.int .i64 ((n : Int) + 1)))
          have HX43 := Lib.hid (far1 (p := ⟨ga, 0, none⟩) HX48.out (by have := blk_lt HXA.out; have := HGE4.out; show g4 ≠ ga; omega) (.int .i64 ((n : Int) + 1)))
          have HBU3 := Lib.hid ((But.of_below HB8.out ga).set_ 0 (.int .i64 ((n : Int) + 1)))
          clear hx3
          generalize w2.setCell ⟨ga, 0, none⟩ (.int .i64 ((n : Int) + 1)) = w3 at *
          have HB03 := Lib.hid (HB0.out.trans (HBU3.out.below (B := w0.heap.size) HGA.out HB0.out.size))
          go_loopw [11, 12] (fun v11 v12 wl => ∃ (i : Nat) (A : Option Addr) (c : Nat), v12 = .int .i64 i ∧ i ≤ q.length ∧ v11 = .slice A (ownG q s i).length c ∧ Hid (Kd.R (Kd.int .i64) 3 wl w3.heap.size (fun _ => True) (.slice A (ownG q s i).length c) (ownG q s i)) ∧ Hid (Below w3.heap.size w3 wl)) (fun _ v12 _ => q.length - (intOf v12).toNat)
          case atStart => exact ⟨0, none, 0, rfl, Nat.zero_le _, rfl, Lib.hid (Kd.R_nil _ _ _ _ _), Below.refl _ _⟩
          case round =>
            rename World => wl
            obtain ⟨i, A, c, rfl, hi, rfl, HR, HBl⟩ := hrel
            have HX4l := Lib.hid (blk_below_ HX43.out HBl.out)
            have HB0l := Lib.hid (HB03.out.trans (HBl.out.mono HB03.out.size))
            have q4 : wl.cell? ⟨g4, 4, none⟩ = some (.slice A4 q.length c4) := (blk_cell HX4l.out 4).trans rfl
            have hql := HQL.out
            by_cases hlt : i < q.length
            · obtain ⟨ad, A1, c1, e1, x0, x1, x2, x3⟩ := at_T64 (Kd.C_below HQ.out HB0l.out) (i : Int) (by omega) (by omega)
              subst e1
              rw [Int.toNat_natCast] at x0
              clear x1 x2 x3
              have n5 : (i : Int) < (q.length : Int) := by omega
              have n6 : (0 : Int) ≤ (i : Int) := by omega
              by_cases c5 : (rd_T64 q i).f0 = s
              · have hown : ownG q s (i + 1) = ownG q s i ++ [(i : Int)] := by rw [ownG, if_pos c5]
                have HOWN := Lib.hid hown
                have d5 : ((rd_T64 q i).f0 == s) = true := by simpa using c5
                have HLL : Hid (((ownG q s i).length + 1) * 8 ≤ 140737488355328) := by have := ownG_length q s i; show _ ≤ _; omega
                generalize ownG q s i = own at *
                generalize (rd_T64 q i).f0 = yl at *
                clear c5 hown
                go_wp2_with (at_builtin; refine Kd.R_append (Kd.int .i64) (w0 := w3) w3.heap.size rfl (.tmp 61) (.tmp 63) 34 3 (.int .i64 0) 8 rfl Try.underlying34 info3 rfl (by decide) (by omega) (.slice A own.length c) own (i : Int) [.int .i64 (i : Int)] (fun _ => True) (fun _ => False) rfl rfl rfl (fun _ hk => hk.elim) (fun _ _ => trivial) HR.out HBl.out HBl.out.size HLL.out ?_; intro v1 w5 ho hb hg hat; obtain ⟨An, cn, e_⟩ := Kd.R_slice ho; subst e_; have HRn := Lib.hid ho; have HBn := Lib.hid hb; clear ho hb hg hat)
                go_roundw
                case rel => exact ⟨i + 1, An, cn, by go_num, by omega, by rw [HOWN.out]; simp, by rw [HOWN.out]; exact HRn, HBn⟩
                case measure => simp [intOf]; omega
              · have hown : ownG q s (i + 1) = ownG q s i := by rw [ownG, if_neg c5]
                have HOWN := Lib.hid hown
                have d5 : ((rd_T64 q i).f0 == s) = false := by simpa using c5
                clear hown
                generalize ownG q s i = own at *
                generalize (rd_T64 q i).f0 = yl at *
                clear c5
                go_wp2
                go_roundw
                case rel => exact ⟨i + 1, A, c, by go_num, by omega, by rw [HOWN.out], by rw [HOWN.out]; exact HR, HBl⟩
                case measure => simp [intOf]; omega
            · obtain rfl : i = q.length := by omega
              have H3 := H2.out
              have HMEM := Lib.hid (ownG_mem q s q.length)
              have HPK := Lib.hid (fun h => pickG_mem q s (ownG q s q.length) pk h)
              have HOL := Lib.hid (ownG_length q s q.length)
              generalize ownG q s q.length = own at *
              have HXAl := Lib.hid (blk_below_ HXA3.out HBl.out)
              have HX8l := Lib.hid (blk_below_ HX83.out HBl.out)
              have f0gb := frozen_of_row wl gb 0 _ _ HX8l.out
              have f1gb := frozen_of_row wl gb 1 _ _ HX8l.out
              have k0gb := blk_cell HX8l.out 0
              have k1gb := blk_cell HX8l.out 1
              simp only [List.getElem?_toArray, List.getElem?_cons_zero, List.getElem?_cons_succ] at k0gb k1gb
              by_cases c6 : own = []
              · subst c6
                rw [if_pos rfl] at H3
                simp only [Option.some.injEq, Prod.mk.injEq] at H3
                obtain ⟨rfl, rfl⟩ := H3
                clear hlt hi hql
                go_wp2_with fail
                refine bodyPost_ret (results_cell_tmp_rowg rfl _ _ gb 30 #[.int .i64 0, .slice none 0 0] (0, 0) _ rfl (put2 HX8l.out _ _) Try.underlying30 rfl (by kernel_rfl) (.bool false) rfl) rfl ?_
                exact ⟨none, 0, rfl, Kd.R_nil _ _ _ _ _, far2 HXAl.out HNE8.out _ _, but_put2 (HBU3.out.trans (But.of_below HBl.out ga)) HGE8.out _ _⟩
              · rw [if_neg c6] at H3
                have H4 := Lib.hid H3
                have hl0 : 0 < own.length := List.length_pos_iff.2 c6
                obtain ⟨m1, m2, m3⟩ := HMEM.out _ (HPK.out c6)
                obtain ⟨hr1, hr2⟩ := rem_range pk own.length hl0
                have hlo : -(own.length : Int) < Int.tmod pk own.length := by
                  rcases Int.le_total 0 pk with h | h
                  · have := Int.tmod_nonneg (own.length : Int) h; omega
                  · have := Int.tmod_lt_of_pos (-pk) (show (0 : Int) < (own.length : Int) by omega)
                    rw [Int.neg_tmod] at this
                    omega
                have hhi := Int.tmod_lt_of_pos pk (show (0 : Int) < (own.length : Int) by omega)
                have hol := HOL.out
                have hwr : wrap64 (Int.tmod pk own.length + own.length) = Int.tmod pk own.length + own.length := by unfold wrap64; omega
                have hpg : pickG own pk = rd own (Int.tmod (Int.tmod pk own.length + own.length) own.length) := rfl
                obtain ⟨ix, hix⟩ := Int.eq_ofNat_of_zero_le hr1
                rw [hix] at hpg hr2
                obtain ⟨go, co, e_, hgo, hgl, _⟩ := Kd.R_form HR.out hl0
                injection e_ with e1_ e2_ e3_
                subst e1_
                subst e3_
                obtain ⟨xo, _⟩ := Kd.R_celln (0 : Int) HR.out (ix : Int) (by omega) (by omega)
                rw [Int.toNat_natCast] at xo
                have hrd : rdOf (0 : Int) own (ix : Int) = pickG own pk := by rw [hpg]; rfl
                rw [hrd] at xo
                obtain ⟨pn, hpn⟩ := Int.eq_ofNat_of_zero_le m1
                rw [hpn] at m2 m3 xo
                have HPN := Lib.hid hpn
                have hm4 := m2
                obtain ⟨ad, A1, c1, e1, x0, x1, x2, x3⟩ := at_T64 HQ.out (pn : Int) (by omega) (by omega)
                subst e1
                rw [Int.toNat_natCast] at x0 x1
                replace x1 := pw_cell_below HB0l.out x1
                have hyl : (rd_T64 q (pn : Int)).f1.length ≤ 1000 := by
                  refine HYL.out _ ?_
                  have : rd_T64 q (pn : Int) = q[pn]'(by omega) := by simp [rd_T64, List.getD_eq_getElem?_getD, List.getElem?_eq_getElem (show pn < q.length by omega)]
                  rw [this]; exact List.getElem_mem _
                have h5 := H4.out
                rw [hpn] at h5
                generalize rd_T64 q (pn : Int) = y at *
                obtain ⟨yl, yr⟩ := y
                simp only at x0 x1 x2 x3 hyl h5 m3
                have HYR := Lib.hid hyl
                have HXL := Lib.hid x1
                have HX3 := Lib.hid x3
                cases hk : kidsG (grownG q choices fuel) yr (n + 1) with
                | none => rw [hk] at h5; cases h5
                | some U =>
                  obtain ⟨U1, U2⟩ := U
                  rw [hk] at h5
                  simp only [Option.bind_some, Option.some.injEq, Prod.mk.injEq] at h5
                  obtain ⟨rfl, rfl⟩ := h5
                  have HK := Lib.hid hk
                  have n7 : ((own.length : Int) == 0) = false := by simp; omega
                  have n8 : ¬ ((own.length : Int) = 0) := by omega
                  have n9 : (ix : Int) < (own.length : Int) := hr2
                  have n10 : (0 : Int) ≤ (ix : Int) := by omega
                  have n11 : (pn : Int) < (q.length : Int) := m2
                  have n12 : (0 : Int) ≤ (pn : Int) := by omega
                  have hlb : (ad.add (pn * 2)).block < wl.heap.size := World.block_lt_of_cell? wl ⟨(ad.add (pn * 2)).block, (ad.add (pn * 2)).off + 1, none⟩ x1
                  have HLB := Lib.hid hlb
                  clear hk hpg hlo hhi hr1 m1 m3 hrd x0 x2 x3 hyl H4 H3 H2 hol hlt hi hql hpn hl0 c6 hlb hr2 m2 hm4 hgo hgl f0gb f1gb k0gb k1gb
                  go_wp2_with (first | ((with_reducible refine gate_dst (N := 13) rfl ?_); (try (refine gate_guard (by rfl) ?_; dsimp only)); refine box_event ?hg (N := 13) ?hd (cs := #[.int .i64 0, .slice none 0 0]) (t := 30) ?hr ?_; (case hd => rfl); (case hg => rfl); (case hr => first | (go_simp; done) | (go_simp; rfl)); intro g13 hg13 w5 hbox hb; have HXd := Lib.hid hbox; have HBd := Lib.hid hb; have HGd := Lib.hid hg13; have ne1 : ¬ g4 = g13 := (by rw [hg13]; exact Nat.ne_of_lt (blk_lt HX4l.out)); have ne2 : ¬ (ad.add (pn * 2)).block = g13 := (by rw [hg13]; exact Nat.ne_of_lt HLB.out); have f0d := frozen_of_row w5 g13 0 _ _ hbox; have f1d := frozen_of_row w5 g13 1 _ _ hbox; have k0d := blk_cell hbox 0; have k1d := blk_cell hbox 1; have q45 := pw_cell_below hb q4; have xl5 := pw_cell_below hb HXL.out; simp only [List.getElem?_toArray, List.getElem?_cons_zero, List.getElem?_cons_succ] at k0d k1d; clear hbox hb hg13))
                  clear f0d f1d k0d k1d q45 xl5 ne1 ne2 n7 n8 n9 n10 n11 n12 hwr hix xo q4
                  have HNd : Hid (W.heap.size ≤ g13) := by have h1 := HGd.out; have h2 := HBl.out.size; have h3 := HBU3.out.size; show _ ≤ _; omega
                  have hgad : ga ≠ g13 := by rw [HGd.out]; exact Nat.ne_of_lt (blk_lt HXAl.out)
                  have hg4d : g4 ≠ g13 := by rw [HGd.out]; exact Nat.ne_of_lt (blk_lt HX4l.out)
                  have hgbd : gb ≠ g13 := by rw [HGd.out]; exact Nat.ne_of_lt (blk_lt HX8l.out)
                  have HXd6 := Lib.hid (put2 HXd.out (.int .i64 (pn : Int)) (.slice none 0 0))
                  have HXA6 := Lib.hid (far2 (blk_below_ HXAl.out HBd.out) hgad (.int .i64 (pn : Int)) (.slice none 0 0))
                  have HX46 := Lib.hid (far2 (blk_below_ HX4l.out HBd.out) hg4d (.int .i64 (pn : Int)) (.slice none 0 0))
                  have HX86 := Lib.hid (far2 (blk_below_ HX8l.out HBd.out) hgbd (.int .i64 (pn : Int)) (.slice none 0 0))
                  have HBU6 := Lib.hid (but_put2 ((HBU3.out.trans (But.of_below HBl.out ga)).trans (But.of_below HBd.out ga)) HNd.out (.int .i64 (pn : Int)) (.slice none 0 0))
                  have HNED := Lib.hid (And.intro hgad (And.intro hg4d hgbd))
                  clear hgad hg4d hgbd
                  generalize (w5.setCell ⟨g13, 0, none⟩ (.int .i64 (pn : Int))).setCell ⟨g13, 1, none⟩ (.slice none 0 0) = w6 at *
                  have HS6 : Hid (g13 < w6.heap.size) := blk_lt HXd6.out
                  go_loopw [15] (fun v15 wp => ∃ (j n5 : Nat) (acc : List S30) (U' : Option (List S30)) (vA : Option Addr) (vc : Nat), v15 = .int .i64 j ∧ j ≤ yr.length ∧ Hid (wp.heap[g13]? = some (.cells #[.int .i64 (pn : Int), .slice vA acc.length vc] 30 (0, 0))) ∧ Hid (Kd.R k30 30 wp w6.heap.size (fun _ => True) (.slice vA acc.length vc) acc) ∧ Hid (wp.heap[ga]? = some (.cells #[.int .i64 (n5 : Int)] 3 (0, 0))) ∧ Hid (wp.heap[g4]? = some (.cells #[.int .i64 gs, .int .i64 gr, .slice A2 l2.length c2, .slice A3 l3.length c3, .slice (some ad) q.length c4] 48 (0, 0))) ∧ Hid (wp.heap[gb]? = some (.cells #[.int .i64 0, .slice none 0 0] 30 (0, 0))) ∧ Hid (But W wp ga) ∧ Hid (w6.heap.size ≤ wp.heap.size) ∧ Hid (kidsG (grownG q choices fuel) (yr.drop j) n5 = some (U', U2)) ∧ Hid (U1 = U'.map (acc ++ ·)) ∧ Hid (n5 ≤ 61) ∧ Hid (acc.length = j)) (fun v15 _ => yr.length - (intOf v15).toNat)
                  case atStart => exact ⟨0, n + 1, [], U1, none, 0, rfl, Nat.zero_le _, HXd6, Lib.hid (Kd.R_nil _ _ _ _ _), HXA6, HX46, HX86, HBU6, Nat.le_refl _, HK, Lib.hid (by cases U1 <;> simp), Lib.hid (by have := HC2.out; omega), Lib.hid rfl⟩
                  case round =>
                    rename World => wp
                    obtain ⟨j, n5, acc, U', vA, vc, rfl, hj, HXw, HRA, HGW, HX4w, HX8w, HBUw, HSZ, HKD, HU, HN5, HAL⟩ := hrel
                    have HB0w := Lib.hid (HB0.out.trans (HBUw.out.below (B := w0.heap.size) HGA.out HB0.out.size))
                    by_cases hlt : j < yr.length
                    · obtain ⟨adr, ea, xs⟩ := Kd.at_int (Kd.C_below HX3.out HB0w.out) (j : Int) (by omega) (by omega)
                      subst ea
                      rw [Int.toNat_natCast] at xs
                      have hsk : rd yr (j : Int) = yr[j] := by simp [rd, List.getD_eq_getElem?_getD, List.getElem?_eq_getElem hlt]
                      rw [hsk] at xs
                      have hkd := HKD.out
                      rw [List.drop_eq_getElem_cons hlt] at hkd
                      generalize yr[j] = sj at *
                      have HXS := Lib.hid xs
                      have hjl := HYR.out
                      have HLG : Hid (ga < wp.heap.size) := blk_lt HGW.out
                      have hcall : ∃ oj nj, grownG q choices fuel sj n5 = some (oj, nj) ∧ (nj ≤ 61) ∧ ((oj = none ∧ U' = none ∧ U2 = nj) ∨ ∃ x u', oj = some x ∧ kidsG (grownG q choices fuel) (yr.drop (j + 1)) nj = some (u', U2) ∧ U' = u'.map (x :: ·)) := by
                        rcases kidsG_cons hkd with ⟨nj, h1, h2, h3⟩ | ⟨x, nj, u', h1, h2, h3⟩
                        · exact ⟨none, nj, h1, (grownG_at q choices fuel _ _ _ _ HN5.out h1).2, .inl ⟨rfl, h2, h3⟩⟩
                        · exact ⟨some x, nj, h1, (grownG_at q choices fuel _ _ _ _ HN5.out h1).2, .inr ⟨x, u', rfl, h2, h3⟩⟩
                      obtain ⟨oj, nj, hg1, hg2, hg3⟩ := hcall
                      have HG1 := Lib.hid hg1
                      have HG2 := Lib.hid hg2
                      have HG3 := Lib.hid hg3
                      have IHC : Hid (∀ W' : World, Below wp.heap.size wp W' → Calls Try.prog 13 #[.agg #[.int .i64 gs, .int .i64 gr, .slice A2 l2.length c2, .slice A3 l3.length c3, .slice (some ad) q.length c4], .int .i64 sj, .slice (some adc) choices.length cc, .pointer (some ⟨ga, 0, none⟩)] W' (GrownPost W' ga oj nj)) := fun W' hb =>
                        IH.out sj n5 oj nj W' (HB0w.out.trans (hb.mono HB0w.out.size)) (blk_below_ HGW.out hb) HG1.out HN5.out
                      have HRES : Hid (∃ t b, t = resT oj ∧ b = oj.isSome) := ⟨_, _, rfl, rfl⟩
                      have n5a : (j : Int) < (yr.length : Int) := by omega
                      have n5b : (0 : Int) ≤ (j : Int) := by omega
                      clear hg1 hg2 hg3 hkd hsk xs
                      unfold GrownPost at IHC
                      generalize hrt : resT oj = rt at *
                      generalize hok : oj.isSome = okj at *
                      have HRT := Lib.hid hrt
                      have HOJ := Lib.hid hok
                      clear hrt hok HRES
                      obtain ⟨rf, rk⟩ := rt
                      have SZ := Aside0.mk (Nat.le_refl wp.heap.size)
                      have GL : Aside0 (0 < wp.drew.heap.size) := Aside0.mk (Nat.lt_of_le_of_lt (Nat.zero_le _) HLG.out)
                      have HI := Aside0.mk (Nat.zero_le wp.drew.heap.size)
                      have SEP : Aside0 ((0 : Nat) < 0 ∨ (0 : Nat) ≤ 0) := Aside0.mk (Or.inr (Nat.le_refl 0))
                      have HBr := Aside0.mk (below_drew (Below.refl wp.heap.size wp))
                      go_upto_region 20 with (fail)
                      refine wp_region_noPanic ?_
                      refine start_ (n := 14) (S := fun w' => True) (ds := []) #[false, false, false, false, false, false, false, false, false, false, false, false, false, false] (by kernel_rfl) rfl rfl trivial (fun hHeld => ?_)
                      refine with_tabW primerlaw15_grown.tab20 primerlaw15_grown.bits20 (fun HT_ HW_ => ?_)
                      refine pure_ (i := 1) (N := some 98) (v := ?_) (a' := ?_) #[false, true, false, false, false, false, false, false, false, false, false, false, false, false] rfl rfl (any_of HT_.out (by kernel_rfl)) (fun _ _ _ h => h) (Or.inl ⟨by rfl, ?_⟩) ?_ ?_
                      rotate_left
                      · intro w'
                        go_simp
                        with_reducible rfl
                      rotate_left
                      · simp only [Act.put, List.setIfInBounds_toArray, List.set_cons_zero, List.set_cons_succ, i64_w, i32_w]
                        rfl
                      refine pure_ (i := 2) (N := some 99) (v := ?_) (a' := ?_) #[false, true, true, false, false, false, false, false, false, false, false, false, false, false] rfl rfl (any_of HT_.out (by kernel_rfl)) (fun _ _ _ h => h) (Or.inl ⟨by rfl, ?_⟩) ?_ ?_
                      rotate_left
                      · intro w'
                        go_simp
                        with_reducible rfl
                      rotate_left
                      · simp only [Act.put, List.setIfInBounds_toArray, List.set_cons_zero, List.set_cons_succ, i64_w, i32_w]
                        rfl
                      refine pure_ (i := 3) (N := some 100) (v := ?_) (a' := ?_) #[false, true, true, true, false, false, false, false, false, false, false, false, false, false] rfl rfl (any_of HT_.out (by kernel_rfl)) (fun _ _ _ h => h) (Or.inl ⟨by rfl, ?_⟩) ?_ ?_
                      rotate_left
                      · intro w'
                        go_simp
                        with_reducible rfl
                      rotate_left
                      · simp only [Act.put, List.setIfInBounds_toArray, List.set_cons_zero, List.set_cons_succ, i64_w, i32_w]
                        rfl
                      refine pure_ (i := 5) (N := some 102) (v := ?_) (a' := ?_) #[false, true, true, true, false, true, false, false, false, false, false, false, false, false] rfl rfl (any_of HT_.out (by kernel_rfl)) (fun _ _ _ h => h) (Or.inl ⟨by rfl, ?_⟩) ?_ ?_
                      rotate_left
                      · intro w'
                        go_simp
                        with_reducible rfl
                      rotate_left
                      · simp only [Act.put, List.setIfInBounds_toArray, List.set_cons_zero, List.set_cons_succ, i64_w, i32_w]
                        rfl
                      refine pure_ (i := 6) (N := some 103) (v := ?_) (a' := ?_) #[false, true, true, true, false, true, true, false, false, false, false, false, false, false] rfl rfl (any_of HT_.out (by kernel_rfl)) (fun _ _ _ h => h) (Or.inl ⟨by rfl, ?_⟩) ?_ ?_
                      rotate_left
                      · intro w'
                        go_simp
                        with_reducible rfl
                      rotate_left
                      · simp only [Act.put, List.setIfInBounds_toArray, List.set_cons_zero, List.set_cons_succ, i64_w, i32_w]
                        rfl
                      refine inv_at [0, 4, 7, 8, 9, 10, 11, 12, 13] (fun a0_ b a w' => ∃ (Ak : Option Addr) (ck : Nat) (g16 : Nat) (lo : Nat) (hi : Nat) (m7_ : Value) (m8_ : Value) (m9_ : Value) (m11_ : Value), a = putSel a0_ b [(0, 97, .agg #[.int .i64 gs, .int .i64 gr, .slice A2 l2.length c2, .slice A3 l3.length c3, .slice (some ad) q.length c4]), (4, 101, .int .i64 sj), (7, 104, m7_), (8, 96, m8_), (9, 105, m9_), (10, 106, .bool okj), (11, 16, m11_), (13, 17, .bool okj)] ∧ (wp.heap.size ≤ w'.heap.size) ∧ (g16 < w'.heap.size) ∧ (hi ≤ w'.heap.size) ∧ ((g16 < lo ∨ hi ≤ g16)) ∧ (b 7 = false → Below wp.heap.size wp w') ∧ (b 7 = true → But wp w' ga) ∧ (b 7 = true → w'.heap[ga]? = some (.cells #[.int .i64 (nj : Int)] 3 (0, 0))) ∧ (b 7 = true → Kd.R k30 30 w' wp.heap.size (fun k_ => lo ≤ k_ ∧ k_ < hi) (.slice Ak rk.length ck) rk) ∧ (b 11 = true → b 12 = false → w'.heap[g16]? = some (.cells #[.int .i64 0, .slice none 0 0] 30 (0, 0)) ∧ wp.heap.size ≤ g16) ∧ (b 12 = true → w'.heap[g16]? = some (.cells #[.int .i64 rf, .slice Ak rk.length ck] 30 (0, 0))) ∧ (b 7 = true → (m7_ : Value) = .tuple #[.agg #[.int .i64 rf, .slice Ak rk.length ck], .bool okj]) ∧ (b 8 = true → (m8_ : Value) = .tuple #[.agg #[.int .i64 rf, .slice Ak rk.length ck], .bool okj]) ∧ (b 9 = true → (m9_ : Value) = .agg #[.int .i64 rf, .slice Ak rk.length ck]) ∧ (b 11 = true → (m11_ : Value) = .pointer (some ⟨g16, 0, none⟩))) HT_.out HW_.out (by kernel_rfl) (by kernel_rfl) ?_ ?_ ?_
                      · exact ⟨none, 0, 0, 0, 0, .bool false, .bool false, .bool false, .bool false, by simp only [putSel, Bool.false_eq_true, if_false], SZ.out, GL.out, HI.out, SEP.out, fun _ => HBr.out, fun h_ => absurd h_ (by decide), fun h_ => absurd h_ (by decide), fun h_ => absurd h_ (by decide), fun h_ => absurd h_ (by decide), fun h_ => absurd h_ (by decide), fun h_ => absurd h_ (by decide), fun h_ => absurd h_ (by decide), fun h_ => absurd h_ (by decide), fun h_ => absurd h_ (by decide)⟩
                      · skip
                        clear GL HBr HI SEP SZ
                        refine steps_cons ?_ ?_
                        · rintro b a w' ⟨Ak, ck, g16, lo, hi, m7_, m8_, m9_, m11_, ha, Q_SZ, Q_GL, Q_HI, Q_SEP, Q_HBr, Q_HC, Q_XGn, Q_RK, Q_X16, Q_Y16, Q_X7_, Q_X8_, Q_X9_, Q_X11_⟩ hb_ hon hoff
                          refine ⟨_, rfl, fun K hK => ?_⟩
                          have e4 : a.tmps[4]? = some (.pointer (some ⟨g4, 0, none⟩)) := by rw [ha]; exact (putSel_off rfl).trans rfl
                          replace ha := Aside0.mk ha
                          have SZ := Aside0.mk Q_SZ
                          have GL := Aside0.mk Q_GL
                          have HI := Aside0.mk Q_HI
                          have SEP := Aside0.mk Q_SEP
                          have HBr := Aside0.mk (Q_HBr (hoff 7 (by kernel_rfl)))
                          obtain ⟨⟨xa0, xa1, xa2, xa3, xa4⟩, xb0, xb1, xb2, xb3, xb4⟩ := facts5 (blk_below_ HX4w.out HBr.out)
                          refine value_ (w1 := w') (v := .agg #[.int .i64 gs, .int .i64 gr, .slice A2 l2.length c2, .slice A3 l3.length c3, .slice (some ad) q.length c4]) (by rfl) rfl ?_ ?_
                          · go_simp
                            (try simp only [i64_w])
                            try rfl
                          refine hK.out _ _ ⟨Ak, ck, g16, lo, hi, m7_, m8_, m9_, m11_, (by rw [ha.out]; exact putSel_upk 0 hb_ rfl rfl rfl), Q_SZ, Q_GL, Q_HI, Q_SEP, Q_HBr, fun h0_ => absurd ((hoff 7 (by kernel_rfl)).symm.trans h0_) (by decide), fun h0_ => absurd ((hoff 7 (by kernel_rfl)).symm.trans h0_) (by decide), fun h0_ => absurd ((hoff 7 (by kernel_rfl)).symm.trans h0_) (by decide), Q_X16, fun h0_ => absurd ((hoff 12 (by kernel_rfl)).symm.trans h0_) (by decide), fun h0_ => absurd ((hoff 7 (by kernel_rfl)).symm.trans h0_) (by decide), fun h0_ => absurd ((hoff 8 (by kernel_rfl)).symm.trans h0_) (by decide), fun h0_ => absurd ((hoff 9 (by kernel_rfl)).symm.trans h0_) (by decide), Q_X11_⟩
                        refine steps_cons ?_ ?_
                        · rintro b a w' ⟨Ak, ck, g16, lo, hi, m7_, m8_, m9_, m11_, ha, Q_SZ, Q_GL, Q_HI, Q_SEP, Q_HBr, Q_HC, Q_XGn, Q_RK, Q_X16, Q_Y16, Q_X7_, Q_X8_, Q_X9_, Q_X11_⟩ hb_ hon hoff
                          refine ⟨_, rfl, fun K hK => ?_⟩
                          have e100 : a.tmps[100]? = some (.pointer (some (adr.add j))) := by rw [ha]; exact (putSel_off rfl).trans rfl
                          replace ha := Aside0.mk ha
                          have SZ := Aside0.mk Q_SZ
                          have GL := Aside0.mk Q_GL
                          have HI := Aside0.mk Q_HI
                          have SEP := Aside0.mk Q_SEP
                          have HBr := Aside0.mk (Q_HBr (hoff 7 (by kernel_rfl)))
                          have hz_ : w'.cell? (adr.add j) = some (.int .i64 sj) := pw_cell_below HBr.out HXS.out
                          refine value_ (w1 := w') (v := .int .i64 sj) (by rfl) rfl ?_ ?_
                          · go_simp
                            (try simp only [i64_w])
                            try rfl
                          refine hK.out _ _ ⟨Ak, ck, g16, lo, hi, m7_, m8_, m9_, m11_, (by rw [ha.out]; exact putSel_upk 1 hb_ rfl rfl rfl), Q_SZ, Q_GL, Q_HI, Q_SEP, Q_HBr, fun h0_ => absurd ((hoff 7 (by kernel_rfl)).symm.trans h0_) (by decide), fun h0_ => absurd ((hoff 7 (by kernel_rfl)).symm.trans h0_) (by decide), fun h0_ => absurd ((hoff 7 (by kernel_rfl)).symm.trans h0_) (by decide), Q_X16, fun h0_ => absurd ((hoff 12 (by kernel_rfl)).symm.trans h0_) (by decide), fun h0_ => absurd ((hoff 7 (by kernel_rfl)).symm.trans h0_) (by decide), fun h0_ => absurd ((hoff 8 (by kernel_rfl)).symm.trans h0_) (by decide), fun h0_ => absurd ((hoff 9 (by kernel_rfl)).symm.trans h0_) (by decide), Q_X11_⟩
                        refine steps_cons ?_ ?_
                        · rintro b a w' ⟨Ak, ck, g16, lo, hi, m7_, m8_, m9_, m11_, ha, Q_SZ, Q_GL, Q_HI, Q_SEP, Q_HBr, Q_HC, Q_XGn, Q_RK, Q_X16, Q_Y16, Q_X7_, Q_X8_, Q_X9_, Q_X11_⟩ hb_ hon hoff
                          refine ⟨_, rfl, fun K hK => ?_⟩
                          have e97 : a.tmps[97]? = some (.agg #[.int .i64 gs, .int .i64 gr, .slice A2 l2.length c2, .slice A3 l3.length c3, .slice (some ad) q.length c4]) := by rw [ha]; exact putSel_on (e := (0, 97, .agg #[.int .i64 gs, .int .i64 gr, .slice A2 l2.length c2, .slice A3 l3.length c3, .slice (some ad) q.length c4])) 0 rfl rfl (hon 0 (by kernel_rfl)) rfl
                          have e101 : a.tmps[101]? = some (.int .i64 sj) := by rw [ha]; exact putSel_on (e := (4, 101, .int .i64 sj)) 1 rfl rfl (hon 4 (by kernel_rfl)) rfl
                          have e102 : a.tmps[102]? = some (.slice (some adc) choices.length cc) := by rw [ha]; exact (putSel_off rfl).trans rfl
                          have e103 : a.tmps[103]? = some (.pointer (some ⟨ga, 0, none⟩)) := by rw [ha]; exact (putSel_off rfl).trans rfl
                          replace ha := Aside0.mk ha
                          have SZ := Aside0.mk Q_SZ
                          have GL := Aside0.mk Q_GL
                          have HI := Aside0.mk Q_HI
                          have SEP := Aside0.mk Q_SEP
                          have HBr := Aside0.mk (Q_HBr hb_)
                          refine call_ 13 #[.agg #[.int .i64 gs, .int .i64 gr, .slice A2 l2.length c2, .slice A3 l3.length c3, .slice (some ad) q.length c4], .int .i64 sj, .slice (some adc) choices.length cc, .pointer (some ⟨ga, 0, none⟩)] (by rfl) rfl ?hrun ?_
                          (case hrun => go_simp)
                          refine (IHC.out w' HBr.out).mono ?_
                          rintro e_ w1 ⟨Akn, ckn, rfl, hR_, hG_, hB_⟩
                          refine ⟨_, rfl, ?_⟩
                          refine hK.out _ _ ⟨Akn, ckn, g16, w'.heap.size, w1.heap.size, (.tuple #[.agg #[.int .i64 rf, .slice Akn rk.length ckn], .bool okj]), m8_, m9_, m11_, (by rw [ha.out]; exact putSel_upk 2 hb_ rfl rfl rfl), (Nat.le_trans SZ.out hB_.size), (Nat.lt_of_lt_of_le GL.out hB_.size), (Nat.le_refl _), (Or.inl GL.out), fun h0_ => absurd ((up_self b 7).symm.trans h0_) (by decide), fun _ => ((But.of_below HBr.out ga).trans hB_), fun _ => hG_, fun _ => (Kd.R_lower (Kd.R_mono (Kd.R_bound hR_) (fun k_ hk_ => ⟨hk_.2.1, hk_.2.2.1⟩)) HBr.out.size), fun h0_ h1_ => ⟨(hB_.block _ (blk_lt (Q_X16 h0_ h1_).1) (by have h1_ := (Q_X16 h0_ h1_).2; have h2_ := HLG.out; omega)).trans (Q_X16 h0_ h1_).1, (Q_X16 h0_ h1_).2⟩, fun h0_ => absurd ((hoff 12 (by kernel_rfl)).symm.trans h0_) (by decide), fun _ => rfl, fun h0_ => absurd ((hoff 8 (by kernel_rfl)).symm.trans h0_) (by decide), fun h0_ => absurd ((hoff 9 (by kernel_rfl)).symm.trans h0_) (by decide), Q_X11_⟩
                        refine steps_cons ?_ ?_
                        · rintro b a w' ⟨Ak, ck, g16, lo, hi, m7_, m8_, m9_, m11_, ha, Q_SZ, Q_GL, Q_HI, Q_SEP, Q_HBr, Q_HC, Q_XGn, Q_RK, Q_X16, Q_Y16, Q_X7_, Q_X8_, Q_X9_, Q_X11_⟩ hb_ hon hoff
                          refine ⟨_, rfl, fun K hK => ?_⟩
                          have e104 : a.tmps[104]? = some (m7_) := by rw [ha]; exact putSel_on (e := (7, 104, m7_)) 2 rfl rfl (hon 7 (by kernel_rfl)) rfl
                          rw [Q_X7_ (hon 7 (by kernel_rfl))] at e104
                          replace ha := Aside0.mk ha
                          have SZ := Aside0.mk Q_SZ
                          have GL := Aside0.mk Q_GL
                          have HI := Aside0.mk Q_HI
                          have SEP := Aside0.mk Q_SEP
                          have HC := Aside0.mk (Q_HC (hon 7 (by kernel_rfl)))
                          have XGn := Aside0.mk (Q_XGn (hon 7 (by kernel_rfl)))
                          have RK := Aside0.mk (Q_RK (hon 7 (by kernel_rfl)))
                          refine value_ (w1 := w') (v := .tuple #[.agg #[.int .i64 rf, .slice Ak rk.length ck], .bool okj]) (by rfl) rfl ?_ ?_
                          · go_simp
                            (try simp only [i64_w])
                            try rfl
                          refine hK.out _ _ ⟨Ak, ck, g16, lo, hi, m7_, (.tuple #[.agg #[.int .i64 rf, .slice Ak rk.length ck], .bool okj]), m9_, m11_, (by rw [ha.out]; exact putSel_upk 3 hb_ rfl rfl rfl), Q_SZ, Q_GL, Q_HI, Q_SEP, fun h0_ => absurd ((hon 7 (by kernel_rfl)).symm.trans h0_) (by decide), Q_HC, Q_XGn, Q_RK, Q_X16, fun h0_ => absurd ((hoff 12 (by kernel_rfl)).symm.trans h0_) (by decide), Q_X7_, fun _ => rfl, fun h0_ => absurd ((hoff 9 (by kernel_rfl)).symm.trans h0_) (by decide), Q_X11_⟩
                        refine steps_cons ?_ ?_
                        · rintro b a w' ⟨Ak, ck, g16, lo, hi, m7_, m8_, m9_, m11_, ha, Q_SZ, Q_GL, Q_HI, Q_SEP, Q_HBr, Q_HC, Q_XGn, Q_RK, Q_X16, Q_Y16, Q_X7_, Q_X8_, Q_X9_, Q_X11_⟩ hb_ hon hoff
                          refine ⟨_, rfl, fun K hK => ?_⟩
                          have e96 : a.tmps[96]? = some (m8_) := by rw [ha]; exact putSel_on (e := (8, 96, m8_)) 3 rfl rfl (hon 8 (by kernel_rfl)) rfl
                          rw [Q_X8_ (hon 8 (by kernel_rfl))] at e96
                          replace ha := Aside0.mk ha
                          have SZ := Aside0.mk Q_SZ
                          have GL := Aside0.mk Q_GL
                          have HI := Aside0.mk Q_HI
                          have SEP := Aside0.mk Q_SEP
                          have HC := Aside0.mk (Q_HC (hon 7 (by kernel_rfl)))
                          have XGn := Aside0.mk (Q_XGn (hon 7 (by kernel_rfl)))
                          have RK := Aside0.mk (Q_RK (hon 7 (by kernel_rfl)))
                          refine value_ (w1 := w') (v := .agg #[.int .i64 rf, .slice Ak rk.length ck]) (by rfl) rfl ?_ ?_
                          · go_simp
                            (try simp only [i64_w])
                            try rfl
                          refine hK.out _ _ ⟨Ak, ck, g16, lo, hi, m7_, m8_, (.agg #[.int .i64 rf, .slice Ak rk.length ck]), m11_, (by rw [ha.out]; exact putSel_upk 4 hb_ rfl rfl rfl), Q_SZ, Q_GL, Q_HI, Q_SEP, fun h0_ => absurd ((hon 7 (by kernel_rfl)).symm.trans h0_) (by decide), Q_HC, Q_XGn, Q_RK, Q_X16, fun h0_ => absurd ((hoff 12 (by kernel_rfl)).symm.trans h0_) (by decide), Q_X7_, Q_X8_, fun _ => rfl, Q_X11_⟩
                        refine steps_cons ?_ ?_
                        · rintro b a w' ⟨Ak, ck, g16, lo, hi, m7_, m8_, m9_, m11_, ha, Q_SZ, Q_GL, Q_HI, Q_SEP, Q_HBr, Q_HC, Q_XGn, Q_RK, Q_X16, Q_Y16, Q_X7_, Q_X8_, Q_X9_, Q_X11_⟩ hb_ hon hoff
                          refine ⟨_, rfl, fun K hK => ?_⟩
                          have e96 : a.tmps[96]? = some (m8_) := by rw [ha]; exact putSel_on (e := (8, 96, m8_)) 3 rfl rfl (hon 8 (by kernel_rfl)) rfl
                          rw [Q_X8_ (hon 8 (by kernel_rfl))] at e96
                          replace ha := Aside0.mk ha
                          have SZ := Aside0.mk Q_SZ
                          have GL := Aside0.mk Q_GL
                          have HI := Aside0.mk Q_HI
                          have SEP := Aside0.mk Q_SEP
                          have HC := Aside0.mk (Q_HC (hon 7 (by kernel_rfl)))
                          have XGn := Aside0.mk (Q_XGn (hon 7 (by kernel_rfl)))
                          have RK := Aside0.mk (Q_RK (hon 7 (by kernel_rfl)))
                          refine value_ (w1 := w') (v := .bool okj) (by rfl) rfl ?_ ?_
                          · go_simp
                            (try simp only [i64_w])
                            try rfl
                          refine hK.out _ _ ⟨Ak, ck, g16, lo, hi, m7_, m8_, m9_, m11_, (by rw [ha.out]; exact putSel_upk 5 hb_ rfl rfl rfl), Q_SZ, Q_GL, Q_HI, Q_SEP, fun h0_ => absurd ((hon 7 (by kernel_rfl)).symm.trans h0_) (by decide), Q_HC, Q_XGn, Q_RK, Q_X16, Q_Y16, Q_X7_, Q_X8_, Q_X9_, Q_X11_⟩
                        refine steps_cons ?_ ?_
                        · rintro b a w' ⟨Ak, ck, g16, lo, hi, m7_, m8_, m9_, m11_, ha, Q_SZ, Q_GL, Q_HI, Q_SEP, Q_HBr, Q_HC, Q_XGn, Q_RK, Q_X16, Q_Y16, Q_X7_, Q_X8_, Q_X9_, Q_X11_⟩ hb_ hon hoff
                          refine ⟨_, rfl, fun K hK => ?_⟩
                          replace ha := Aside0.mk ha
                          have SZ := Aside0.mk Q_SZ
                          have GL := Aside0.mk Q_GL
                          have HI := Aside0.mk Q_HI
                          have SEP := Aside0.mk Q_SEP
                          refine box_step (by rfl) (N := 16) rfl (cs := #[.int .i64 0, .slice none 0 0]) (t := 30) ?hr ?_
                          (case hr => first | (go_simp; done) | (go_simp; rfl))
                          intro g16n hg_ w1 hX_ hbw_
                          refine hK.out _ _ ⟨Ak, ck, g16n, lo, hi, m7_, m8_, m9_, (.pointer (some ⟨g16n, 0, none⟩)), (by rw [ha.out]; exact putSel_upk 6 hb_ rfl rfl rfl), (Nat.le_trans SZ.out hbw_.size), (blk_lt hX_), (Nat.le_trans HI.out hbw_.size), (Or.inr (by rw [hg_]; exact HI.out)), fun h0_ => (below_step (w := wp) (Q_HBr h0_) hbw_), fun h0_ => ((Q_HC h0_).trans (But.of_below hbw_ ga)), fun h0_ => (blk_below_ (Q_XGn h0_) hbw_), fun h0_ => (Kd.R_below (Q_RK h0_) hbw_), fun _ _ => ⟨hX_, by rw [hg_]; exact SZ.out⟩, fun h0_ => absurd ((hoff 12 (by kernel_rfl)).symm.trans h0_) (by decide), Q_X7_, Q_X8_, Q_X9_, fun _ => rfl⟩
                        refine steps_cons ?_ ?_
                        · rintro b a w' ⟨Ak, ck, g16, lo, hi, m7_, m8_, m9_, m11_, ha, Q_SZ, Q_GL, Q_HI, Q_SEP, Q_HBr, Q_HC, Q_XGn, Q_RK, Q_X16, Q_Y16, Q_X7_, Q_X8_, Q_X9_, Q_X11_⟩ hb_ hon hoff
                          refine ⟨_, rfl, fun K hK => ?_⟩
                          have e16 : a.tmps[16]? = some (m11_) := by rw [ha]; exact putSel_on (e := (11, 16, m11_)) 6 rfl rfl (hon 11 (by kernel_rfl)) rfl
                          rw [Q_X11_ (hon 11 (by kernel_rfl))] at e16
                          have e105 : a.tmps[105]? = some (m9_) := by rw [ha]; exact putSel_on (e := (9, 105, m9_)) 4 rfl rfl (hon 9 (by kernel_rfl)) rfl
                          rw [Q_X9_ (hon 9 (by kernel_rfl))] at e105
                          replace ha := Aside0.mk ha
                          have SZ := Aside0.mk Q_SZ
                          have GL := Aside0.mk Q_GL
                          have HI := Aside0.mk Q_HI
                          have SEP := Aside0.mk Q_SEP
                          have HC := Aside0.mk (Q_HC (hon 7 (by kernel_rfl)))
                          have XGn := Aside0.mk (Q_XGn (hon 7 (by kernel_rfl)))
                          have RK := Aside0.mk (Q_RK (hon 7 (by kernel_rfl)))
                          have X16 := Aside0.mk (Q_X16 (hon 11 (by kernel_rfl)) hb_)
                          have xk0 : w'.cell? ⟨g16, 0, none⟩ = some (.int .i64 0) := (blk_cell X16.out.1 0).trans rfl
                          have xk1 : w'.cell? ⟨g16, 1, none⟩ = some (.slice none 0 0) := (blk_cell X16.out.1 1).trans rfl
                          have xf0 := blk_frozen X16.out.1 0
                          have xf1 := blk_frozen X16.out.1 1
                          refine skip_ (w1 := (w'.setCell ⟨g16, 0, none⟩ (.int .i64 rf)).setCell ⟨g16, 1, none⟩ (.slice Ak rk.length ck)) (by rfl) rfl ?_ ?_
                          · go_simp
                          refine hK.out _ _ ⟨Ak, ck, g16, lo, hi, m7_, m8_, m9_, m11_, (by rw [ha.out]; exact putSel_none (v := undef) rfl), (by simpa [World.setCell] using SZ.out), (by simpa [World.setCell] using GL.out), (by simpa [World.setCell] using HI.out), Q_SEP, fun h0_ => absurd ((hon 7 (by kernel_rfl)).symm.trans h0_) (by decide), fun _ => (but_put2 HC.out X16.out.2 _ _), fun _ => (far2 XGn.out (by have h1_ := X16.out.2; have h2_ := HLG.out; omega) _ _), fun _ => (Kd.R_far (p := ⟨g16, 1, none⟩) (Kd.R_far (p := ⟨g16, 0, none⟩) RK.out (fun k_ hk_ => by have h1_ := SEP.out; simp only; omega) _) (fun k_ hk_ => by have h1_ := SEP.out; simp only; omega) _), fun _ h1_ => absurd ((up_self b 12).symm.trans h1_) (by decide), fun _ => (put2 X16.out.1 _ _), Q_X7_, Q_X8_, Q_X9_, Q_X11_⟩
                        refine steps_cons ?_ ?_
                        · rintro b a w' ⟨Ak, ck, g16, lo, hi, m7_, m8_, m9_, m11_, ha, Q_SZ, Q_GL, Q_HI, Q_SEP, Q_HBr, Q_HC, Q_XGn, Q_RK, Q_X16, Q_Y16, Q_X7_, Q_X8_, Q_X9_, Q_X11_⟩ hb_ hon hoff
                          refine ⟨_, rfl, fun K hK => ?_⟩
                          have e106 : a.tmps[106]? = some (.bool okj) := by rw [ha]; exact putSel_on (e := (10, 106, .bool okj)) 5 rfl rfl (hon 10 (by kernel_rfl)) rfl
                          replace ha := Aside0.mk ha
                          have SZ := Aside0.mk Q_SZ
                          have GL := Aside0.mk Q_GL
                          have HI := Aside0.mk Q_HI
                          have SEP := Aside0.mk Q_SEP
                          have HC := Aside0.mk (Q_HC (hon 7 (by kernel_rfl)))
                          have XGn := Aside0.mk (Q_XGn (hon 7 (by kernel_rfl)))
                          have RK := Aside0.mk (Q_RK (hon 7 (by kernel_rfl)))
                          have Y16 := Aside0.mk (Q_Y16 (hon 12 (by kernel_rfl)))
                          refine value_ (w1 := w') (v := .bool okj) (by rfl) rfl ?_ ?_
                          · go_simp
                            (try simp only [i64_w])
                            try rfl
                          refine hK.out _ _ ⟨Ak, ck, g16, lo, hi, m7_, m8_, m9_, m11_, (by rw [ha.out]; exact putSel_upk 7 hb_ rfl rfl rfl), Q_SZ, Q_GL, Q_HI, Q_SEP, fun h0_ => absurd ((hon 7 (by kernel_rfl)).symm.trans h0_) (by decide), Q_HC, Q_XGn, Q_RK, fun _ h1_ => absurd ((hon 12 (by kernel_rfl)).symm.trans h1_) (by decide), Q_Y16, Q_X7_, Q_X8_, Q_X9_, Q_X11_⟩
                        exact steps_nil
                      · rintro b a w' hall ⟨Ak, ck, g16, lo, hi, m7_, m8_, m9_, m11_, ha, Q_SZ, Q_GL, Q_HI, Q_SEP, Q_HBr, Q_HC, Q_XGn, Q_RK, Q_X16, Q_Y16, Q_X7_, Q_X8_, Q_X9_, Q_X11_⟩
                        clear GL HBr HI SEP SZ
                        have hb0_ := hall 0 (by kernel_rfl)
                        have hb4_ := hall 4 (by kernel_rfl)
                        have hb7_ := hall 7 (by kernel_rfl)
                        have hb8_ := hall 8 (by kernel_rfl)
                        have hb9_ := hall 9 (by kernel_rfl)
                        have hb10_ := hall 10 (by kernel_rfl)
                        have hb11_ := hall 11 (by kernel_rfl)
                        have hb12_ := hall 12 (by kernel_rfl)
                        have hb13_ := hall 13 (by kernel_rfl)
                        subst ha
                        obtain rfl := Q_X7_ hb7_
                        obtain rfl := Q_X8_ hb8_
                        obtain rfl := Q_X9_ hb9_
                        obtain rfl := Q_X11_ hb11_
                        simp only [putSel, hb0_, hb4_, hb7_, hb8_, hb9_, hb10_, hb11_, hb12_, hb13_, if_true, Act.put, List.setIfInBounds_toArray, List.set_cons_zero, List.set_cons_succ]
                        have SZ := Aside0.mk Q_SZ
                        clear Q_SZ
                        have GL := Aside0.mk Q_GL
                        clear Q_GL
                        have HI := Aside0.mk Q_HI
                        clear Q_HI
                        have SEP := Aside0.mk Q_SEP
                        clear Q_SEP
                        clear Q_HBr
                        have HC := Aside0.mk (Q_HC hb7_)
                        clear Q_HC
                        have XGn := Aside0.mk (Q_XGn hb7_)
                        clear Q_XGn
                        have RK := Aside0.mk (Q_RK hb7_)
                        clear Q_RK
                        clear Q_X16
                        have Y16 := Aside0.mk (Q_Y16 hb12_)
                        clear Q_Y16
                        clear hall hb0_ hb4_ hb7_ hb8_ hb9_ hb10_ hb11_ hb12_ hb13_
                        refine NoPanic.normal ?_
                        have HWn := Lib.hid HC.out
                        have HG16 := Lib.hid Y16.out
                        have HGa := Lib.hid XGn.out
                        have HRK := Lib.hid (Kd.R_mono (ok' := fun k_ => wp.heap.size ≤ k_) (Kd.R_bound RK.out) (fun k_ hk_ => hk_.2.1))
                        clear SZ GL HI SEP HC XGn RK Y16
                        rename World => w7
                        have HXD7 := Lib.hid ((HWn.out.block g13 (blk_lt HXw.out) (fun e => HNED.out.1 e.symm)).trans HXw.out)
                        have HX47 := Lib.hid ((HWn.out.block g4 (blk_lt HX4w.out) (by have := blk_lt HXA.out; have := HGE4.out; omega)).trans HX4w.out)
                        have HX87 := Lib.hid ((HWn.out.block gb (blk_lt HX8w.out) (fun e => HNE8.out e.symm)).trans HX8w.out)
                        cases oj with
                        | none =>
                          have e1 := HOJ.out
                          have e2 := HRT.out
                          simp only [Option.isSome_none] at e1
                          unfold resT at e2
                          injection e2 with e3 e4
                          subst e1
                          subst e3
                          subst e4
                          obtain ⟨rfl, rfl⟩ : U' = none ∧ U2 = nj := by
                            rcases HG3.out with ⟨_, h2, h3⟩ | ⟨x, u', h1, _⟩
                            · exact ⟨h2, h3⟩
                            · cases h1
                          obtain rfl : U1 = none := HU.out
                          have f0 := frozen_of_row w7 gb 0 _ _ HX87.out
                          have f1 := frozen_of_row w7 gb 1 _ _ HX87.out
                          have k0 := blk_cell HX87.out 0
                          have k1 := blk_cell HX87.out 1
                          simp only [List.getElem?_toArray, List.getElem?_cons_zero, List.getElem?_cons_succ] at k0 k1
                          clear n5a n5b hlt hj hjl
                          go_wp2_with fail
                          refine bodyPost_ret (results_cell_tmp_rowg rfl _ _ gb 30 #[.int .i64 0, .slice none 0 0] (0, 0) _ rfl (put2 HX87.out _ _) Try.underlying30 rfl (by kernel_rfl) (.bool false) rfl) rfl ?_
                          exact ⟨none, 0, rfl, Kd.R_nil _ _ _ _ _, far2 HGa.out HNE8.out _ _, but_put2 (HBUw.out.trans HWn.out) HGE8.out _ _⟩
                        | some x =>
                          have e1 := HOJ.out
                          have e2 := HRT.out
                          simp only [Option.isSome_some] at e1
                          unfold resT at e2
                          simp only at e2
                          subst e1
                          subst e2
                          obtain ⟨u', HKD', hu'⟩ : ∃ u', kidsG (grownG q choices fuel) (yr.drop (j + 1)) nj = some (u', U2) ∧ U' = u'.map ((⟨rf, rk⟩ : S30) :: ·) := by
                            rcases HG3.out with ⟨h1, _⟩ | ⟨x, u', h1, h2, h3⟩
                            · cases h1
                            · injection h1 with h1
                              subst h1
                              exact ⟨u', h2, h3⟩
                          have HKDn := Lib.hid HKD'
                          obtain ⟨acc7, hacc7⟩ : ∃ x, x = acc ++ [(⟨rf, rk⟩ : S30)] := ⟨_, rfl⟩
                          have HACC7 := Lib.hid hacc7
                          clear hacc7
                          have HUn : Hid (U1 = u'.map (acc7 ++ ·)) := by
                            show U1 = _
                            rw [HU.out, hu', HACC7.out]
                            cases u' <;> simp
                          have f1 := frozen_of_row w7 g13 1 _ _ HXD7.out
                          have k1 := blk_cell HXD7.out 1
                          have j0 := blk_cell HG16.out 0
                          have j1 := blk_cell HG16.out 1
                          simp only [List.getElem?_toArray, List.getElem?_cons_zero, List.getElem?_cons_succ] at k1 j0 j1
                          have HLA : Hid (ga < w6.heap.size) := blk_lt HXA6.out
                          have HRA7 := Lib.hid (R_but HRA.out HWn.out HLA.out)
                          have HS7 : Hid (w6.heap.size ≤ w7.heap.size) := Nat.le_trans HSZ.out HWn.out.size
                          have HOK : Hid (∀ k_, wp.heap.size ≤ k_ → True ∧ some k_ ≠ (Value.slice vA acc.length vc).ownBlock) := fun k_ hk_ => ⟨trivial, fun e => by
                            obtain ⟨cells, hc⟩ := Kd.R_typed HRA.out k_ e.symm
                            have := blk_lt hc
                            omega⟩
                          have HLL : Hid ((acc.length + 1) * 32 ≤ 140737488355328) := by have := HAL.out; show _ ≤ _; omega
                          clear HKD' hu' n5a n5b hj hjl
                          have hjl2 := HYR.out
                          go_wp2_with (at_builtin; refine Kd.R_append k30 (w0 := w7) w6.heap.size rfl (.tmp 111) (.tmp 113) 28 30 (.agg #[(.int .i64 0), (.slice none 0 0)]) 32 rfl Try.underlying28 info30g rfl (by decide) (by omega) (.slice vA acc.length vc) acc ⟨rf, rk⟩ [.int .i64 rf, .slice Ak rk.length ck] (fun _ => True) (fun k_ => wp.heap.size ≤ k_) rfl rfl (k30_mkM _ _ _ _ (Kd.R_lower HRK.out HSZ.out)) HOK.out (fun _ _ => trivial) HRA7.out (Below.refl _ _) HS7.out HLL.out ?_; intro v1 w8 ho hb hg hat; rw [← HACC7.out] at ho; obtain ⟨An, cn, e_⟩ := Kd.R_slice ho; subst e_; have HRn := Lib.hid ho; have HBn := Lib.hid hb; have HXD8 := Lib.hid ((hb.block g13 HS6.out).trans HXD7.out); have m1 := blk_cell HXD8.out 1; simp only [List.getElem?_toArray, List.getElem?_cons_zero, List.getElem?_cons_succ] at m1; have m2 := frozen_of_row w8 g13 1 _ _ HXD8.out; clear ho hb hg hat)
                          have HL4 : Hid (g4 < w6.heap.size) := blk_lt HX46.out
                          have HLB8 : Hid (gb < w6.heap.size) := blk_lt HX86.out
                          have r1 := Lib.hid (by simpa using blk_set HXD8.out 1 (.slice An acc7.length cn) : (w8.setCell ⟨g13, 1, none⟩ (.slice An acc7.length cn)).heap[g13]? = some (.cells #[.int .i64 (pn : Int), .slice An acc7.length cn] 30 (0, 0)))
                          have r2 := Lib.hid (Kd.R_mono (ok' := fun _ => True) (Kd.R_far (p := ⟨g13, 1, none⟩) (Kd.R_bound HRn.out) (fun k_ hk_ => by have h1_ := hk_.2.1; have h2_ := HS6.out; simp only; omega) (.slice An acc7.length cn)) (fun _ _ => trivial))
                          have r3 := Lib.hid (far1 (p := ⟨g13, 1, none⟩) ((HBn.out.block ga HLA.out).trans HGa.out) HNED.out.1 (.slice An acc7.length cn))
                          have r4 := Lib.hid (far1 (p := ⟨g13, 1, none⟩) ((HBn.out.block g4 HL4.out).trans HX47.out) HNED.out.2.1 (.slice An acc7.length cn))
                          have r5 := Lib.hid (far1 (p := ⟨g13, 1, none⟩) ((HBn.out.block gb HLB8.out).trans HX87.out) HNED.out.2.2 (.slice An acc7.length cn))
                          have r6 := Lib.hid (but_set1 (But.then_below (HBUw.out.trans HWn.out) HBn.out HBU6.out.size) HNd.out 1 (.slice An acc7.length cn))
                          have r7 : Hid (w6.heap.size ≤ (w8.setCell ⟨g13, 1, none⟩ (.slice An acc7.length cn)).heap.size) := by
                            show _ ≤ _
                            have := HBn.out.size
                            have := HS7.out
                            simp [World.setCell]
                            omega
                          go_wp2_with fail
                          go_roundw
                          case rel => exact ⟨j + 1, nj, acc7, u', An, cn, by go_num, by omega, r1, r2, r3, r4, r5, r6, r7, HKDn, HUn, Lib.hid HG2.out, Lib.hid (by rw [HACC7.out, List.length_append, HAL.out]; rfl)⟩
                          case measure => simp [intOf]; omega
                    · obtain rfl : j = yr.length := by omega
                      have hkd := HKD.out
                      rw [List.drop_length] at hkd
                      simp only [kidsG, Option.some.injEq, Prod.mk.injEq] at hkd
                      obtain ⟨rfl, rfl⟩ := hkd
                      have hu := HU.out
                      simp only [Option.map_some, List.append_nil] at hu
                      subst hu
                      have f0 := frozen_of_row wp gb 0 _ _ HX8w.out
                      have f1 := frozen_of_row wp gb 1 _ _ HX8w.out
                      have k0 := blk_cell HX8w.out 0
                      have k1 := blk_cell HX8w.out 1
                      have m0 := blk_cell HXw.out 0
                      have m1 := blk_cell HXw.out 1
                      simp only [List.getElem?_toArray, List.getElem?_cons_zero, List.getElem?_cons_succ] at k0 k1 m0 m1
                      clear hlt hj
                      go_wp2_with fail
                      refine bodyPost_ret (results_cell_tmp_rowg rfl _ _ gb 30 #[.int .i64 (pn : Int), .slice vA acc.length vc] (0, 0) _ rfl (put2 HX8w.out _ _) Try.underlying30 rfl (by kernel_rfl) (.bool true) rfl) rfl ?_
                      have hlb8 := blk_lt HX86.out
                      refine ⟨vA, vc, rfl, ?_, far2 HGW.out HNE8.out _ _, but_put2 HBUw.out HGE8.out _ _⟩
                      exact Kd.R_lower (Kd.R_mono (ok' := fun _ => True) (Kd.R_far (p := ⟨gb, 1, none⟩) (Kd.R_far (p := ⟨gb, 0, none⟩) (Kd.R_bound HRA.out) (fun k_ hk_ => by have h1_ := hk_.2.1; simp only; omega) _) (fun k_ hk_ => by have h1_ := hk_.2.1; simp only; omega) _) (fun _ _ => trivial)) HBU6.out.size
end
end Go.Proofs.Ytnkpmogpmcggiaa
