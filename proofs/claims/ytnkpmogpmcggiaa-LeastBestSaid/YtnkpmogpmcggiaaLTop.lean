/- The least tree of a word, walked. -/
import Derived.Test.YtnkpmogpmcggiaaLTree
import Derived.Laws.ResultCell
set_option linter.unusedVariables false
set_option linter.unusedSimpArgs false
namespace Go.Proofs.Ytnkpmogpmcggiaa
open Go.RowKit Go.Proofs.YtnkpmogpmcggiaaW.PrintWords Go.Proofs.YtnkpmogpmcggiaaW.PrintLast Go.Proofs.YtnkpmogpmcggiaaW.PrintMore

theorem results_cell_tmp_row {P : Program} {fn : Func} {p u : Tmp} {ty : TypeId} (h : fn.results = #[.cell p ty, .tmp u]) (tmps : Array Value) (w : World) (g : Nat) (t : TypeId) (cs : Array Value) (fr : Nat × Nat) (d : TypeDesc)
    (hp : tmps.getD p undef = .pointer (some ⟨g, 0, none⟩)) (hg : w.heap[g]? = some (.cells cs t fr))
    (hu : P.underlying ty = some d) (hd : (match d with | .struct _ | .array _ _ => true | _ => false) = true) (hi : (P.info? ty).map (·.size) = some cs.size) (x : Value) (hx : tmps.getD u undef = x) :
    (results fn tmps).run P w = .ok (.tuple #[.agg cs, x]) w := by
  subst hx
  rw [results_cell_tmp h, hp]
  simp [asAddr, run_loadVar_row w g t ty cs fr d hg hu hd hi, Result.andThen]

/-- What Tree answers. -/
def topL (t : Tb) (fuel : Nat) (rb : Bool) : Option (S30 × Int) :=
  if rb then
    if ofL t.word (fillL t.l2.length t.l4 t.word) t.s 0 t.word.length = -1 then some (⟨0, []⟩, 10)
    else if ofL t.word (fillL t.l2.length t.l4 t.word) t.s 0 t.word.length > 65536 then some (⟨0, []⟩, 6)
    else (treeL t.l4 t.word (fillL t.l2.length t.l4 t.word) fuel t.s 0 t.word.length).bind fun r => some (r, 0)
  else some (⟨0, []⟩, 1)

set_option maxHeartbeats 4000000 in
set_option maxRecDepth 100000 in
theorem top_calls (t : Tb) (w : World) (hc : t.Came w) (hf : t.Fit) (rb : Bool) (hg : rb = true → t.Good)
    (hr : ∀ W : World, Below w.heap.size w W → Calls Try.prog 18 #[t.agg, t.row] W fun e w' => e = .returned (.bool rb) ∧ Below W.heap.size W w') (fuel : Nat) (r : S30) (er : Int) (h : topL t fuel rb = some (r, er)) :
    Calls Try.prog 9 #[t.agg, t.row] w fun e w' => ∃ A c, e = .returned (.tuple #[.agg #[.int .i64 r.f0, .slice A r.f1.length c], .int .i64 er]) ∧
      k30.R 30 w' w.heap.size (fun _ => True) (.slice A r.f1.length c) r.f1 ∧ Below w.heap.size w w' := by
  have HC := Lib.hid hc
  have HF := Lib.hid hf
  have HR := Lib.hid hr
  have HH := Lib.hid h
  have HFIL := Lib.hid (fun (W : World) (hb : Below w.heap.size w W) (h : rb = true) => fill_at t W (hc.below hb) hf (hg h))
  have HST := Lib.hid (fun (w0 W : World) (g : Nat) (v : Value) (h : rb = true) (hT : TabAt t w0 W g v (fillL t.l2.length t.l4 t.word)) => start_at hT hf (hg h))
  have HTR := Lib.hid (fun (w0 W : World) (g : Nat) (v : Value) (h : rb = true) (hT : TabAt t w0 W g v (fillL t.l2.length t.l4 t.word)) (hr : treeL t.l4 t.word (fillL t.l2.length t.l4 t.word) fuel t.s 0 t.word.length = some r) =>
    tree_calls (fillL_dim (hg h)) rfl hf.len (hg h).over fuel t.s 0 t.word.length r W hT hr (hg h).s1 (Nat.zero_le _) (Nat.le_refl _))
  clear hc hf hg hr h
  unfold topL at HH
  obtain ⟨ts, tr, A2, c2, l2, A3, c3, l3, A4, c4, l4, A5, c5, word⟩ := t
  unfold Tb.agg Tb.row at *
  simp only at *
  have HB0 := Lib.hid ((Below.refl w.heap.size w).alloc (Nat.le_refl _) (.cells #[.int .i64 ts, .int .i64 tr, .slice A2 l2.length c2, .slice A3 l3.length c3, .slice A4 l4.length c4] 26))
  have HBP := Lib.hid (heap_alloc_new w (.cells #[.int .i64 ts, .int .i64 tr, .slice A2 l2.length c2, .slice A3 l3.length c3, .slice A4 l4.length c4] 26))
  go_enter Try.func9, Try.ntmps9
  go_wp2_with (first | ((with_reducible refine gate_dst (N := 4) rfl ?_); refine box_event ?hg (N := 4) ?hd (cs := #[.int .i64 0, .slice none 0 0]) (t := 30) ?hr ?_; (case hd => rfl); (case hg => rfl); (case hr => first | (go_simp; done) | (go_simp; rfl)); intro gb hgb w1 hbox hb; have HXgb := Lib.hid hbox; have HBgb := Lib.hid (HB0.out.trans (hb.mono (by simp))); have HGgb : Hid (w.heap.size + 1 = gb) := (by show w.heap.size + 1 = gb; rw [hgb]; simp); have HP1 := Lib.hid ((hb.block w.heap.size (by simp)).trans HBP.out); have q0 := blk_cell HP1.out 0; have q1 := blk_cell HP1.out 1; have q2 := blk_cell HP1.out 2; have q3 := blk_cell HP1.out 3; have q4 := blk_cell HP1.out 4; simp only [List.getElem?_toArray, List.getElem?_cons_zero, List.getElem?_cons_succ] at q0 q1 q2 q3 q4; clear hbox hb hgb))
  refine (HR.out _ HBgb.out).mono ?_
  rintro e w2 ⟨rfl, hb2⟩
  have hgl : gb < w1.heap.size := blk_lt HXgb.out
  have hpl : w.heap.size < w1.heap.size := blk_lt HP1.out
  have HP2 := Lib.hid ((hb2.block w.heap.size hpl).trans HP1.out)
  have HX2 := Lib.hid ((hb2.block gb hgl).trans HXgb.out)
  have HB2 := Lib.hid (HBgb.out.trans (hb2.mono HBgb.out.size))
  clear hb2 q0 q1 q2 q3 q4
  cases rb with
  | false =>
    have f0 := frozen_of_row w2 gb 0 _ _ HX2.out
    have f1 := frozen_of_row w2 gb 1 _ _ HX2.out
    have k0 := blk_cell HX2.out 0
    have k1 := blk_cell HX2.out 1
    simp only [List.getElem?_toArray, List.getElem?_cons_zero, List.getElem?_cons_succ] at k0 k1
    have hh := Option.some.inj HH.out
    obtain ⟨rfl, rfl⟩ := Prod.mk.inj hh
    go_wp2_with fail
    refine bodyPost_ret (results_cell_tmp_row rfl _ _ gb 30 #[.int .i64 0, .slice none 0 0] (0, 0) _ rfl (put30 HX2.out _ _) Try.underlying30 rfl (by kernel_rfl) (.int .i64 1) rfl) rfl ?_
    exact ⟨none, 0, rfl, Kd.R_nil _ _ _ _ _, below2 HB2.out (by rw [← HGgb.out]; omega) _ _⟩
  | true =>
    have q0 := blk_cell HP2.out 0
    have q1 := blk_cell HP2.out 1
    have q2 := blk_cell HP2.out 2
    have q3 := blk_cell HP2.out 3
    have q4 := blk_cell HP2.out 4
    simp only [List.getElem?_toArray, List.getElem?_cons_zero, List.getElem?_cons_succ] at q0 q1 q2 q3 q4
    go_wp2_with fail
    refine (HFIL.out _ HB2.out trivial).mono ?_
    rintro e w3 ⟨rfl, v, hT⟩
    have HT := Lib.hid hT
    have hgl2 : gb < w2.heap.size := blk_lt HX2.out
    have hpl2 : w.heap.size < w2.heap.size := blk_lt HP2.out
    have HB3 := Lib.hid (HB2.out.trans (hT.below.mono HB2.out.size))
    have HX3 := Lib.hid ((hT.below.block gb hgl2).trans HX2.out)
    have HP3 := Lib.hid ((hT.below.block w.heap.size hpl2).trans HP2.out)
    clear q0 q1 q2 q3 q4 hT
    have q0 := blk_cell HP3.out 0
    simp only [List.getElem?_toArray, List.getElem?_cons_zero, List.getElem?_cons_succ] at q0
    go_wp2_with fail
    refine (HST.out _ _ _ _ trivial HT.out).mono ?_
    rintro e w4 ⟨rfl, hb4⟩
    have hgl3 : gb < w3.heap.size := blk_lt HX3.out
    have hpl3 : w.heap.size < w3.heap.size := blk_lt HP3.out
    have HB4 := Lib.hid (HB3.out.trans (hb4.mono HB3.out.size))
    have HX4 := Lib.hid ((hb4.block gb hgl3).trans HX3.out)
    have HP4 := Lib.hid ((hb4.block w.heap.size hpl3).trans HP3.out)
    have HT4 := Lib.hid (HT.out.then_ hb4)
    clear hb4 q0
    have q0 := blk_cell HP4.out 0
    have f0 := frozen_of_row w4 gb 0 _ _ HX4.out
    have f1 := frozen_of_row w4 gb 1 _ _ HX4.out
    have k0 := blk_cell HX4.out 0
    have k1 := blk_cell HX4.out 1
    simp only [List.getElem?_toArray, List.getElem?_cons_zero, List.getElem?_cons_succ] at k0 k1 q0
    have hh := HH.out
    generalize hnn : ofL word (fillL l2.length l4 word) ts 0 word.length = nn at *
    by_cases c1 : nn = -1
    · subst c1
      simp only [if_true] at hh
      obtain ⟨rfl, rfl⟩ := Prod.mk.inj (Option.some.inj hh)
      go_wp2_with fail
      refine bodyPost_ret (results_cell_tmp_row rfl _ _ gb 30 #[.int .i64 0, .slice none 0 0] (0, 0) _ rfl (put30 HX4.out _ _) Try.underlying30 rfl (by kernel_rfl) (.int .i64 10) rfl) rfl ?_
      exact ⟨none, 0, rfl, Kd.R_nil _ _ _ _ _, below2 HB4.out (by rw [← HGgb.out]; omega) _ _⟩
    · have d1 : (nn == (-1 : Int)) = false := by simpa using c1
      by_cases c2 : nn > 65536
      · simp only [if_true, if_neg c1, if_pos c2] at hh
        obtain ⟨rfl, rfl⟩ := Prod.mk.inj (Option.some.inj hh)
        have d2 : decide ((65536 : Int) < nn) = true := decide_eq_true c2
        go_wp2_with fail
        refine bodyPost_ret (results_cell_tmp_row rfl _ _ gb 30 #[.int .i64 0, .slice none 0 0] (0, 0) _ rfl (put30 HX4.out _ _) Try.underlying30 rfl (by kernel_rfl) (.int .i64 6) rfl) rfl ?_
        exact ⟨none, 0, rfl, Kd.R_nil _ _ _ _ _, below2 HB4.out (by rw [← HGgb.out]; omega) _ _⟩
      · simp only [if_true, if_neg c1, if_neg c2] at hh
        have d2 : decide ((65536 : Int) < nn) = false := decide_eq_false (by omega)
        cases htr : treeL l4 word (fillL l2.length l4 word) fuel ts 0 word.length with
        | none => rw [htr] at hh; cases hh
        | some r' =>
          rw [htr] at hh
          obtain ⟨rfl, rfl⟩ := Prod.mk.inj (Option.some.inj hh)
          have TRC := Lib.hid (HTR.out _ _ _ _ trivial HT4.out htr)
          clear htr hh
          go_wp2_with fail
          refine TRC.out.mono ?_
          rintro e w5 ⟨A, c, rfl, hR5, hb5⟩
          have hgl4 : gb < w4.heap.size := blk_lt HX4.out
          have HB5 := Lib.hid (HB4.out.trans (hb5.mono HB4.out.size))
          have HX5 := Lib.hid ((hb5.block gb hgl4).trans HX4.out)
          have HR5 := Lib.hid (Kd.R_mono (ok' := fun _ => True) (Kd.R_lower (Kd.R_far (p := ⟨gb, 1, none⟩) (Kd.R_far (p := ⟨gb, 0, none⟩) (Kd.R_bound hR5) (fun q hq => by have := hq.2.1; simp only; omega) (.int .i64 r'.f0)) (fun q hq => by have := hq.2.1; simp only; omega) (.slice A r'.f1.length c)) (Nat.le_of_lt (blk_lt HP4.out))) (fun _ _ => trivial))
          clear hR5 hb5 f0 f1 k0 k1 q0
          have f0 := frozen_of_row w5 gb 0 _ _ HX5.out
          have f1 := frozen_of_row w5 gb 1 _ _ HX5.out
          have k0 := blk_cell HX5.out 0
          have k1 := blk_cell HX5.out 1
          simp only [List.getElem?_toArray, List.getElem?_cons_zero, List.getElem?_cons_succ] at k0 k1
          go_wp2_with fail
          refine bodyPost_ret (results_cell_tmp_row rfl _ _ gb 30 #[.int .i64 r'.f0, .slice A r'.f1.length c] (0, 0) _ rfl (put30 HX5.out _ _) Try.underlying30 rfl (by kernel_rfl) (.int .i64 0) rfl) rfl ?_
          exact ⟨A, c, rfl, HR5.out, below2 HB5.out (by rw [← HGgb.out]; omega) _ _⟩
end Go.Proofs.Ytnkpmogpmcggiaa
