/- The least tree's nodes. -/
import Derived.Test.YtnkpmogpmcggiaaLFill
import Derived.Test.YtnkpmogpmcggiaaLRight
import Derived.RegionTactic
import Derived.Deep.RegionWith
set_option linter.unusedVariables false
set_option linter.unusedSimpArgs false
namespace Go.Proofs.Ytnkpmogpmcggiaa
open Go.RowKit Go.Proofs.YtnkpmogpmcggiaaW.PrintWords Go.Proofs.YtnkpmogpmcggiaaW.PrintLast Go.Proofs.YtnkpmogpmcggiaaW.PrintMore

def Tb.agg (t : Tb) : Value := .agg #[.int .i64 t.s, .int .i64 t.r, .slice t.A2 t.l2.length t.c2, .slice t.A3 t.l3.length t.c3, .slice t.A4 t.l4.length t.c4]
def Tb.row (t : Tb) : Value := .slice t.A5 t.word.length t.c5
/-- The bounds under which a table is filled. -/
structure Tb.Fit (t : Tb) : Prop where
  b2 : t.l2.length ≤ t.c2
  b3 : t.l3.length ≤ t.c3
  b4 : t.l4.length ≤ t.c4
  b5 : t.word.length ≤ t.c5
  len : t.word.length ≤ 900
  names : t.l2.length ≤ 1000
/-- The grammar is one that a table is filled for. -/
structure Tb.Good (t : Tb) : Prop where
  over : Over t.l2.length t.l4
  s0 : 0 ≤ t.s
  s1 : t.s < t.l2.length
theorem Tb.Came.below {t : Tb} {w w1 : World} (h : t.Came w) (hb : Below w.heap.size w w1) : t.Came w1 :=
  ⟨Kd.C_below h.r2 hb, Kd.C_below h.r3 hb, Kd.C_below h.r4 hb, Kd.C_below h.r5 hb⟩
theorem fillL_dim {t : Tb} (hg : t.Good) : Dim t.word.length t.l2.length (fillL t.l2.length t.l4 t.word) :=
  sizesL_dim rfl (over_dims hg.over) _ _ (Nat.le_refl _) (emptyL_dim _ _)
theorem fill_at (t : Tb) (w : World) (hc : t.Came w) (hf : t.Fit) (hg : t.Good) : Calls Try.prog 19 #[t.agg, t.row] w fun e w' =>
    e = .returned (.pointer (some ⟨w.heap.size + 1, 0, none⟩)) ∧ ∃ v, TabAt t w w' (w.heap.size + 1) v (fillL t.l2.length t.l4 t.word) :=
  fill_calls t w hc hf.len hf.b2 hf.b3 hf.b4 hf.b5 hg.over hf.names
theorem start_at {t : Tb} {w0 W : World} {g : Nat} {v : Value} (h : TabAt t w0 W g v (fillL t.l2.length t.l4 t.word)) (hf : t.Fit) (hg : t.Good) :
    Calls Try.prog 20 #[.pointer (some ⟨g, 0, none⟩), .int .i64 t.s, .int .i64 0, .int .i64 (t.word.length : Int)] W fun e w' =>
      e = .returned (.int .i64 (ofL t.word (fillL t.l2.length t.l4 t.word) t.s 0 t.word.length)) ∧ Below W.heap.size W w' :=
  of_at h (fillL_dim hg) rfl hf.len t.s (by have := hg.s1; omega) (by have := hg.s0; omega) 0 t.word.length (by omega) (by omega)

set_option maxHeartbeats 4000000 in
theorem nodes_calls (t : Tb) (w : World) (hc : t.Came w) (hf : t.Fit) (rb : Bool) (hg : rb = true → t.Good)
    (hr : ∀ W : World, Below w.heap.size w W → Calls Try.prog 18 #[t.agg, t.row] W fun e w' => e = .returned (.bool rb) ∧ Below W.heap.size W w') :
    Calls Try.prog 10 #[t.agg, t.row] w fun e w' => e = .returned (.int .i64 (if rb then ofL t.word (fillL t.l2.length t.l4 t.word) t.s 0 t.word.length else -1)) ∧ Below w.heap.size w w' := by
  have HC := Lib.hid hc
  have HF := Lib.hid hf
  have HG := Lib.hid hg
  have HR := Lib.hid hr
  have HFI := fun (W : World) (hb : Below w.heap.size w W) (h : rb = true) => fill_at t W (hc.below hb) hf (hg h)
  have HFIL := Lib.hid HFI
  have HST := Lib.hid (fun (w0 W : World) (g : Nat) (v : Value) (h : rb = true) (hT : TabAt t w0 W g v (fillL t.l2.length t.l4 t.word)) => start_at hT hf (hg h))
  clear hc hf hg hr HFI
  obtain ⟨ts, tr, A2, c2, l2, A3, c3, l3, A4, c4, l4, A5, c5, word⟩ := t
  unfold Tb.agg Tb.row at *
  simp only at *
  have HB0 := Lib.hid ((Below.refl w.heap.size w).alloc (Nat.le_refl _) (.cells #[.int .i64 ts, .int .i64 tr, .slice A2 l2.length c2, .slice A3 l3.length c3, .slice A4 l4.length c4] 26))
  go_enter Try.func10, Try.ntmps10
  go_wp2_with fail
  refine (HR.out _ HB0.out).mono ?_
  rintro e w1 ⟨rfl, hb1⟩
  have HB1 := Lib.hid (HB0.out.trans (hb1.mono (by simp)))
  have hblk1 : w1.heap[w.heap.size]? = some (.cells #[.int .i64 ts, .int .i64 tr, .slice A2 l2.length c2, .slice A3 l3.length c3, .slice A4 l4.length c4] 26 (0, 0)) := (hb1.block w.heap.size (by simp)).trans (heap_alloc_new w _)
  have HK := Lib.hid hblk1
  clear hb1 hblk1
  cases rb with
  | false =>
    go_wp2_with fail
    go_ret
    exact ⟨rfl, HB1.out⟩
  | true =>
    have h0 := blk_cell HK.out 0
    have h1 := blk_cell HK.out 1
    have h2 := blk_cell HK.out 2
    have h3 := blk_cell HK.out 3
    have h4 := blk_cell HK.out 4
    simp only [List.getElem?_toArray, List.getElem?_cons_zero, List.getElem?_cons_succ] at h0 h1 h2 h3 h4
    go_wp2_with fail
    have HBD : Hid (Below w.heap.size w w1.drew) := HB1.out.drew
    have hlt := blk_lt HK.out
    go_region_with (first
      | (go_at_call 19
         refine (HFIL.out _ HBD.out trivial).mono ?_
         rintro e w2 ⟨rfl, v, hT⟩
         have HT := Lib.hid hT
         have HB2 := Lib.hid (HBD.out.trans (hT.below.mono HBD.out.size))
         have k0 := (hT.below.cell (p := ⟨w.heap.size, 0, none⟩) hlt).trans h0
         clear hT)
      | (go_at_call 20
         refine (HST.out _ _ _ _ trivial HT.out).mono ?_
         rintro e w3 ⟨rfl, hb3⟩
         have HB3 := Lib.hid (HB2.out.trans (hb3.mono HB2.out.size))
         clear hb3))
    all_goals
      go_wp2_with fail
      go_ret
      exact ⟨by simp, HB3.out⟩
end Go.Proofs.Ytnkpmogpmcggiaa
