/- LeastBest: its function, walked over what its parts compute. -/
import Derived.Test.YtnkpmogpmcggiaaMade
import Derived.Test.YtnkpmogpmcggiaaLGrown
import Derived.Test.YtnkpmogpmcggiaaLCall
import Derived.Test.YtnkpmogpmcggiaaLSpeaks
import Derived.Test.YtnkpmogpmcggiaaLSize
set_option linter.unusedVariables false
set_option linter.unusedSimpArgs false
namespace Go.Proofs.Ytnkpmogpmcggiaa
open Go.RowKit Go.Proofs.YtnkpmogpmcggiaaW.PrintWords Go.Proofs.YtnkpmogpmcggiaaW.PrintLast Go.Proofs.YtnkpmogpmcggiaaW.PrintMore

/-- What the law wants of what is computed. -/
def BestOk (r1 r2 : Int) (r3 r4 : List ByteArray) (r5 : List S39) (r6 : Int) (r10 : List S64) (choices : List Int) : Prop :=
  r10.length ≤ 1000 ∧ (∀ y ∈ r10, y.f1.length ≤ 1000) ∧ ∃ o n', grownG r10 choices 64 r6 0 = some (o, n') ∧ ∀ t, o = some t → ∃ ky y, tree_Yield.f ky t.f0 t.f1 = some y ∧ (y.length ≤ 12 →
    ∃ u0 u1 kn n d km m d', least_Tree.f r1 r2 r3 r4 r5 y = some (u0, u1, 0) ∧ tree_Size.f kn t.f0 t.f1 = some (n, d) ∧ tree_Size.f km u0 u1 = some (m, d') ∧ m ≤ n ∧ (m < n ∨ u0 ≤ t.f0))

set_option maxHeartbeats 8000000 in
set_option maxRecDepth 100000 in
theorem best_calls (k : Nat) (a0 a1 a2 : Int) (A3 : Option Addr) (c3 : Nat) (l3 : List Int) (A4 : Option Addr) (c4 : Nat) (l4 : List (List Int)) (A1 : Option Addr) (c1 : Nat) (l1 : List Int) (W : World)
    (h3 : Kd.C (Kd.int .i64) W A3 l3.length l3) (hc3 : l3.length ≤ c3) (h4 : Kd.C (Kd.slice 3 (Kd.int .i64)) W A4 l4.length l4) (hc4 : l4.length ≤ c4) (h1 : Kd.C (Kd.int .i64) W A1 l1.length l1) (hc1 : l1.length ≤ c1)
    (r1 r2 : Int) (r3 r4 : List ByteArray) (r5 : List S39) (r6 r7 : Int) (r8 r9 : List ByteArray) (r10 : List S64) (hm : primerlaw15_made.f k a0 a1 a2 l3 l4 = some (r1, r2, r3, r4, r5, r6, r7, r8, r9, r10))
    (ok : BestOk r1 r2 r3 r4 r5 r6 r10 l1) :
    Calls Try.prog 5 #[.agg #[.int .i64 a0, .int .i64 a1, .int .i64 a2, .slice A3 l3.length c3, .slice A4 l4.length c4], .slice A1 l1.length c1] W fun e w' => e = .returned (.bool true) ∧ Below W.heap.size W w' := by
  have H3 := Lib.hid h3
  have H4 := Lib.hid h4
  have H1 := Lib.hid h1
  have HC3 := Lib.hid hc3
  have HC4 := Lib.hid hc4
  have HM := Lib.hid hm
  obtain ⟨ok1, ok2, o, n', hg, hok⟩ := ok
  have HO1 := Lib.hid ok1
  have HO2 := Lib.hid ok2
  have HG := Lib.hid hg
  have HOK := Lib.hid hok
  clear h3 h4 h1 hc3 hc4 hm ok1 ok2 hg hok
  go_enter Try.func5, Try.ntmps5
  go_wp2_with (first | ((with_reducible refine gate_dst (N := 2) rfl ?_); refine box_event ?hg (N := 2) ?hd (cs := #[.int .i64 a0, .int .i64 a1, .int .i64 a2, .slice A3 l3.length c3, .slice A4 l4.length c4]) (t := 45) ?hr ?_; (case hd => rfl); (case hg => rfl); (case hr => first | (go_simp; done) | (go_simp; rfl)); intro g2 hg2 w2 hbox hb; have HX2 := Lib.hid hbox; have HB2 := Lib.hid hb; clear hbox hb hg2))
  refine (speaks_calls _).mono ?_
  rintro e w3 ⟨rfl, hb3⟩
  have HX23 := Lib.hid (blk_below_ HX2.out hb3)
  have HB3 := Lib.hid (HB2.out.trans (hb3.mono HB2.out.size))
  clear hb3
  obtain ⟨⟨q0, q1, q2, q3, q4⟩, _⟩ := facts5 HX23.out
  go_wp2_with fail
  refine (primerlaw15_made.calls k a0 a1 a2 A3 c3 l3 A4 c4 l4 r1 r2 r3 r4 r5 r6 r7 r8 r9 r10 w3 (Kd.C_below H3.out HB3.out) HC3.out (Kd.C_below H4.out HB3.out) HC4.out HM.out).mono ?_
  rintro e w4 ⟨P2, p2, P3, p3, P4, p4, Q2, s2, Q3, s3, Q4, s4, rfl, ⟨hP2, hP3, hP4⟩, ⟨hQ2, hQ3, hQ4⟩, hb4⟩
  have HP2 := Lib.hid hP2
  have HP3 := Lib.hid hP3
  have HP4 := Lib.hid hP4
  have HQ4 := Lib.hid hQ4
  have HB4 := Lib.hid (HB3.out.trans (hb4.mono HB3.out.size))
  clear hP2 hP3 hP4 hQ2 hQ3 hQ4 hb4 q0 q1 q2 q3 q4
  go_upto_region 4 with (first | ((with_reducible refine gate_dst (N := 5) rfl ?_); (try (refine gate_guard (by rfl) ?_; dsimp only)); refine box_event ?hg (N := 5) ?hd (cs := #[.int .i64 0, .int .i64 0, .slice none 0 0, .slice none 0 0, .slice none 0 0]) (t := 26) ?hr ?_; (case hd => rfl); (case hg => rfl); (case hr => first | (go_simp; done) | (go_simp; rfl)); intro g5 hg5 w5 hbox hb; have HX5 := Lib.hid hbox; have HB5 := Lib.hid hb; have HG5 := Lib.hid hg5; clear hbox hb hg5) | ((with_reducible refine gate_dst (N := 6) rfl ?_); (try (refine gate_guard (by rfl) ?_; dsimp only)); refine box_event ?hg (N := 6) ?hd (cs := #[.int .i64 0, .int .i64 0, .slice none 0 0, .slice none 0 0, .slice none 0 0]) (t := 48) ?hr ?_; (case hd => rfl); (case hg => rfl); (case hr => first | (go_simp; done) | (go_simp; rfl)); intro g6 hg6 w6 hbox hb; have HX6 := Lib.hid hbox; have HB6 := Lib.hid (below_step HB5.out hb); have HG6 := Lib.hid hg6; have HX56 := Lib.hid (blk_below_ HX5.out hb); have hne : g5 ≠ g6 := (by rw [hg6]; exact Nat.ne_of_lt (blk_lt HX5.out)); have hne' : g6 ≠ g5 := fun e => hne e.symm; obtain ⟨⟨ak0, ak1, ak2, ak3, ak4⟩, af0, af1, af2, af3, af4⟩ := facts5 HX56.out; obtain ⟨⟨bk0, bk1, bk2, bk3, bk4⟩, bf0, bf1, bf2, bf3, bf4⟩ := facts5 HX6.out; clear hbox hb hg6))
  have HXp := Lib.hid (far5 (put5 HX56.out (.int .i64 r1) (.int .i64 r2) (.slice P2 r3.length p2) (.slice P3 r4.length p3) (.slice P4 r5.length p4)) hne (.int .i64 r6) (.int .i64 r7) (.slice Q2 r8.length s2) (.slice Q3 r9.length s3) (.slice Q4 r10.length s4))
  have HXq := Lib.hid (put5 (far5 HX6.out hne' (.int .i64 r1) (.int .i64 r2) (.slice P2 r3.length p2) (.slice P3 r4.length p3) (.slice P4 r5.length p4)) (.int .i64 r6) (.int .i64 r7) (.slice Q2 r8.length s2) (.slice Q3 r9.length s3) (.slice Q4 r10.length s4))
  have HB7 := Lib.hid (below_put5 (g := g6) (below_put5 (g := g5) HB6.out (by rw [HG5.out]; exact Nat.le_refl _) (.int .i64 r1) (.int .i64 r2) (.slice P2 r3.length p2) (.slice P3 r4.length p3) (.slice P4 r5.length p4)) (by rw [HG6.out]; exact HB5.out.size) (.int .i64 r6) (.int .i64 r7) (.slice Q2 r8.length s2) (.slice Q3 r9.length s3) (.slice Q4 r10.length s4))
  clear ak0 ak1 ak2 ak3 ak4 af0 af1 af2 af3 af4 bk0 bk1 bk2 bk3 bk4 bf0 bf1 bf2 bf3 bf4
  generalize ((((((((((w6.setCell ⟨g5, 0, none⟩ (.int .i64 r1)).setCell ⟨g5, 1, none⟩ (.int .i64 r2)).setCell ⟨g5, 2, none⟩ (.slice P2 r3.length p2)).setCell ⟨g5, 3, none⟩ (.slice P3 r4.length p3)).setCell ⟨g5, 4, none⟩ (.slice P4 r5.length p4)).setCell ⟨g6, 0, none⟩ (.int .i64 r6)).setCell ⟨g6, 1, none⟩ (.int .i64 r7)).setCell ⟨g6, 2, none⟩ (.slice Q2 r8.length s2)).setCell ⟨g6, 3, none⟩ (.slice Q3 r9.length s3)).setCell ⟨g6, 4, none⟩ (.slice Q4 r10.length s4)) = w7 at *
  have HB7W := Lib.hid (HB4.out.trans (HB7.out.mono HB4.out.size))
  clear hne hne'
  have t0 := (facts5 HXq.out).1.1
  go_upto_region 5 with (((with_reducible refine gate_dst (N := 7) rfl ?_); (try (refine gate_guard (by rfl) ?_; dsimp only)); refine box_event ?hg (N := 7) ?hd (cs := #[.int .i64 0]) (t := 3) ?hr ?_; (case hd => rfl); (case hg => rfl); (case hr => first | (go_simp; done) | (go_simp; rfl)); intro g7 hg7 w8 hbox hb; have HX7 := Lib.hid hbox; have HB8 := Lib.hid hb; have HG7 := Lib.hid hg7; have f7 := blk_frozen hbox 0; have k7 : w8.cell? ⟨g7, 0, none⟩ = some (.int .i64 0) := (blk_cell hbox 0).trans rfl; clear hbox hb hg7))
  have HXat := Lib.hid (by simpa using blk_set HX7.out 0 (.int .i64 0) : (w8.setCell ⟨g7, 0, none⟩ (.int .i64 0)).heap[g7]? = some (.cells #[.int .i64 0] 3 (0, 0)))
  have HB9 := Lib.hid (HB8.out.setCell (p := ⟨g7, 0, none⟩) (by show w7.heap.size ≤ g7; rw [HG7.out]; exact Nat.le_refl _) (.int .i64 0))
  clear f7 k7 t0
  generalize w8.setCell ⟨g7, 0, none⟩ (.int .i64 0) = w9 at *
  have HXq9 := Lib.hid (blk_below_ HXq.out HB9.out)
  obtain ⟨⟨t0, t1, t2, t3, t4⟩, _⟩ := facts5 HXq9.out
  go_wp2_with fail
  refine (grown_calls (gs := r6) (gr := r7) (A2 := Q2) (c2 := s2) (l2 := r8) (A3 := Q3) (c3 := s3) (l3 := r9) (A4 := Q4) (c4 := s4) (q := r10) (Ac := A1) (cc := c1) (choices := l1) (w0 := w7) (ga := g7) (Kd.C_below HQ4.out.1 HB7.out) (Kd.C_below H1.out HB7W.out) (by rw [HG7.out]; exact Nat.le_refl _) HO1.out HO2.out 64 r6 0 o n' w9 HB9.out HXat.out HG.out (by decide)).mono ?_
  rintro e w10 ⟨Ak, ck, rfl, hR, hat, hbu⟩
  have HBU := Lib.hid (hbu.below (B := w7.heap.size) (by rw [HG7.out]; exact Nat.le_refl _) HB9.out.size)
  have HB10 := Lib.hid (HB9.out.trans HBU.out)
  have HR := Lib.hid hR
  have HS10 : Hid (w9.heap.size ≤ w10.heap.size) := hbu.size
  clear hR hat hbu t0 t1 t2 t3 t4
  go_upto_region 6 with (((with_reducible refine gate_dst (N := 8) rfl ?_); (try (refine gate_guard (by rfl) ?_; dsimp only)); refine box_event ?hg (N := 8) ?hd (cs := #[.int .i64 0, .slice none 0 0]) (t := 30) ?hr ?_; (case hd => rfl); (case hg => rfl); (case hr => first | (go_simp; done) | (go_simp; rfl)); intro g8 hg8 w11 hbox hb; have HX8 := Lib.hid hbox; have HB11 := Lib.hid hb; have HG8 := Lib.hid hg8; have f80 := blk_frozen hbox 0; have f81 := blk_frozen hbox 1; have k80 : w11.cell? ⟨g8, 0, none⟩ = some (.int .i64 0) := (blk_cell hbox 0).trans rfl; have k81 : w11.cell? ⟨g8, 1, none⟩ = some (.slice none 0 0) := (blk_cell hbox 1).trans rfl; clear hbox hb hg8))
  have HX8s := Lib.hid (put2 HX8.out (.int .i64 (resT o).f0) (.slice Ak (resT o).f1.length ck))
  have hRa := Kd.R_below (Kd.R_mono (ok' := fun k_ => k_ < w10.heap.size) (Kd.R_bound HR.out) (fun k_ hk_ => hk_.2.2.1)) HB11.out
  have hRb := Kd.R_far (p := ⟨g8, 1, none⟩) (Kd.R_far (p := ⟨g8, 0, none⟩) hRa (fun k_ hk_ => by have := HG8.out; simp only; omega) (.int .i64 (resT o).f0)) (fun k_ hk_ => by have := HG8.out; simp only; omega) (.slice Ak (resT o).f1.length ck)
  have HCT := Lib.hid (Kd.R_reads' hRb).2
  have HB12 := Lib.hid (HB10.out.trans ((below_set_ (p := ⟨g8, 1, none⟩) (below_set_ (p := ⟨g8, 0, none⟩) HB11.out (by show _ ≤ g8; rw [HG8.out]; exact Nat.le_refl _) (.int .i64 (resT o).f0)) (by show _ ≤ g8; rw [HG8.out]; exact Nat.le_refl _) (.slice Ak (resT o).f1.length ck)).mono (HB10.out.size)))
  clear hRa hRb f80 f81 k80 k81
  generalize (w11.setCell ⟨g8, 0, none⟩ (.int .i64 (resT o).f0)).setCell ⟨g8, 1, none⟩ (.slice Ak (resT o).f1.length ck) = w12 at *
  have HBE := Lib.hid (HB7W.out.trans (HB12.out.mono HB7W.out.size))
  have HCP : Hid (∀ W' : World, Below w7.heap.size w7 W' → (RowOf Kd.string W' P2 p2 r3 ∧ RowOf Kd.string W' P3 p3 r4 ∧ RowOf k39 W' P4 p4 r5)) := fun W' hb => ⟨⟨Kd.C_below (Kd.C_below HP2.out.1 HB7.out) hb, HP2.out.2⟩, ⟨Kd.C_below (Kd.C_below HP3.out.1 HB7.out) hb, HP3.out.2⟩, ⟨Kd.C_below (Kd.C_below HP4.out.1 HB7.out) hb, HP4.out.2⟩⟩
  cases o with
  | none =>
    simp only [Option.isSome_none]
    go_wp2_with fail
    go_ret
    exact ⟨rfl, HBE.out⟩
  | some t =>
    simp only [Option.isSome_some]
    obtain ⟨ky, y, hy, hrest⟩ := HOK.out t rfl
    obtain ⟨tf, tk⟩ := t
    unfold resT at HX8s HCT
    simp only at HX8s HCT hy hrest
    have HY := Lib.hid hy
    have HREST := Lib.hid hrest
    have e0 : w12.cell? ⟨g8, 0, none⟩ = some (.int .i64 tf) := (blk_cell HX8s.out 0).trans rfl
    have e1 : w12.cell? ⟨g8, 1, none⟩ = some (.slice Ak tk.length ck) := (blk_cell HX8s.out 1).trans rfl
    clear hy hrest
    go_wp2_with fail
    refine (tree_Yield.calls ky tf Ak ck tk y w12 HCT.out.2 HCT.out.1 HY.out).mono ?_
    rintro e w13 ⟨v0, rfl, hRy, hb13⟩
    obtain ⟨Ay, cy, e_⟩ := Kd.R_slice hRy
    subst e_
    have HCY := Lib.hid (Kd.R_reads' hRy).2
    have HX813 := Lib.hid (blk_below_ HX8s.out hb13)
    have HCT13 := Lib.hid (Kd.C_below HCT.out.2 hb13)
    have HB13 := Lib.hid (HB12.out.trans (hb13.mono HB12.out.size))
    have HBE13 := Lib.hid (HBE.out.trans (hb13.mono HBE.out.size))
    clear hRy hb13 e0 e1
    by_cases c12 : y.length ≤ 12
    · obtain ⟨u0, u1, kn, nn, dd, km, mm, dd', hu, hn, hmm, hle, hor⟩ := HREST.out c12
      have HU := Lib.hid hu
      have HN := Lib.hid hn
      have HMM := Lib.hid hmm
      have d0 : decide (12 < y.length) = false := decide_eq_false (by omega)
      have d1 : decide ((12 : Int) < (y.length : Int)) = false := decide_eq_false (by omega)
      have HXp13 := Lib.hid (blk_below_ HXp.out HB13.out)
      obtain ⟨⟨t0, t1, t2, t3, t4⟩, _⟩ := facts5 HXp13.out
      clear hu hn hmm
      go_wp2_with fail
      obtain ⟨m1, m2, m3⟩ := HCP.out _ HB13.out
      refine (least_Tree.calls r1 r2 P2 p2 r3 P3 p3 r4 P4 p4 r5 Ay cy y u0 u1 0 w13 m1.1 m1.2 m2.1 m2.2 m3.1 m3.2 HCY.out.2 HCY.out.1 HU.out).mono ?_
      rintro e w14 ⟨v1, rfl, hRu, hb14⟩
      obtain ⟨Au, cu, e_⟩ := Kd.R_slice hRu
      subst e_
      have HRU := Lib.hid hRu
      have HX814 := Lib.hid (blk_below_ HX813.out hb14)
      have HCT14 := Lib.hid (Kd.C_below HCT13.out hb14)
      have HBE14 := Lib.hid (HBE13.out.trans (hb14.mono HBE13.out.size))
      clear hRu hb14 t0 t1 t2 t3 t4 m1 m2 m3
      go_upto_region 12 with (((with_reducible refine gate_dst (N := 11) rfl ?_); (try (refine gate_guard (by rfl) ?_; dsimp only)); refine box_event ?hg (N := 11) ?hd (cs := #[.int .i64 0, .slice none 0 0]) (t := 30) ?hr ?_; (case hd => rfl); (case hg => rfl); (case hr => first | (go_simp; done) | (go_simp; rfl)); intro g11 hg11 w15 hbox hb; have HX11 := Lib.hid hbox; have HB15 := Lib.hid hb; have HG11 := Lib.hid hg11; have f110 := blk_frozen hbox 0; have f111 := blk_frozen hbox 1; have k110 : w15.cell? ⟨g11, 0, none⟩ = some (.int .i64 0) := (blk_cell hbox 0).trans rfl; have k111 : w15.cell? ⟨g11, 1, none⟩ = some (.slice none 0 0) := (blk_cell hbox 1).trans rfl; clear hbox hb hg11))
      have HXu := Lib.hid (put2 HX11.out (.int .i64 u0) (.slice Au u1.length cu))
      have hRa := Kd.R_below (Kd.R_mono (ok' := fun k_ => k_ < w14.heap.size) (Kd.R_bound HRU.out) (fun k_ hk_ => hk_.2.2.1)) HB15.out
      have hRb := Kd.R_far (p := ⟨g11, 1, none⟩) (Kd.R_far (p := ⟨g11, 0, none⟩) hRa (fun k_ hk_ => by have := HG11.out; simp only; omega) (.int .i64 u0)) (fun k_ hk_ => by have := HG11.out; simp only; omega) (.slice Au u1.length cu)
      have HCU := Lib.hid (Kd.R_reads' hRb).2
      have HB16 := Lib.hid (below_set_ (p := ⟨g11, 1, none⟩) (below_set_ (p := ⟨g11, 0, none⟩) HB15.out (by show _ ≤ g11; rw [HG11.out]; exact Nat.le_refl _) (.int .i64 u0)) (by show _ ≤ g11; rw [HG11.out]; exact Nat.le_refl _) (.slice Au u1.length cu))
      clear hRa hRb f110 f111 k110 k111
      generalize (w15.setCell ⟨g11, 0, none⟩ (.int .i64 u0)).setCell ⟨g11, 1, none⟩ (.slice Au u1.length cu) = w16 at *
      have HX816 := Lib.hid (blk_below_ HX814.out HB16.out)
      have HCT16 := Lib.hid (Kd.C_below HCT14.out HB16.out)
      have HBE16 := Lib.hid (HBE14.out.trans (HB16.out.mono HBE14.out.size))
      have e0 : w16.cell? ⟨g8, 0, none⟩ = some (.int .i64 tf) := (blk_cell HX816.out 0).trans rfl
      have e1 : w16.cell? ⟨g8, 1, none⟩ = some (.slice Ak tk.length ck) := (blk_cell HX816.out 1).trans rfl
      go_wp2_with fail
      refine (tree_Size.calls kn tf Ak ck tk nn dd w16 HCT16.out HCT.out.1 HN.out).mono ?_
      rintro e w17 ⟨rfl, hb17⟩
      have HX817 := Lib.hid (blk_below_ HX816.out hb17)
      have HXu17 := Lib.hid (blk_below_ HXu.out hb17)
      have HCU17 := Lib.hid (Kd.C_below HCU.out.2 hb17)
      have HBE17 := Lib.hid (HBE16.out.trans (hb17.mono HBE16.out.size))
      clear hb17 e0 e1
      have e0 : w17.cell? ⟨g11, 0, none⟩ = some (.int .i64 u0) := (blk_cell HXu17.out 0).trans rfl
      have e1 : w17.cell? ⟨g11, 1, none⟩ = some (.slice Au u1.length cu) := (blk_cell HXu17.out 1).trans rfl
      go_wp2_with fail
      refine (tree_Size.calls km u0 Au cu u1 mm dd' w17 HCU17.out HCU.out.1 HMM.out).mono ?_
      rintro e w18 ⟨rfl, hb18⟩
      have HX818 := Lib.hid (blk_below_ HX817.out hb18)
      have HXu18 := Lib.hid (blk_below_ HXu17.out hb18)
      have HBE18 := Lib.hid (HBE17.out.trans (hb18.mono HBE17.out.size))
      clear hb18 e0 e1
      have e0 : w18.cell? ⟨g11, 0, none⟩ = some (.int .i64 u0) := (blk_cell HXu18.out 0).trans rfl
      have e1 : w18.cell? ⟨g8, 0, none⟩ = some (.int .i64 tf) := (blk_cell HX818.out 0).trans rfl
      have d2 : decide (mm ≤ nn) = true := decide_eq_true hle
      by_cases c13 : mm < nn
      · have d3 : decide (mm < nn) = true := decide_eq_true c13
        clear hor
        go_wp2_with fail
        go_ret
        exact ⟨rfl, HBE18.out⟩
      · have d3 : decide (mm < nn) = false := decide_eq_false c13
        have d4 : decide (u0 ≤ tf) = true := decide_eq_true (by omega)
        clear hor
        go_wp2_with fail
        go_ret
        exact ⟨rfl, HBE18.out⟩
    · have d0 : decide (12 < y.length) = true := decide_eq_true (by omega)
      have d1 : decide ((12 : Int) < (y.length : Int)) = true := decide_eq_true (by omega)
      clear c12
      go_wp2_with fail
      go_ret
      exact ⟨rfl, HBE13.out⟩
end Go.Proofs.Ytnkpmogpmcggiaa
