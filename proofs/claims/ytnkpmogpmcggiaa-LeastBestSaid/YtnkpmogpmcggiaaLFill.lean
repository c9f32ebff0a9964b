/- Filling the table. -/
import Derived.Test.YtnkpmogpmcggiaaLRound
import Derived.Test.YtnkpmogpmcggiaaLFillL
import Derived.Deep.LoopGhost
set_option linter.unusedVariables false
set_option linter.unusedSimpArgs false
namespace Go.Proofs.Ytnkpmogpmcggiaa
open Go.RowKit Go.Proofs.YtnkpmogpmcggiaaW.PrintWords Go.Proofs.YtnkpmogpmcggiaaW.PrintLast Go.Proofs.YtnkpmogpmcggiaaW.PrintMore

theorem info43 : (Try.prog.info? 43).map (fun i => (i.zero, i.size, i.bytes)) = some (some (.slice none 0 0), 1, 24) := by kernel_rfl

/-- New nodes are stored into the table. -/
theorem TabAt.store {t : Tb} {w0 W : World} {g : Nat} {v v1 : Value} {N1 : Tab3} (hblk : W.heap[g]? = some (.cells (t.cells v) 71 (0, 0))) (hge : w0.heap.size ≤ g) (hb : Below w0.heap.size w0 W) (hc : t.Came w0)
    (hS : Kd.S midK 43 W w0.heap.size (fun _ => True) v1 N1) : TabAt t w0 (W.setCell ⟨g, 6, none⟩ v1) g v1 N1 := by
  refine ⟨?_, hge, Kd.S_set hS hblk (by decide) 6 v1, below_set hb hge, hc⟩
  have := blk_set hblk 6 v1
  simpa [Tb.cells] using this

def row0 (L : Nat) : List Int := List.replicate (L + 1) (-1)
def emptyN (L k : Nat) : Tab3 := List.replicate k (List.replicate (L + 1) (row0 L))
theorem emptyN_succ (L k : Nat) : emptyN L k ++ [List.replicate (L + 1) (row0 L)] = emptyN L (k + 1) := List.replicate_succ'.symm
theorem emptyN_len (L k : Nat) : (emptyN L k).length = k := List.length_replicate ..
theorem rows_form {w : World} {B j : Nat} {u : Value} {r : List Int} (h : Kd.S rowK 34 w B (fun _ => True) u (List.replicate j r)) : ∃ A c, u = .slice A j c := by
  have := Kd.S_slice h; rw [List.length_replicate] at this; exact this
theorem row_form {w : World} {B j : Nat} {u : Value} {r : Int} {ok : Nat → Prop} (h : Kd.R (Kd.int .i64) 3 w B ok u (List.replicate j r)) : ∃ A c, u = .slice A j c := by
  have := Kd.R_slice h; rw [List.length_replicate] at this; exact this
theorem nodes_form {w : World} {B L k : Nat} {u : Value} {ok : Nat → Prop} (h : Kd.S midK 43 w B ok u (emptyN L k)) : ∃ A c, u = .slice A k c := by
  have := Kd.S_slice h; rw [emptyN_len] at this; exact this

/-- One row more. -/
theorem rows_more {w : World} {B : Nat} {vr : Value} {rows : List (List Int)} (h : Kd.S rowK 34 w B (fun _ => True) vr rows) {w1 : World} (hb : Below w.heap.size w w1) :
    Kd.S rowK 34 w1 B (fun k => True ∧ ¬ w.heap.size ≤ k) vr rows :=
  Kd.S_below (Kd.S_mono (Kd.S_bound h) (fun k hk => ⟨trivial, by have := hk.2.2.1; omega⟩)) hb

theorem over_dims {n : Nat} {l4 : List S39} (h : Over n l4) : ∀ x ∈ l4, 0 ≤ x.f0 ∧ x.f0 < n ∧ ∀ s ∈ x.f1, s < n := fun x hx => ⟨(h x hx).1, (h x hx).2.1, fun s hs => ((h x hx).2.2.2 s hs).1⟩
theorem nodes_more {w : World} {B : Nat} {vr : Value} {N : Tab3} (h : Kd.S midK 43 w B (fun _ => True) vr N) {w1 : World} (hb : Below w.heap.size w w1) :
    Kd.S midK 43 w1 B (fun k => True ∧ ¬ w.heap.size ≤ k) vr N :=
  Kd.S_below (Kd.S_mono (Kd.S_bound h) (fun k hk => ⟨trivial, by have := hk.2.2.1; omega⟩)) hb
set_option maxHeartbeats 4000000 in
theorem fill_calls (t : Tb) (w0 : World) (hcame : t.Came w0) (hL : t.word.length ≤ 900) (h2 : t.l2.length ≤ t.c2) (h3 : t.l3.length ≤ t.c3) (h4 : t.l4.length ≤ t.c4) (h5 : t.word.length ≤ t.c5) (hx : Over t.l2.length t.l4) (hn : t.l2.length ≤ 1000) :
    Calls Try.prog 19 #[.agg #[.int .i64 t.s, .int .i64 t.r, .slice t.A2 t.l2.length t.c2, .slice t.A3 t.l3.length t.c3, .slice t.A4 t.l4.length t.c4], .slice t.A5 t.word.length t.c5] w0 fun e w' =>
      e = .returned (.pointer (some ⟨w0.heap.size + 1, 0, none⟩)) ∧ ∃ v, TabAt t w0 w' (w0.heap.size + 1) v (fillL t.l2.length t.l4 t.word) := by
  obtain ⟨ts, tr, A2, c2, l2, A3, c3, l3, A4, c4, l4, A5, c5, word⟩ := t
  simp only at hx hL h2 h3 h4 h5 hn ⊢
  have HC := Lib.hid hcame
  have HX := Lib.hid hx
  clear hcame hx
  go_enter Try.func19, Try.ntmps19
  go_wp2_with fail
  go_loopw [16, 6] (fun iv rv wr => ∃ (k : Nat) (v : Value), k ≤ l2.length ∧ iv = .int .i64 k ∧ Hid (TabAt ⟨ts, tr, A2, c2, l2, A3, c3, l3, A4, c4, l4, A5, c5, word⟩ w0 wr (w0.heap.size + 1) v (emptyN word.length k))) (fun iv _ _ => l2.length - (intOf iv).toNat)
  case atStart =>
    refine ⟨0, .slice none 0 0, Nat.zero_le _, rfl, ⟨by simpa [Tb.cells] using heap_alloc_new (w0.alloc _) _, by omega, Kd.S_nil _ _ _ _ _, ?_, HC.out⟩⟩
    exact ((Below.refl _ _).alloc (Nat.le_refl _) _).alloc (by simp) _
  case round =>
    obtain ⟨k, v, hk, rfl, HT⟩ := hrel
    by_cases hlt : k < l2.length
    · go_wp2_with fail
      rename World => w1
      go_loopw [21, 6] (fun iv rv wr2 => ∃ (j : Nat), j ≤ word.length + 1 ∧ iv = .int .i64 j ∧ Hid (Below w1.heap.size w1 wr2) ∧ Hid (Kd.S rowK 34 wr2 w1.heap.size (fun _ => True) rv (List.replicate j (row0 word.length)))) (fun iv _ _ => word.length + 1 - (intOf iv).toNat)
      case atStart => exact ⟨0, Nat.zero_le _, rfl, Below.refl _ _, Kd.S_nil _ _ _ _ _⟩
      case round =>
        obtain ⟨j, hj, rfl, HB, HR⟩ := hrel
        by_cases hlt2 : j < word.length + 1
        · obtain ⟨Au, cu, rfl⟩ := rows_form HR.out
          have hK : ∀ k, wr.heap.size ≤ k → True ∧ some k ≠ (Value.slice Au j cu).ownBlock := fun k hk => ⟨trivial, fun e => by
            obtain ⟨cells, hc⟩ := Kd.S_typed HR.out k e.symm
            have := blk_lt hc
            omega⟩
          have HK := Lib.hid hK
          clear hK
          go_wp2_with fail
          rw [show ((word.length : Int) + 1) = ((word.length + 1 : Nat) : Int) from by omega]
          refine (repeat_one (-1) (word.length + 1) 1 _ _ (by omega) (by omega) ?hc).mono ?_
          case hc =>
            have := heap_alloc_new wr (.cells #[.int .i64 (-1)] 3)
            exact blk_cell this 0
          rintro e w3 ⟨v0, rfl, hR, hb3⟩
          have hb4 := ((Below.refl wr.heap.size wr).alloc (Nat.le_refl _) (.cells #[.int .i64 (-1)] 3)).trans (hb3.mono (by simp))
          have HB3 := Lib.hid hb4
          have HR0 := Lib.hid hR
          obtain ⟨Av, cv, rfl⟩ := row_form hR
          clear hR hb3 hb4
          go_wp2_with (first | ((with_reducible refine gate_builtin (b := .append) (xs := #[.tmp 23, .tmp 29]) rfl ?_); at_builtin; refine Kd.S_append rowK (w0 := w1) w1.heap.size rfl (.tmp 23) (.tmp 29) 43 34 (.slice none 0 0) 24 rfl Try.underlying43 info34 rfl (by decide) (by omega) (.slice Au j cu) (List.replicate j (row0 word.length)) (row0 word.length) [.slice Av (word.length + 1) cv] (fun _ => True) (fun k => wr.heap.size ≤ k) rfl rfl ?aP HK.out (fun _ _ => trivial) ?aO ?aB ?aS ?aL ?_))
          case aP => exact Kd.M_row (Kd.R_lower (Kd.R_mono (Kd.R_bound HR0.out) (fun k hk => Nat.le_trans (by simp) hk.2.1)) (Nat.le_trans HB.out.size (by simp)))
          case aO => exact rows_more HR.out HB3.out
          case aB => exact HB.out.trans (HB3.out.mono HB.out.size)
          case aS => exact Nat.le_trans HB.out.size HB3.out.size
          case aL => simp only [List.length_replicate]; omega
          intro v1 w4 hS4 hb4 hg4 hn4
          rw [← List.replicate_succ'] at hS4
          obtain ⟨A1, k1, rfl⟩ := rows_form hS4
          have HS4 := Lib.hid hS4
          have HB4 := Lib.hid hb4
          clear hS4 hb4 hg4 hn4
          go_wp2_with fail
          go_roundw
          case rel => exact ⟨j + 1, by omega, by go_num, HB4, HS4⟩
          case measure => simp [intOf]; omega
        · obtain rfl : j = word.length + 1 := by omega
          have hK : ∀ q, w1.heap.size ≤ q → True ∧ some q ≠ v.ownBlock := fun q hq => ⟨trivial, fun e => by
            obtain ⟨cells, hc⟩ := Kd.S_typed HT.out.own q e.symm
            have := blk_lt hc
            omega⟩
          have HK := Lib.hid hK
          clear hK
          have HT2 := Lib.hid (HT.out.then_ HB.out)
          have HN := Lib.hid (nodes_more HT.out.own HB.out)
          obtain ⟨A6, c6, rfl⟩ := nodes_form HT2.out.own
          obtain ⟨Au, cu, rfl⟩ := rows_form HR.out
          have g6 := blk_cell HT2.out.blk 6
          simp only [Tb.cells, List.getElem?_toArray, List.getElem?_cons_zero, List.getElem?_cons_succ] at g6
          go_wp2_with (first | ((with_reducible refine gate_builtin (b := .append) (xs := #[.tmp 36, .tmp 38]) rfl ?_); at_builtin; refine Kd.S_append midK (w0 := w0) w0.heap.size rfl (.tmp 36) (.tmp 38) 69 43 (.slice none 0 0) 24 rfl Try.underlying69 info43 rfl (by decide) (by omega) (.slice A6 k c6) (emptyN word.length k) (List.replicate (word.length + 1) (row0 word.length)) [.slice Au (word.length + 1) cu] (fun _ => True) (fun q => w1.heap.size ≤ q) rfl rfl ?aP HK.out (fun _ _ => trivial) HN.out HT2.out.below HT2.out.below.size ?aL ?_))
          case aP => exact ⟨_, rfl, Kd.S_lower (Kd.S_mono (Kd.S_bound HR.out) (fun q hq => hq.2.1)) HT.out.below.size⟩
          case aL => rw [emptyN_len]; omega
          intro v1 w4 hS4 hb4 hg4 hn4
          rw [emptyN_succ] at hS4
          obtain ⟨A1, k1, rfl⟩ := nodes_form hS4
          have hblk := blk_grown HT2.out.blk hg4 (Kd.S_ne HT2.out.own HT2.out.blk (by decide))
          have g7 := blk_cell hblk 6
          simp only [Tb.cells, List.getElem?_toArray, List.getElem?_cons_zero, List.getElem?_cons_succ] at g7
          have f7 := frozen_of_row w4 (w0.heap.size + 1) 6 _ _ hblk
          have HF := Lib.hid (TabAt.store hblk (by omega) hb4 HC.out hS4)
          clear hblk hS4 hb4 hg4 hn4 g6
          go_wp2_with fail
          go_roundw
          case rel => exact ⟨k + 1, _, by omega, by go_num, HF⟩
          case measure => simp [intOf]; omega
    · obtain rfl : k = l2.length := by omega
      go_wp2_with fail
      go_loopw [7, 8] (fun sv fv wr => ∃ (z : Nat), z ≤ word.length + 1 ∧ sv = .int .i64 z ∧ Hid (TabAt ⟨ts, tr, A2, c2, l2, A3, c3, l3, A4, c4, l4, A5, c5, word⟩ w0 wr (w0.heap.size + 1) v (sizesL l2.length l4 word z (emptyN word.length l2.length)))) (fun sv _ _ => word.length + 1 - (intOf sv).toNat)
      case atStart => exact ⟨0, Nat.zero_le _, rfl, HT⟩
      case round =>
        obtain ⟨z, hz, rfl, HT⟩ := hrel
        by_cases hlt2 : z < word.length + 1
        · have hDz := sizesL_dim (n := l2.length) (word := word) rfl (over_dims HX.out) z _ (by omega) (emptyL_dim l2.length word.length)
          rw [show emptyL l2.length word.length = emptyN word.length l2.length from rfl] at hDz
          have HDz := Lib.hid hDz
          have HZ := Lib.hid (sizesL_succ l2.length l4 word z (emptyN word.length l2.length))
          clear hDz
          go_wp2_with fail
          go_loopw [8] (fun fv wr2 => ∃ (c : Nat), c + z ≤ word.length + 1 ∧ fv = .int .i64 c ∧ Hid (TabAt ⟨ts, tr, A2, c2, l2, A3, c3, l3, A4, c4, l4, A5, c5, word⟩ w0 wr2 (w0.heap.size + 1) v (rowL l2.length l4 word z c (sizesL l2.length l4 word z (emptyN word.length l2.length))))) (fun fv _ => word.length + 1 - (intOf fv).toNat)
          case atStart => exact ⟨0, by omega, rfl, HT⟩
          case round =>
            generalize sizesL l2.length l4 word z (emptyN word.length l2.length) = Mz at *
            obtain ⟨c, hc, rfl, HT4⟩ := hrel
            by_cases hlt4 : c + z < word.length + 1
            · have HDc := Lib.hid (rowL_dim (word := word) (over_dims HX.out) z c _ (by omega) HDz.out)
              have HS := Lib.hid (rowL_succ l2.length l4 word z c Mz)
              generalize rowL l2.length l4 word z c Mz = Mc at *
              go_wp2_with fail
              go_loopg [62] (mu l2.length Mc c (c + z) + 1) (fun kq v62 w' => ∃ N', Hid (TabAt ⟨ts, tr, A2, c2, l2, A3, c3, l3, A4, c4, l4, A5, c5, word⟩ w0 w' (w0.heap.size + 1) v N') ∧ Hid (Dim word.length l2.length N') ∧ Hid (mu l2.length N' c (c + z) + 1 ≤ kq) ∧ Hid (cellL l2.length l4 word c (c + z) N' = cellL l2.length l4 word c (c + z) Mc))
              case atStart => exact ⟨Mc, HT4, HDc, Nat.le_refl _, rfl⟩
              case round =>
                obtain ⟨N', HT5, HD5, HM5, HC5⟩ := hrel
                cases gk with
                | zero => have := HM5.out; omega
                | succ k1 =>
                  go_wp2_with fail
                  rw [show ((c : Int) + (z : Int)) = ((c + z : Nat) : Int) from by omega]
                  refine (round_calls HT5.out HD5.out rfl hL HX.out c (c + z) (by omega) (by omega)).mono ?_
                  rintro e w2 ⟨rfl, hT2, _⟩
                  simp only at hT2 ⊢
                  cases hb : (roundL l4 word c (c + z) N').2 with
                  | false =>
                    rw [roundL_false (by omega) (by omega) HD5.out (over_dims HX.out) hb] at hT2
                    have h5 := HC5.out
                    rw [cellL_false hb, ← HS.out] at h5
                    rw [h5] at hT2
                    have HT6 := Lib.hid hT2
                    clear hT2 h5 hb
                    go_wp2_with fail
                    go_roundw
                    case rel => exact ⟨c + 1, by omega, by go_num, HT6⟩
                    case measure => simp [intOf]; omega
                  | true =>
                    obtain ⟨hm, h6⟩ := cellL_true (by omega) (by omega) HD5.out (over_dims HX.out) hb
                    have h5 := HC5.out
                    rw [h6] at h5
                    have HT6 := Lib.hid hT2
                    have HD6 := Lib.hid (roundL_dim (word := word) (i := c) (j := c + z) (by omega) (by omega) l4 (N', false) HD5.out (over_dims HX.out))
                    have HC6 := Lib.hid h5
                    have HM6 := Lib.hid (show mu l2.length (roundL l4 word c (c + z) N').1 c (c + z) + 1 ≤ k1 from by have := HM5.out; omega)
                    clear hT2 h5 hb hm h6
                    go_wp2_with fail
                    go_roundg k1
                    case measure => omega
                    case rel => exact ⟨_, HT6, HD6, HM6, HC6⟩
            · obtain rfl : c = word.length + 1 - z := by omega
              go_wp2_with fail
              rw [← HZ.out] at HT4
              go_roundw
              case rel => exact ⟨z + 1, by omega, by go_num, HT4⟩
              case measure => simp [intOf]; omega
        · obtain rfl : z = word.length + 1 := by omega
          go_wp2_with fail
          go_ret
          exact ⟨rfl, _, HT.out⟩
end Go.Proofs.Ytnkpmogpmcggiaa
