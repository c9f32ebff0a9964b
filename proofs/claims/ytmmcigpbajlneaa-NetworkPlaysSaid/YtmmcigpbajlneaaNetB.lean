/- The methods of a network of frames, 2: Look, Send, Take, Double. -/
import Derived.Test.YtmmcigpbajlneaaNet
set_option linter.unusedVariables false
set_option linter.unusedSimpArgs false
namespace Go.Proofs.Ytmmcigpbajlneaa
open Go.RowKit
set_option maxRecDepth 100000

theorem look_no (p : Value) (i : Int) (w : World) (hp : ∀ w1, Below w.heap.size w w1 → Calls Try.prog 13 #[p] w1 fun e w' => e = .returned (.int .i64 0) ∧ w' = w1) :
    Calls Try.prog 12 #[p, .int .i64 i] w fun e w' => e = .returned (.tuple #[zagg, .bool false]) ∧ Below w.heap.size w w' := by
  have HP := Lib.hid hp
  clear hp
  go_enter Try.func12, Try.ntmps12
  go_wp2_with fail
  refine (HP.out _ ((Below.refl _ _).alloc (Nat.le_refl _) _)).mono ?_
  rintro e w' ⟨rfl, rfl⟩
  go_wp2
  refine bodyPost_ret (v := .tuple #[zagg, .bool false]) (by simp [results, Try.results12, zagg, go_sem]) rfl ⟨rfl, ?_⟩
  exact (Below.refl _ _).alloc (Nat.le_refl _) _

theorem look_nil (i : Int) (w : World) :
    Calls Try.prog 12 #[.pointer none, .int .i64 i] w fun e w' => e = .returned (.tuple #[zagg, .bool false]) ∧ Below w.heap.size w w' :=
  look_no _ i w fun w1 _ => count_nil w1

theorem look_empty {B g : Nat} {v : Value} {w : World} (i : Int) (h : NetAt w B g v []) :
    Calls Try.prog 12 #[.pointer (some ⟨g, 0, none⟩), .int .i64 i] w fun e w' => e = .returned (.tuple #[zagg, .bool false]) ∧ Below w.heap.size w w' :=
  look_no _ i w fun w1 hb => count_calls (h.below hb)

theorem frame_cells {B g b c : Nat} {l : List Fr} {w : World} (h : NetAt w B g (.slice (some ⟨b, 0, none⟩) l.length c) l) (k : Nat) (f : Fr) (hf : l[k]? = some f) :
    w.cell? ⟨b, k * 4, none⟩ = some (.int .i64 f.a) ∧ w.cell? ⟨b, k * 4 + 1, none⟩ = some (.int .i64 f.b) ∧ w.cell? ⟨b, k * 4 + 2, none⟩ = some (.string f.s) ∧ w.cell? ⟨b, k * 4 + 3, none⟩ = some (.bool f.t) := by
  obtain ⟨hk, rfl⟩ := List.getElem?_eq_some_iff.1 hf
  have e := fun j (hj : j < 4) => (h.own.cellAt (k * 4 + j) (by omega)).trans (frCells_at l k hk j hj)
  exact ⟨(e 0 (by omega)), (e 1 (by omega)), (e 2 (by omega)), (e 3 (by omega))⟩

theorem NetAt.some_form {w : World} {B g : Nat} {v : Value} {l : List Fr} (h : NetAt w B g v l) (hl : l ≠ []) : ∃ b c, v = .slice (some ⟨b, 0, none⟩) l.length c := by
  rcases h.own.2 with ⟨rfl, e⟩ | ⟨b, cap, cur, rfl, _⟩
  · exact absurd (List.eq_nil_of_length_eq_zero e) hl
  · exact ⟨_, cap, rfl⟩

/-- The place of a number that counts round. -/
def place (i : Int) (n : Nat) : Nat := (i % (n : Int)).toNat
theorem place_lt (i : Int) {n : Nat} (h : 0 < n) : place i n < n := by
  have := Int.emod_lt_of_pos i (show (0 : Int) < n by omega)
  have := Int.emod_nonneg i (show (n : Int) ≠ 0 by omega)
  unfold place
  omega

theorem look_some {B g : Nat} {v : Value} {l : List Fr} {w : World} (i : Int) (f : Fr) (h : NetAt w B g v l) (h2 : l.length ≤ 1024) (hf : l[place i l.length]? = some f) :
    Calls Try.prog 12 #[.pointer (some ⟨g, 0, none⟩), .int .i64 i] w fun e w' => e = .returned (.tuple #[f.agg, .bool true]) ∧ Below w.heap.size w w' := by
  have hn : l ≠ [] := by rintro rfl; simp at hf
  obtain ⟨b, c, rfl⟩ := h.some_form hn
  have h1 : 0 < l.length := List.length_pos_iff.2 hn
  have H := h.alloc (.cells #[.int .i64 0, .int .i64 0, .string ⟨#[]⟩, .bool false] 35)
  have hcell := H.cell
  obtain ⟨f0, f1, f2, f3⟩ := frame_cells H _ f hf
  have q0 := Int.emod_nonneg i (show (l.length : Int) ≠ 0 by omega)
  have q1 := Int.emod_lt_of_pos i (show (0 : Int) < l.length by omega)
  unfold place at f0 f1 f2 f3
  have hne : ((l.length : Int) == 0) = false := by rw [beq_eq_false_iff_ne]; omega
  clear hn h H hf
  unfold Fr.agg
  generalize l.length = n at *
  go_enter Try.func12, Try.ntmps12
  go_wp2_with fail
  refine (count_any _ _ _ _ _ hcell).mono ?_
  rintro e w' ⟨rfl, rfl⟩
  go_wp2_with fail
  refine wp_tail 13 (by kernel_rfl) (by kernel_rfl) ?_
  simp only [List.take_succ_cons, List.take_zero, List.drop_succ_cons, List.drop_zero]
  repeat still_step
  still_call (round_calls _ _ _ (by omega) (by omega))
  repeat still_step
  refine wpStill_nil ?_
  go_wp2
  refine bodyPost_ret (v := .tuple #[.agg #[.int .i64 f.a, .int .i64 f.b, .string f.s, .bool f.t], .bool true]) (by simp [results, Try.results12, go_sem]) rfl ⟨rfl, ?_⟩
  exact ((Below.refl _ _).alloc (Nat.le_refl _) _).drew

theorem send_nil (x y : Int) (s : ByteArray) (w : World) :
    Calls Try.prog 6 #[.pointer none, .int .i64 x, .int .i64 y, .string s] w fun e w' => e = .returned (.bool false) ∧ w' = w := by
  go_enter Try.func6, Try.ntmps6
  go_wp2
  go_ret
  exact ⟨rfl, rfl⟩

theorem send_full {B g : Nat} {v : Value} {l : List Fr} {w : World} (x y : Int) (s : ByteArray) (h : NetAt w B g v l) (h2 : 1024 ≤ l.length) :
    Calls Try.prog 6 #[.pointer (some ⟨g, 0, none⟩), .int .i64 x, .int .i64 y, .string s] w fun e w' => e = .returned (.bool false) ∧ w' = w := by
  obtain ⟨A, c, rfl⟩ := h.form
  have hcell := h.cell
  clear h
  go_enter Try.func6, Try.ntmps6
  go_wp2
  go_ret
  exact ⟨rfl, rfl⟩

/-- Behind an append onto the row and the store of the new slice into the field. -/
theorem NetAt.appended {w W w1 : World} {B g : Nat} {v v1 : Value} {l : List Fr} {f : Fr} (h : NetAt w B g v l) (hw : Below w.heap.size w W) (hB : B ≤ w.heap.size) (hown : w1.ownsRow B 35 4 v1 (l.length + 1) (frCells l ++ f.cells)) (hg : W.grownBy w1 v.ownBlock)
    (hat : v1.ownBlock = v.ownBlock ∨ v1.ownBlock = some W.heap.size) :
    NetAt (w1.setCell ⟨g, 0, none⟩ v1) B g v1 (l ++ [f]) ∧ Chg w (w1.setCell ⟨g, 0, none⟩ v1) g v := by
  have hW := h.below hw
  have hb1 : w1.heap[g]? = some (.cells #[v] 26 (0, 0)) := (hg.block g hW.lt (fun e => h.apart e.symm)).trans hW.blk
  have hs := heap_setCell_row hb1 0 v1
  refine ⟨⟨by rw [hs]; rfl, h.ge, ?_⟩, ?_⟩
  · have e : frCells (l ++ [f]) = frCells l ++ f.cells := by rw [frCells_append, frCells_cons, frCells_nil, List.append_nil]
    rw [e, List.length_append]
    refine hown.kept (row := some g) ⟨rfl, rfl, rfl, by simp [World.setCell], fun k _ hk => Below.heap_setCell _ _ _ _ (fun e => hk (by rw [e]))⟩ ?_
    rcases hat with hat | hat
    · rw [hat]; exact .inr h.apart
    · rw [hat]; refine .inr (fun e => ?_)
      have := h.lt
      have := hw.size
      simp only [Option.some.injEq] at e
      omega
  · refine ⟨hg.os.trans hw.os, hg.tape.trans hw.tape, hg.output.trans hw.output, ?_, fun k hk hkg hkv => ?_⟩
    · have := hw.size
      have := hg.size
      simp [World.setCell]
      omega
    · rw [Below.heap_setCell _ _ _ _ hkg, hg.block k (Nat.lt_of_lt_of_le hk hw.size) hkv, hw.block k hk]

theorem send_calls {B g : Nat} {v : Value} {l : List Fr} {w : World} (x y : Int) (s : ByteArray) (h : NetAt w B g v l) (hB : B ≤ w.heap.size) (h2 : l.length < 1024) :
    Calls Try.prog 6 #[.pointer (some ⟨g, 0, none⟩), .int .i64 x, .int .i64 y, .string s] w fun e w' => e = .returned (.bool true) ∧ Now w w' B g v (l ++ [⟨x, y, s, false⟩]) := by
  obtain ⟨i0, hi0, hz0, hz1, hz2⟩ := info_parts infoFrame
  obtain ⟨A, c, rfl⟩ := h.form
  have hcell := h.cell
  have hfz := h.frozen
  have hlt := h.lt
  have H := Lib.hid h
  clear h
  go_enter Try.func6, Try.ntmps6
  go_wp2_with (at_builtin; refine wpList_append_own_at _ rfl (.tmp 23) (.tmp 28) 24 rfl B 35 i0 (.agg #[.int .i64 0, .int .i64 0, .string ⟨#[]⟩, .bool false]) 4 40 Try.underlying24 hi0 hz0 hz1 hz2 rfl (by decide) (.slice A l.length c) l.length (frCells l) rfl (H.out.own.alloc _) ⟨w.heap.size, 0, none⟩ 1 1 [.int .i64 x, .int .i64 y, .string s, .bool false] rfl rfl ?c1 ?c2 ?c3 ?c4 ?c5 ?next)
  case c1 => exact World.news_of_block (cs := #[.int .i64 x, .int .i64 y, .string s, .bool false]) (t := 35) (fr := (0, 0)) (heap_alloc_new w _)
  case c2 => intro u hu; simp only [List.mem_cons, List.not_mem_nil, or_false] at hu; rcases hu with rfl | rfl | rfl | rfl <;> rfl
  case c3 => simp only [maxLen]; omega
  case c4 => omega
  case c5 => simp; omega
  case next =>
    intro v1 w1 hown hg _ hat
    obtain ⟨g1, cap1, rfl⟩ := own_some hown (by omega)
    have HA := Lib.hid (H.out.appended (f := ⟨x, y, s, false⟩) ((Below.refl _ _).alloc (Nat.le_refl _) _) hB hown hg (hat.imp id fun e => e.trans (by simp)))
    have hc1 := hg.cell (a := ⟨g, 0, none⟩) (v := .slice A l.length c) (by rw [World.cell?_alloc_past _ _ _ hlt]; exact hcell) (fun e => H.out.apart e.symm)
    have hf1 : w1.frozen? ⟨g, 0, none⟩ = false := (hg.frozen_far ⟨g, 0, none⟩ (by simp; omega) (fun e => H.out.apart e.symm)).trans (by rw [World.frozen?_alloc_past _ _ _ hlt]; exact hfz)
    have HRo : RowOf w (.slice A l.length c) (.slice (some ⟨g1, 0, none⟩) (l.length + 1) cap1) := hat.imp id fun e => ⟨_, e, by omega⟩
    replace HRo := Lib.hid HRo
    clear hown hg hat
    go_wp2
    go_ret
    exact ⟨rfl, _, HA.out.1, HA.out.2, HRo.out⟩
end Go.Proofs.Ytmmcigpbajlneaa
