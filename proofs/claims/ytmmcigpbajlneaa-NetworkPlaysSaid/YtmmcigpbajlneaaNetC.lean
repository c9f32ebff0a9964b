/- The methods of a network of frames, 3: Take, Double. -/
import Derived.Test.YtmmcigpbajlneaaNetB
set_option linter.unusedVariables false
set_option linter.unusedSimpArgs false
namespace Go.Proofs.Ytmmcigpbajlneaa
open Go.RowKit
set_option maxRecDepth 100000

theorem take_no (p : Value) (i : Int) (w : World) (hp : ∀ w1, Below w.heap.size w w1 → Calls Try.prog 12 #[p, .int .i64 i] w1 fun e w' => e = .returned (.tuple #[zagg, .bool false]) ∧ Below w1.heap.size w1 w') :
    Calls Try.prog 8 #[p, .int .i64 i] w fun e w' => e = .returned (.tuple #[zagg, .bool false]) ∧ Below w.heap.size w w' := by
  have HP := Lib.hid hp
  clear hp
  unfold zagg at HP
  go_enter Try.func8, Try.ntmps8
  go_wp2_with fail
  refine (HP.out _ ((Below.refl _ _).alloc (Nat.le_refl _) _)).mono ?_
  rintro e w' ⟨rfl, hb⟩
  have hb2 : Below w.heap.size w w' := ((Below.refl _ _).alloc (Nat.le_refl _) _).trans (hb.mono (by simp))
  have hc0 : w'.cell? ⟨w.heap.size, 0, none⟩ = some (.int .i64 0) := (hb.cell (by simp)).trans (by simp)
  have hc1 : w'.cell? ⟨w.heap.size, 1, none⟩ = some (.int .i64 0) := (hb.cell (by simp)).trans (by simp)
  have hc2 : w'.cell? ⟨w.heap.size, 2, none⟩ = some (.string ⟨#[]⟩) := (hb.cell (by simp)).trans (by simp)
  have hc3 : w'.cell? ⟨w.heap.size, 3, none⟩ = some (.bool false) := (hb.cell (by simp)).trans (by simp)
  have hf0 : w'.frozen? ⟨w.heap.size, 0, none⟩ = false := (hb.frozen (by simp)).trans (by simp)
  have hf1 : w'.frozen? ⟨w.heap.size, 1, none⟩ = false := (hb.frozen (by simp)).trans (by simp)
  have hf2 : w'.frozen? ⟨w.heap.size, 2, none⟩ = false := (hb.frozen (by simp)).trans (by simp)
  have hf3 : w'.frozen? ⟨w.heap.size, 3, none⟩ = false := (hb.frozen (by simp)).trans (by simp)
  have hz : w.heap.size < w'.heap.size := by have := hb.size; simp at this; omega
  go_wp2
  refine bodyPost_ret (v := .tuple #[zagg, .bool false]) (by simp [results, Try.results8, zagg, go_sem, hc0, hc1, hc2, hc3, hz]) rfl ⟨rfl, ?_⟩
  exact (((((hb2.setCell (by simp) _).setCell (by simp) _).setCell (by simp) _).setCell (by simp) _)).alloc (by simp; omega) _

theorem take_nil (i : Int) (w : World) :
    Calls Try.prog 8 #[.pointer none, .int .i64 i] w fun e w' => e = .returned (.tuple #[zagg, .bool false]) ∧ Below w.heap.size w w' :=
  take_no _ i w fun w1 _ => look_nil i w1

theorem take_empty {B g : Nat} {v : Value} {w : World} (i : Int) (h : NetAt w B g v []) :
    Calls Try.prog 8 #[.pointer (some ⟨g, 0, none⟩), .int .i64 i] w fun e w' => e = .returned (.tuple #[zagg, .bool false]) ∧ Below w.heap.size w w' :=
  take_no _ i w fun w1 hb => look_empty i (h.below hb)

theorem delete_calls {B b c k n : Nat} {l : List Fr} {w : World} (hn : l.length = n) (h : w.ownsRow B 35 4 (.slice (some ⟨b, 0, none⟩) n c) n (frCells l)) (hk : k < n) :
    Calls Try.prog 15 #[.slice (some ⟨b, 0, none⟩) n c, .int .i64 k, .int .i64 (k + 1)] w fun e w' =>
      e = .returned (.slice (some ⟨b, 0, none⟩) (n - 1) c) ∧ w'.ownsRow B 35 4 (.slice (some ⟨b, 0, none⟩) (n - 1) c) (n - 1) (frCells (l.eraseIdx k)) ∧ w.grownBy w' (some b) := by
  obtain ⟨cur, hb, h1, h2, h3, h4, h5⟩ := own_open h
  have hc : c ≤ 9223372036854775807 := by simp only [maxLen] at h3; omega
  have hml : ((cur.toList.take (n * 4)).drop ((k + 1) * 4)).length = (n - (k + 1)) * 4 := by simp; omega
  refine (delete_walk b n c k cur w hk h2 hc h4 hb ((cur.toList.take (n * 4)).drop ((k + 1) * 4)) rfl (fun u hu => ?_)).mono ?_
  · rw [h5] at hu
    exact frCells_one l u (List.mem_of_mem_drop hu)
  · rintro e w' ⟨rfl, rfl⟩
    have e1 : k + (n - (k + 1)) = n - 1 := by omega
    rw [e1]
    obtain ⟨c1, g1, g2⟩ := heap_setCells b ((cur.toList.take (n * 4)).drop ((k + 1) * 4)) (k * 4) w.drew cur hb (by rw [hml]; omega)
    have hs1 : c1.size = c * 4 := by rw [← Array.length_toList, g2]; simp; omega
    obtain ⟨c2, g3, g4⟩ := heap_setCells b zcells ((n - 1) * 4) _ c1 g1 (by simp [zcells]; omega)
    have hs2 : c2.size = c * 4 := by rw [← Array.length_toList, g4]; simp [zcells]; omega
    refine ⟨rfl, ⟨?_, .inr ⟨b, c, c2, rfl, h1, g3, by omega, h3, hs2, ?_⟩⟩, ?_⟩
    · rw [frCells_length, List.length_eraseIdx, if_pos (by omega), hn]
    · rw [g4, List.append_assoc, List.take_append_of_le_length (by simp; omega), List.take_take, Nat.min_self, g2, List.append_assoc, h5]
      have e2 : (cur.toList.take (k * 4)) = (frCells l).take (k * 4) := by rw [← h5, List.take_take, Nat.min_eq_left (by omega)]
      rw [e2, ← frCells_take, ← frCells_drop, ← List.append_assoc, ← frCells_append, ← List.eraseIdx_eq_take_drop_succ]
      rw [List.take_append_of_le_length (by rw [frCells_length, List.length_eraseIdx, if_pos (by omega)]; omega), List.take_of_length_le (by rw [frCells_length, List.length_eraseIdx, if_pos (by omega)]; omega)]
    · exact grownBy_of_drew (grownBy_trans (grownBy_setCells _ _ _ _) (grownBy_setCells _ _ _ _))

/-- Behind a change of the row, and the store of its new slice into the field. -/
theorem NetAt.restored {W w1 : World} {B g b b' n c c' : Nat} {l m : List Fr} (h : NetAt W B g (.slice (some ⟨b, 0, none⟩) n c) l) (hm : m.length = b') (hown : w1.ownsRow B 35 4 (.slice (some ⟨b, 0, none⟩) b' c') b' (frCells m)) (hg : W.grownBy w1 (some b)) :
    NetAt (w1.setCell ⟨g, 0, none⟩ (.slice (some ⟨b, 0, none⟩) b' c')) B g (.slice (some ⟨b, 0, none⟩) b' c') m ∧ Chg W (w1.setCell ⟨g, 0, none⟩ (.slice (some ⟨b, 0, none⟩) b' c')) g (.slice (some ⟨b, 0, none⟩) n c) := by
  have hap : g ≠ b := fun e => h.apart (by rw [e]; rfl)
  have hb1 : w1.heap[g]? = some (.cells #[.slice (some ⟨b, 0, none⟩) n c] 26 (0, 0)) := (hg.block g h.lt (fun e => hap (by simpa using e))).trans h.blk
  have hs := heap_setCell_row hb1 0 (.slice (some ⟨b, 0, none⟩) b' c')
  subst hm
  refine ⟨⟨by rw [hs]; rfl, h.ge, ?_⟩, ?_⟩
  · exact hown.kept (row := some g) ⟨rfl, rfl, rfl, by simp [World.setCell], fun k _ hk => Below.heap_setCell _ _ _ _ (fun e => hk (by rw [e]))⟩ (.inr (fun e => hap (by simpa [Value.ownBlock] using e.symm)))
  · refine ⟨hg.os, hg.tape, hg.output, by have := hg.size; simp [World.setCell]; omega, fun k hk hkg hkv => ?_⟩
    rw [Below.heap_setCell _ _ _ _ hkg, hg.block k hk hkv]

theorem round_place (i : Int) (n : Nat) (w : World) (h1 : 1 ≤ n) (h2 : n ≤ 100000) :
    Calls Try.prog 14 #[.int .i64 i, .int .i64 n] w fun e w' => e = .returned (.int .i64 (place i n : Nat)) ∧ w' = w := by
  have e : ((place i n : Nat) : Int) = i % (n : Int) := by
    have := Int.emod_nonneg i (show (n : Int) ≠ 0 by omega)
    unfold place
    omega
  rw [e]
  exact round_calls i n w (by omega) (by omega)

set_option maxHeartbeats 1000000 in
theorem take_some {B g : Nat} {v : Value} {l : List Fr} {w : World} (i : Int) (f : Fr) (h : NetAt w B g v l) (h2 : l.length ≤ 1024) (hf : l[place i l.length]? = some f) :
    Calls Try.prog 8 #[.pointer (some ⟨g, 0, none⟩), .int .i64 i] w fun e w' =>
      e = .returned (.tuple #[f.agg, .bool true]) ∧ Now w w' B g v (l.eraseIdx (place i l.length)) := by
  have hk : place i l.length < l.length := (List.getElem?_eq_some_iff.1 hf).1
  have hn : l ≠ [] := by rintro rfl; simp at hk
  obtain ⟨b, c, rfl⟩ := h.some_form hn
  have hL := Lib.hid (fun (w1 : World) (hb : Below w.heap.size w w1) => look_some i f (h.below hb) h2 hf)
  have hR := Lib.hid (fun w1 : World => round_place i l.length w1 (by omega) (by omega))
  have hD := Lib.hid (fun (w1 : World) (hb : Below w.heap.size w w1) => delete_calls rfl (h.below hb).own hk)
  have H := Lib.hid h
  have hlt := h.lt
  have hk1 : place i l.length < 1024 := by omega
  have hkl := Lib.hid hk
  clear hn h hf hk
  unfold Fr.agg at hL ⊢
  generalize hkk : place i l.length = k at *
  clear hkk
  go_enter Try.func8, Try.ntmps8
  go_wp2_with fail
  refine (hL.out _ ((Below.refl _ _).alloc (Nat.le_refl _) _)).mono ?_
  rintro e w' ⟨rfl, hb⟩
  have hb2 : Below w.heap.size w w' := ((Below.refl _ _).alloc (Nat.le_refl _) _).trans (hb.mono (by simp))
  have hcell := (H.out.below hb2).cell
  have hlt2 := (H.out.below hb2).lt
  have hblk0 := Lib.hid ((hb.block w.heap.size (by simp)).trans (heap_alloc_new w _))
  have hz : w.heap.size < w'.heap.size := by have := hb.size; simp at this; omega
  go_wp2_with fail
  refine (hR.out _).mono ?_
  rintro e w1 ⟨rfl, rfl⟩
  go_wp2_with fail
  have hbW := Lib.hid (hb2.alloc (Nat.le_of_lt hz) (.cells #[.int .i64 f.a, .int .i64 f.b, .string f.s, .bool f.t] 35))
  refine (hD.out _ hbW.out).mono ?_
  rintro e w1 ⟨rfl, hown, hgr⟩
  have HW := H.out.below hbW.out
  have hbl := (H.out.own.lt b rfl).2
  have hR1 := Lib.hid (HW.restored (m := l.eraseIdx k) (by rw [List.length_eraseIdx, if_pos hkl.out]) hown hgr)
  have hgb : (some g : Option Nat) ≠ some b := fun e => HW.apart e.symm
  have hc1 := hgr.cell (a := ⟨g, 0, none⟩) HW.cell hgb
  have hf1 : w1.frozen? ⟨g, 0, none⟩ = false := (hgr.frozen_far ⟨g, 0, none⟩ HW.lt hgb).trans HW.frozen
  have hsz := hgr.size
  simp only [World.size_alloc] at hsz
  have kA : w1.heap[w.heap.size]? = some (.cells #[.int .i64 0, .int .i64 0, .string ⟨#[]⟩, .bool false] 35 (0, 0)) := (hgr.block _ (by simp; omega) (by simp; omega)).trans ((heap_alloc_old _ _ hz).trans hblk0.out)
  have kF : w1.heap[w'.heap.size]? = some (.cells #[.int .i64 f.a, .int .i64 f.b, .string f.s, .bool f.t] 35 (0, 0)) := (hgr.block _ (by simp) (by simp; omega)).trans (heap_alloc_new _ _)
  have a0 : w1.cell? ⟨w.heap.size, 0, none⟩ = some (.int .i64 0) := cells_cell kA 0
  have a1 : w1.cell? ⟨w.heap.size, 1, none⟩ = some (.int .i64 0) := cells_cell kA 1
  have a2 : w1.cell? ⟨w.heap.size, 2, none⟩ = some (.string ⟨#[]⟩) := cells_cell kA 2
  have a3 : w1.cell? ⟨w.heap.size, 3, none⟩ = some (.bool false) := cells_cell kA 3
  have z0 := cells_frozen kA 0
  have z1 := cells_frozen kA 1
  have z2 := cells_frozen kA 2
  have z3 := cells_frozen kA 3
  have b0 : w1.cell? ⟨w'.heap.size, 0, none⟩ = some (.int .i64 f.a) := cells_cell kF 0
  have b1 : w1.cell? ⟨w'.heap.size, 1, none⟩ = some (.int .i64 f.b) := cells_cell kF 1
  have b2 : w1.cell? ⟨w'.heap.size, 2, none⟩ = some (.string f.s) := cells_cell kF 2
  have b3 : w1.cell? ⟨w'.heap.size, 3, none⟩ = some (.bool f.t) := cells_cell kF 3
  clear hown hgr HW kA kF
  go_wp2
  refine bodyPost_ret (v := .tuple #[.agg #[.int .i64 f.a, .int .i64 f.b, .string f.s, .bool f.t], .bool true]) (by simp [results, Try.results8, go_sem, a0, a1, a2, a3]) rfl ⟨rfl, .slice (some ⟨b, 0, none⟩) (l.length - 1) c, ?_, ?_, .inl rfl⟩
  · have e1 : ∀ j, (⟨w.heap.size, j, none⟩ : Addr).block ≠ g := fun j => by simp; omega
    have e2 : ∀ j, (some (⟨w.heap.size, j, none⟩ : Addr).block) ≠ (Value.slice (some ⟨b, 0, none⟩) (l.length - 1) c).ownBlock := fun j => by simp [Value.ownBlock]; omega
    exact (((hR1.out.1.setFar (e1 0) (e2 0) _).setFar (e1 1) (e2 1) _).setFar (e1 2) (e2 2) _).setFar (e1 3) (e2 3) _
  · exact (((hR1.out.2.after hbW.out).setNew (by simp) _).setNew (by simp) _).setNew (by simp) _ |>.setNew (by simp) _
end Go.Proofs.Ytmmcigpbajlneaa
