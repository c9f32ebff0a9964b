/- The methods of a network of frames, 4: Double. -/
import Derived.Test.YtmmcigpbajlneaaNetC
set_option linter.unusedVariables false
set_option linter.unusedSimpArgs false
namespace Go.Proofs.Ytmmcigpbajlneaa
open Go.RowKit
set_option maxRecDepth 100000

theorem double_no (p : Value) (i : Int) (w : World) (hp : ∀ w1, Below w.heap.size w w1 → Calls Try.prog 12 #[p, .int .i64 i] w1 fun e w' => e = .returned (.tuple #[zagg, .bool false]) ∧ Below w1.heap.size w1 w') :
    Calls Try.prog 9 #[p, .int .i64 i] w fun e w' => e = .returned (.bool false) ∧ Below w.heap.size w w' := by
  have HP := Lib.hid hp
  clear hp
  unfold zagg at HP
  go_enter Try.func9, Try.ntmps9
  go_wp2_with fail
  refine (HP.out _ (Below.refl _ _)).mono ?_
  rintro e w' ⟨rfl, hb⟩
  go_wp2
  go_ret
  exact ⟨rfl, hb.alloc hb.size _⟩

theorem double_nil (i : Int) (w : World) :
    Calls Try.prog 9 #[.pointer none, .int .i64 i] w fun e w' => e = .returned (.bool false) ∧ Below w.heap.size w w' :=
  double_no _ i w fun w1 _ => look_nil i w1
theorem double_empty {B g : Nat} {v : Value} {w : World} (i : Int) (h : NetAt w B g v []) :
    Calls Try.prog 9 #[.pointer (some ⟨g, 0, none⟩), .int .i64 i] w fun e w' => e = .returned (.bool false) ∧ Below w.heap.size w w' :=
  double_no _ i w fun w1 hb => look_empty i (h.below hb)

theorem double_full {B g : Nat} {v : Value} {l : List Fr} {w : World} (i : Int) (f : Fr) (h : NetAt w B g v l) (h2 : l.length = 1024) (hf : l[place i l.length]? = some f) :
    Calls Try.prog 9 #[.pointer (some ⟨g, 0, none⟩), .int .i64 i] w fun e w' => e = .returned (.bool false) ∧ Below w.heap.size w w' := by
  have hL := Lib.hid (look_some i f h (by omega) hf)
  have H := Lib.hid h
  obtain ⟨A, c, rfl⟩ := h.form
  rw [h2] at H
  clear h h2 hf
  unfold Fr.agg at hL
  go_enter Try.func9, Try.ntmps9
  go_wp2_with fail
  refine hL.out.mono ?_
  rintro e w' ⟨rfl, hb⟩
  have hcell := (H.out.below hb).cell
  have hlt2 := (H.out.below hb).lt
  go_wp2
  go_ret
  exact ⟨rfl, hb.alloc hb.size _⟩

set_option maxHeartbeats 1000000 in
theorem double_calls {B g : Nat} {v : Value} {l : List Fr} {w : World} (i : Int) (f : Fr) (h : NetAt w B g v l) (hB : B ≤ w.heap.size) (h2 : l.length < 1024) (hf : l[place i l.length]? = some f) :
    Calls Try.prog 9 #[.pointer (some ⟨g, 0, none⟩), .int .i64 i] w fun e w' => e = .returned (.bool true) ∧ Now w w' B g v (l ++ [f]) := by
  obtain ⟨i0, hi0, hz0, hz1, hz2⟩ := info_parts infoFrame
  have hL := Lib.hid (look_some i f h (by omega) hf)
  have H := Lib.hid h
  obtain ⟨A, c, rfl⟩ := h.form
  clear h hf
  unfold Fr.agg at hL
  go_enter Try.func9, Try.ntmps9
  go_wp2_with fail
  refine hL.out.mono ?_
  rintro e w' ⟨rfl, hb⟩
  have hcell := (H.out.below hb).cell
  have hlt2 := (H.out.below hb).lt
  have hfz := (H.out.below hb).frozen
  go_wp2_with fail
  have hbW := Lib.hid ((hb.alloc hb.size (.cells #[.int .i64 f.a, .int .i64 f.b, .string f.s, .bool f.t] 35)).alloc (by have := hb.size; simp; omega) (.cells #[.int .i64 f.a, .int .i64 f.b, .string f.s, .bool f.t] 35)).drew
  have s1 := Lib.hid (H.out.below hbW.out).own
  have s2 := Lib.hid (World.news_of_block (cs := #[.int .i64 f.a, .int .i64 f.b, .string f.s, .bool f.t]) (t := 35) (fr := (0, 0)) (show (((w'.alloc (.cells #[.int .i64 f.a, .int .i64 f.b, .string f.s, .bool f.t] 35)).alloc (.cells #[.int .i64 f.a, .int .i64 f.b, .string f.s, .bool f.t] 35)).drew).heap[w'.heap.size + 1]? = _ from by rw [heap_drew]; simpa using heap_alloc_new (w'.alloc (.cells #[.int .i64 f.a, .int .i64 f.b, .string f.s, .bool f.t] 35)) _))
  have s3 : Hid (∀ u ∈ [Value.int .i64 f.a, .int .i64 f.b, .string f.s, .bool f.t], u.oneCell' = true) := by
    intro u hu; simp only [List.mem_cons, List.not_mem_nil, or_false] at hu; rcases hu with rfl | rfl | rfl | rfl <;> rfl
  have s4 : Hid (l.length + 1 ≤ maxLen) := by show _ ≤ _; simp only [maxLen]; omega
  have s5 : Hid ((l.length + 1) * 40 ≤ 140737488355328) := by show _ ≤ _; omega
  have s6 : Hid (B ≤ (((w'.alloc (.cells #[.int .i64 f.a, .int .i64 f.b, .string f.s, .bool f.t] 35)).alloc (.cells #[.int .i64 f.a, .int .i64 f.b, .string f.s, .bool f.t] 35)).drew).heap.size) := by
    have := hb.size; show _ ≤ _; simp; omega
  have s7 : Hid ((((w'.alloc (.cells #[.int .i64 f.a, .int .i64 f.b, .string f.s, .bool f.t] 35)).alloc (.cells #[.int .i64 f.a, .int .i64 f.b, .string f.s, .bool f.t] 35)).drew).heap.size = w'.heap.size + 2) := by show _ = _; simp
  have s8 : Hid (∀ w1 : World, (((w'.alloc (.cells #[.int .i64 f.a, .int .i64 f.b, .string f.s, .bool f.t] 35)).alloc (.cells #[.int .i64 f.a, .int .i64 f.b, .string f.s, .bool f.t] 35)).drew).grownBy w1 (Value.slice A l.length c).ownBlock → w1.frozen? ⟨g, 0, none⟩ = false) := fun w1 hg =>
    (hg.frozen_far ⟨g, 0, none⟩ (H.out.below hbW.out).lt (fun e => (H.out.apart e.symm))).trans (H.out.below hbW.out).frozen
  have s9 : Hid (∀ w1 : World, (((w'.alloc (.cells #[.int .i64 f.a, .int .i64 f.b, .string f.s, .bool f.t] 35)).alloc (.cells #[.int .i64 f.a, .int .i64 f.b, .string f.s, .bool f.t] 35)).drew).grownBy w1 (Value.slice A l.length c).ownBlock → w1.cell? ⟨g, 0, none⟩ = some (.slice A l.length c)) := fun w1 hg =>
    hg.cell (a := ⟨g, 0, none⟩) (H.out.below hbW.out).cell (fun e => (H.out.apart e.symm))
  have s10 : Hid (∀ (g1 c1 : Nat) (w1 : World), w1.ownsRow B 35 4 (.slice (some ⟨g1, 0, none⟩) (l.length + 1) c1) (l.length + 1) (frCells l ++ [.int .i64 f.a, .int .i64 f.b, .string f.s, .bool f.t]) → (((w'.alloc (.cells #[.int .i64 f.a, .int .i64 f.b, .string f.s, .bool f.t] 35)).alloc (.cells #[.int .i64 f.a, .int .i64 f.b, .string f.s, .bool f.t] 35)).drew).grownBy w1 (Value.slice A l.length c).ownBlock →
      ((Value.slice A l.length c).ownBlock = some g1 ∨ g1 = w'.heap.size + 2) → Hid (NetAt (w1.setCell ⟨g, 0, none⟩ (.slice (some ⟨g1, 0, none⟩) (l.length + 1) c1)) B g (.slice (some ⟨g1, 0, none⟩) (l.length + 1) c1) (l ++ [f]) ∧ Chg w (w1.setCell ⟨g, 0, none⟩ (.slice (some ⟨g1, 0, none⟩) (l.length + 1) c1)) g (.slice A l.length c) ∧ RowOf w (.slice A l.length c) (.slice (some ⟨g1, 0, none⟩) (l.length + 1) c1))) := fun g1 c1 w1 hown hg hat =>
    have hA := H.out.appended (f := f) hbW.out hB hown hg (hat.imp (fun e => by rw [e]; rfl) (fun e => by rw [e]; simp [Value.ownBlock]))
    ⟨hA.1, hA.2, hat.imp (fun e => by rw [e]; rfl) (fun e => ⟨g1, rfl, by have := hb.size; omega⟩)⟩
  go_region_law (refine step_append_lies _ rfl (.tmp 27) (.tmp 29) 24 rfl B 35 i0 (.agg #[.int .i64 0, .int .i64 0, .string ⟨#[]⟩, .bool false]) 4 40 Try.underlying24 hi0 hz0 hz1 hz2 rfl (by decide) (.slice A l.length c) l.length (frCells l) (by simp [Act.eval, Act.put]) s1.out ⟨w'.heap.size + 1, 0, none⟩ 1 1 [.int .i64 f.a, .int .i64 f.b, .string f.s, .bool f.t] (by simp [Act.eval, Act.put]) rfl s2.out s3.out (by decide) s4.out s5.out s6.out (w'.heap.size + 2) s7.out ?_; intro g1 c1 w1 hown hg hat hlt1; have hf1 := s8.out w1 hg; have hc1 := s9.out w1 hg; have HA := s10.out g1 c1 w1 hown hg hat; clear hown hg hat hlt1)
  all_goals (go_wp2; go_ret; exact ⟨rfl, _, HA.out.1, HA.out.2.1, HA.out.2.2⟩)
end Go.Proofs.Ytmmcigpbajlneaa
