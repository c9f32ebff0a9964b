/- The methods of a network of frames, 5: Spoil. -/
import Derived.Test.YtmmcigpbajlneaaNetD
import Derived.Test.YtmmcigpbajlneaaSpoil
import Derived.Lib.ConvBytes
import Derived.Laws.BytesArg
set_option linter.unusedVariables false
set_option linter.unusedSimpArgs false
namespace Go.Proofs.Ytmmcigpbajlneaa
open Go.RowKit
set_option maxRecDepth 100000

theorem spoil_no (p : Value) (i j : Int) (y : Int) (w : World) (hp : Calls Try.prog 12 #[p, .int .i64 i] w fun e w' => e = .returned (.tuple #[zagg, .bool false]) ∧ Below w.heap.size w w') :
    Calls Try.prog 11 #[p, .int .i64 i, .int .i64 j, .int .u32 y] w fun e w' => e = .returned (.bool false) ∧ Below w.heap.size w w' := by
  have HP := Lib.hid hp
  clear hp
  unfold zagg at HP
  go_enter Try.func11, Try.ntmps11
  go_wp2_with fail
  refine HP.out.mono ?_
  rintro e w' ⟨rfl, hb⟩
  go_wp2
  go_ret
  exact ⟨rfl, hb.alloc hb.size _⟩

theorem spoil_nil (i j y : Int) (w : World) :
    Calls Try.prog 11 #[.pointer none, .int .i64 i, .int .i64 j, .int .u32 y] w fun e w' => e = .returned (.bool false) ∧ Below w.heap.size w w' :=
  spoil_no _ i j y w (look_nil i w)
theorem spoil_empty {B g : Nat} {v : Value} {w : World} (i j y : Int) (h : NetAt w B g v []) :
    Calls Try.prog 11 #[.pointer (some ⟨g, 0, none⟩), .int .i64 i, .int .i64 j, .int .u32 y] w fun e w' => e = .returned (.bool false) ∧ Below w.heap.size w w' :=
  spoil_no _ i j y w (look_empty i h)

theorem spoil_void {B g : Nat} {v : Value} {l : List Fr} {w : World} (i j y : Int) (f : Fr) (h : NetAt w B g v l) (h2 : l.length ≤ 1024) (hf : l[place i l.length]? = some f) (hs : f.s = ⟨#[]⟩) :
    Calls Try.prog 11 #[.pointer (some ⟨g, 0, none⟩), .int .i64 i, .int .i64 j, .int .u32 y] w fun e w' => e = .returned (.bool false) ∧ Below w.heap.size w w' := by
  have hL := Lib.hid (look_some i f h h2 hf)
  clear h hf
  unfold Fr.agg at hL
  rw [hs] at hL
  go_enter Try.func11, Try.ntmps11
  go_wp2_with fail
  refine hL.out.mono ?_
  rintro e w' ⟨rfl, hb⟩
  go_wp2
  go_ret
  exact ⟨rfl, hb.alloc hb.size _⟩

theorem spoil_twice {B g : Nat} {v : Value} {l : List Fr} {w : World} (i j y : Int) (f : Fr) (h : NetAt w B g v l) (h2 : l.length ≤ 1024) (hf : l[place i l.length]? = some f) (hs : f.s.size ≠ 0) (ht : f.t = true) :
    Calls Try.prog 11 #[.pointer (some ⟨g, 0, none⟩), .int .i64 i, .int .i64 j, .int .u32 y] w fun e w' => e = .returned (.bool false) ∧ Below w.heap.size w w' := by
  have hL := Lib.hid (look_some i f h h2 hf)
  clear h hf
  unfold Fr.agg at hL
  rw [ht] at hL
  have hs1 := isEmpty_false _ hs
  go_enter Try.func11, Try.ntmps11
  go_wp2_with fail
  refine hL.out.mono ?_
  rintro e w' ⟨rfl, hb⟩
  go_wp2
  go_ret
  exact ⟨rfl, hb.alloc hb.size _⟩

theorem frCells_set4 (l : List Fr) (k : Nat) (f : Fr) (hk : k < l.length) :
    ((((frCells l).set (k * 4) (.int .i64 f.a)).set (k * 4 + 1) (.int .i64 f.b)).set (k * 4 + 2) (.string f.s)).set (k * 4 + 3) (.bool f.t) = frCells (l.set k f) := by
  induction l generalizing k with
  | nil => simp at hk
  | cons x l ih =>
    cases k with
    | zero => simp [frCells_cons, Fr.cells]
    | succ k =>
      have := ih k (by simpa using hk)
      rw [List.set_cons_succ, frCells_cons, frCells_cons, ← this, show (k + 1) * 4 = k * 4 + 4 by omega]
      simp [Fr.cells]

theorem NetAt.put {W : World} {B g b c : Nat} {l : List Fr} (h : NetAt W B g (.slice (some ⟨b, 0, none⟩) l.length c) l) (k : Nat) (hk : k < l.length) (f : Fr) :
    NetAt ((((W.setCell ⟨b, k * 4, none⟩ (.int .i64 f.a)).setCell ⟨b, k * 4 + 1, none⟩ (.int .i64 f.b)).setCell ⟨b, k * 4 + 2, none⟩ (.string f.s)).setCell ⟨b, k * 4 + 3, none⟩ (.bool f.t)) B g (.slice (some ⟨b, 0, none⟩) l.length c) (l.set k f) ∧
    Chg W ((((W.setCell ⟨b, k * 4, none⟩ (.int .i64 f.a)).setCell ⟨b, k * 4 + 1, none⟩ (.int .i64 f.b)).setCell ⟨b, k * 4 + 2, none⟩ (.string f.s)).setCell ⟨b, k * 4 + 3, none⟩ (.bool f.t)) g (.slice (some ⟨b, 0, none⟩) l.length c) := by
  have hap : b ≠ g := fun e => h.apart (by rw [e]; rfl)
  have o1 := h.own.stored (k * 4) (.int .i64 f.a)
  have o2 := o1.1.stored (k * 4 + 1) (.int .i64 f.b)
  have o3 := o2.1.stored (k * 4 + 2) (.string f.s)
  have o4 := o3.1.stored (k * 4 + 3) (.bool f.t)
  replace o4 := o4.1
  rw [frCells_set4 l k f hk] at o4
  have hg := grownBy_setCell (grownBy_setCell (grownBy_setCell (grownBy_setCell (grownBy_refl W (some b)) (k * 4) (.int .i64 f.a)) (k * 4 + 1) (.int .i64 f.b)) (k * 4 + 2) (.string f.s)) (k * 4 + 3) (.bool f.t)
  refine ⟨⟨(hg.block g h.lt (by simpa using hap.symm)).trans h.blk, h.ge, by rw [List.length_set]; exact o4⟩, ⟨hg.os, hg.tape, hg.output, hg.size, fun k hk _ hne => hg.block k hk hne⟩⟩

/-- The bytes of a frame, spoilt at a place. -/
def spoilt (s : ByteArray) (at_ y : Int) : ByteArray := strOfNums (spoilTo (nums8 s) (place at_ s.size) y (place at_ s.size + 4))

/-- What Spoil leaves: the bytes are as they were, and nothing has turned; or the frame has been spoilt. -/
def SpoilPost (w : World) (B g : Nat) (v : Value) (l : List Fr) (k : Nat) (f : Fr) (s : ByteArray) (e : Ending) (w' : World) : Prop :=
  if (s.toList == f.s.toList) = true then e = .returned (.bool false) ∧ Below w.heap.size w w' else e = .returned (.bool true) ∧ Now w w' B g v (l.set k ⟨f.a, f.b, s, true⟩)

set_option maxHeartbeats 2000000 in
theorem spoil_calls {B g : Nat} {v : Value} {l : List Fr} {w : World} (i j y : Int) (f : Fr) (h : NetAt w B g v l) (h2 : l.length ≤ 1024) (hf : l[place i l.length]? = some f) (hs : f.s.size ≠ 0) (ht : f.t = false)
    (hy0 : 0 ≤ y) (hy1 : y ≤ 4294967295) (hsz : f.s.size ≤ 100000) :
    Calls Try.prog 11 #[.pointer (some ⟨g, 0, none⟩), .int .i64 i, .int .i64 j, .int .u32 y] w (SpoilPost w B g v l (place i l.length) f (spoilt f.s j y)) := by
  have hk : place i l.length < l.length := (List.getElem?_eq_some_iff.1 hf).1
  have hn : l ≠ [] := by rintro rfl; simp at hk
  obtain ⟨b, c, rfl⟩ := h.some_form hn
  have hL := Lib.hid (look_some i f h h2 hf)
  have H := Lib.hid h
  have hR := Lib.hid (fun w1 : World => round_place j f.s.size w1 (by omega) hsz)
  have hRi := Lib.hid (fun w1 : World => round_place i l.length w1 (by omega) (by omega))
  have kc := fun wx => Lib.run_convert_string_bytes (P := Try.prog) wx 9 47 5 f.s Try.underlying9 Try.underlying47 Try.underlying5
  have hf2 := Lib.hid hf
  clear h hf hn
  unfold Fr.agg at hL
  rw [ht] at hL
  have hs1 := isEmpty_false _ hs
  clear ht
  generalize hkk : place i l.length = kk at *
  clear hkk
  have hbl := (H.out.own.lt b rfl).2
  have hspo : spoilt f.s j y = strOfNums (spoilTo (nums8 f.s) (place j f.s.size) y (place j f.s.size + 4)) := rfl
  generalize hss : spoilt f.s j y = ss at *
  have HS := Lib.hid hspo
  clear hspo hss
  go_enter Try.func11, Try.ntmps11
  go_wp2_with fail
  refine hL.out.mono ?_
  rintro e w' ⟨rfl, hb⟩
  go_wp2_with fail
  clear kc
  have hb8 := Lib.hid (bytesAt_new (w'.alloc (.cells #[.int .i64 f.a, .int .i64 f.b, .string f.s, .bool false] 35)) 5 f.s)
  have hbW := Lib.hid (below_bytesWorld (w'.alloc (.cells #[.int .i64 f.a, .int .i64 f.b, .string f.s, .bool false] 35)) 5 f.s)
  rw [World.size_alloc] at hb8 hbW
  generalize grownCap _ _ _ _ = cap
  generalize Lib.bytesWorld _ _ _ = w2 at *
  refine (hR.out _).mono ?_
  rintro e w1 ⟨rfl, rfl⟩
  go_wp2_with fail
  have hp := place_lt j (show 0 < f.s.size by omega)
  generalize place j f.s.size = p at *
  have hl8 := nums8_length f.s
  unfold nums8 at hl8 HS
  generalize (f.s.data.toList.map fun c => (c.toNat : Int)) = xs at *
  generalize hnn : f.s.size = n at *
  have HN := Lib.hid hnn
  have HX := Lib.hid hl8
  clear hnn hl8
  go_loopw [3, 12] (fun yv kv wr => ∃ k : Nat, p ≤ k ∧ k ≤ p + 4 ∧ k ≤ n ∧ kv = .int .i64 k ∧ yv = .int .u32 (y / 256 ^ (k - p)) ∧ BytesAt wr (w'.heap.size + 1) 5 (spoilTo xs p y k) ∧ w1.grownBy wr (some (w'.heap.size + 1)))
    (fun _ kv _ => 100010 - (intOf kv).toNat)
  case atStart => exact ⟨p, by omega, by omega, by omega, rfl, by simp, by rw [spoilTo_start]; exact hb8.out, grownBy_refl _ _⟩
  case round =>
    obtain ⟨k, hk1, hk2, hk3, rfl, rfl, hby, hgr⟩ := hrel
    by_cases hlt : k < p + 4 ∧ k < n
    · obtain ⟨x, hx⟩ : ∃ x, xs[k]? = some x := ⟨_, List.getElem?_eq_getElem (by rw [HX.out]; omega)⟩
      have hcell := hby.cell k x (spoilTo_at xs p y k x hx)
      have hfz := hby.frozen k (by rw [spoilTo_length, HX.out]; omega)
      obtain ⟨l1, l2⟩ := hlt
      obtain ⟨hd0, hd1⟩ := shr_bounds y (k - p) hy0 hy1
      generalize hyy : y / 256 ^ (k - p) = yy at *
      have HY := Lib.hid hyy
      have HB := Lib.hid hby
      have HG := Lib.hid hgr
      clear hby hgr hyy
      have HXX := Lib.hid hx
      clear hx
      go_wp2
      go_roundw
      case rel =>
        refine ⟨k + 1, by omega, by omega, by omega, by go_num, ?_, ?_, grownBy_setCell HG.out _ _⟩
        · rw [← HY.out, shr_succ, show k - p + 1 = k + 1 - p by omega]
        · rw [← spoilTo_succ xs p y k x hk1 HXX.out]
          have := HB.out.set k (by rw [spoilTo_length, HX.out]; omega) (bits .xor .u8 x (yy % 256))
          rw [← HY.out] at this ⊢
          exact this
      case measure => simp [intOf]; omega
    · have hkk : k = p + 4 ∨ xs.length ≤ k ∧ k ≤ p + 4 := by rw [HX.out]; omega
      rw [spoilTo_end xs p y k hkk] at hby
      have kd0 : ∀ W : World, BytesAt W (w'.heap.size + 1) 5 (spoilTo xs p y (p + 4)) → Sem.run Try.prog (convert 47 9 (.slice (some ⟨w'.heap.size + 1, 0, none⟩) n cap)) W = .ok (.string ss) W := by
        intro W hW
        rw [HS.out]
        refine run_convert_bytes_arg (P := Try.prog) W 47 5 Try.underlying47 Try.underlying5 (w'.heap.size + 1) 0 n cap _ (by rw [spoilTo_length, HX.out]) (fun q hq => ?_) 9 Try.underlying9
        rw [Nat.zero_add]
        refine hW.cell q _ ?_
        rw [List.getD_eq_getElem?_getD, List.getElem?_eq_getElem (by rw [spoilTo_length, HX.out]; omega)]
        rfl
      have kd := kd0 wr hby
      have kd2 := kd0 wr.drew (hby.of_block rfl)
      have hz := hb.size
      have hbF : w1.heap[w'.heap.size]? = _ := (hbW.out.block w'.heap.size (by omega)).trans (heap_alloc_new _ _)
      have hbF := (hgr.block w'.heap.size (by have := hbW.out.size; simp at this; omega) (by simp)).trans hbF
      have c0 : wr.cell? ⟨w'.heap.size, 0, none⟩ = some (.int .i64 f.a) := cells_cell hbF 0
      have c1 : wr.cell? ⟨w'.heap.size, 1, none⟩ = some (.int .i64 f.b) := cells_cell hbF 1
      have c2 : wr.cell? ⟨w'.heap.size, 2, none⟩ = some (.string f.s) := cells_cell hbF 2
      have hbR : Below w.heap.size w wr := by
        refine (((hb.alloc hb.size _).trans (hbW.out.mono (by omega))).grown hgr ?_ ?_)
        · have := hbW.out.size; simp at this; omega
        · intro k hk; simp at hk; omega
      have HR := H.out.below hbR
      have hcell := HR.cell
      obtain ⟨g0, g1, g2, g3⟩ := frame_cells HR kk f hf2.out
      have z0 := HR.own.frozenAt (kk * 4)
      have z1 := HR.own.frozenAt (kk * 4 + 1)
      have z2 := HR.own.frozenAt (kk * 4 + 2)
      have z3 := HR.own.frozenAt (kk * 4 + 3)
      have HRH := Lib.hid HR
      have HBR := Lib.hid hbR
      clear hby hgr hbF hbR HR hb kd0
      cases heb : (ss.toList == f.s.toList)
      · go_wp2_with fail
        all_goals
          refine wp_tail 18 (by kernel_rfl) (by kernel_rfl) ?_
          simp only [List.take_succ_cons, List.take_zero, List.drop_succ_cons, List.drop_zero]
          repeat still_step
          still_call (hRi.out _)
          repeat still_step
          refine wpStill_nil ?_
          go_wp2
          go_ret
          unfold SpoilPost
          rw [if_neg (by rw [heb]; exact Bool.false_ne_true)]
          obtain ⟨P1, P2⟩ := HRH.out.put kk hk ⟨f.a, f.b, ss, true⟩
          exact ⟨rfl, _, P1.drew, (P2.after HBR.out).drew, .inl rfl⟩
      · go_wp2
        all_goals
          go_ret
          unfold SpoilPost
          rw [if_pos heb]
          exact ⟨rfl, HBR.out⟩
end Go.Proofs.Ytmmcigpbajlneaa
