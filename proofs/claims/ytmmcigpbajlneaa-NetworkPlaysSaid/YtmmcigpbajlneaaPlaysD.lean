/- NetworkPlays: rounds of the main loop. -/
import Derived.Test.YtmmcigpbajlneaaPlaysC
set_option linter.unusedVariables false
set_option linter.unusedSimpArgs false
namespace Go.Proofs.Ytmmcigpbajlneaa
open Go.RowKit
set_option maxRecDepth 1000000

theorem infoRef : (Try.prog.info? 30).map (fun i => (i.zero, i.size, i.bytes)) = some (some (.agg #[.int .i64 0, .int .i64 0, .string ⟨#[]⟩, .bool false]), 4, 40) := by kernel_rfl

theorem act_cells {w : World} {A : Option Addr} {n : Nat} {f : Nat → Actv} (h : ActsAt w A n f) (i : Nat) (hi : i < n) : ∃ a, A = some a ∧ (a.add (i * 5)).block < w.heap.size ∧ w.cell? (a.add (i * 5)) = some (.int .i64 (f i).what) ∧
    w.cell? ⟨(a.add (i * 5)).block, (a.add (i * 5)).off + 1, none⟩ = some (.int .i64 (f i).i) ∧ w.cell? ⟨(a.add (i * 5)).block, (a.add (i * 5)).off + 2, none⟩ = some (.int .i64 (f i).pos) ∧
    w.cell? ⟨(a.add (i * 5)).block, (a.add (i * 5)).off + 3, none⟩ = some (.int .u32 (f i).by_) ∧ w.cell? ⟨(a.add (i * 5)).block, (a.add (i * 5)).off + 4, none⟩ = some (.string (f i).text) := by
  obtain ⟨a, h1, h2, h3, h4, h5, h6, h7, _⟩ := h.at_ i hi
  rw [add_field _ _ _ (by decide)] at h4 h5 h6 h7
  exact ⟨a, h1, by rw [add_block']; exact h2, h3, h4, h5, h6, h7⟩

theorem row_cells {W : World} {B E b c n : Nat} {l : List Fr} (h : W.ownsRow B E 4 (.slice (some ⟨b, 0, none⟩) n c) n (frCells l)) (k : Nat) (f : Fr) (hf : l[k]? = some f) :
    W.cell? ⟨b, k * 4, none⟩ = some (.int .i64 f.a) ∧ W.cell? ⟨b, k * 4 + 1, none⟩ = some (.int .i64 f.b) ∧ W.cell? ⟨b, k * 4 + 2, none⟩ = some (.string f.s) ∧ W.cell? ⟨b, k * 4 + 3, none⟩ = some (.bool f.t) := by
  obtain ⟨cur, hg, _, _, _, _, ht⟩ := own_open h
  obtain ⟨hk, rfl⟩ := List.getElem?_eq_some_iff.1 hf
  have key : ∀ j, j < 4 → W.cell? ⟨b, k * 4 + j, none⟩ = (l[k]).cells[j]? := by
    intro j hj
    rw [cells_cell hg, ← Array.getElem?_toList, ← frCells_at l k hk j hj, ← ht, List.getElem?_take, if_pos]
    have hl : (frCells l).length = l.length * 4 := frCells_length l
    have h1 := h.1
    omega
  exact ⟨key 0 (by decide), key 1 (by decide), key 2 (by decide), key 3 (by decide)⟩

set_option maxHeartbeats 4000000 in
theorem look_round_empty {A : Option Addr} {n c g : Nat} {f : Nat → Actv} {w1 W : World} {u v : Value} {i : Nat} {fr : Nat → Value} {Q0 : Exit → Act → World → Prop}
    (h : MainRel A n f g w1 u v i [] W) (hin : i < n) (h40 : i < 40) (hop : ((f i).what.tmod 6 + 6).tmod 6 = 5) :
    Code.wp Try.prog mainBody (Exit.then (fun a' w' => MainI A n c f g w1 a' w' ∧ MainMu a' w' < MainMu (mainFrame A n c g u i fr) W) Q0) (mainFrame A n c g u i fr) W := by
  obtain ⟨a, rfl, hab, p0, p1, p2, p3, p4⟩ := act_cells h.acts i hin
  have hb := h.below
  rw [← h.lg] at hab
  have k0 := (hb.cell (p := a.add (i * 5)) hab).trans p0
  have k1 := (hb.cell (p := ⟨(a.add (i * 5)).block, (a.add (i * 5)).off + 1, none⟩) hab).trans p1
  have k2 := (hb.cell (p := ⟨(a.add (i * 5)).block, (a.add (i * 5)).off + 2, none⟩) hab).trans p2
  have k3 := (hb.cell (p := ⟨(a.add (i * 5)).block, (a.add (i * 5)).off + 3, none⟩) hab).trans p3
  have k4 := (hb.cell (p := ⟨(a.add (i * 5)).block, (a.add (i * 5)).off + 4, none⟩) hab).trans p4
  have hn63 := h.acts.small
  have hr := h.plays.row
  obtain ⟨U, cu, rfl⟩ : ∃ U cu, u = .slice U 0 cu := by
    rcases hr.2 with ⟨rfl, _⟩ | ⟨b, cap, cur, rfl, _⟩
    · exact ⟨_, _, rfl⟩
    · exact ⟨_, _, rfl⟩
  have H := Lib.hid h
  obtain ⟨x, hx⟩ : ∃ x, (f i).what.tmod 6 = x := ⟨_, rfl⟩
  have hx1 : -6 < x := by rw [← hx]; exact Int.lt_tmod_of_pos _ (by decide)
  have hx2 : x < 6 := by rw [← hx]; exact Int.tmod_lt_of_pos _ (by decide)
  rw [hx] at hop
  clear h hb p0 p1 p2 p3 p4 hr
  unfold mainFrame
  conv => arg 2; whnf
  go_wp2_with fail
  all_goals
    refine (look_empty (f i).i (H.out.plays.net.alloc _)).mono ?_
    rintro e w2 ⟨rfl, hb2⟩
    unfold zagg
    have HB2 := Lib.hid (((Below.refl _ _).alloc (Nat.le_refl _) _).trans (hb2.mono (by simp)))
    clear hb2
    go_wp2_with fail
    go_quiet (fail)
    go_wp2_with fail
    have HB3 := Lib.hid (fun nq => below_drewN (HB2.out.alloc HB2.out.size (.cells #[.int .i64 0, .int .i64 0, .string ⟨#[]⟩, .bool false] 35)) nq)
    refine (count_calls (B := g) (v := v) (l := []) (H.out.plays.net.below (HB3.out _))).mono ?_
    rintro e w3 ⟨rfl, rfl⟩
    go_wp2_with fail
    exact main_next (H.out.still hin h40 (HB3.out _)) _ rfl
end Go.Proofs.Ytmmcigpbajlneaa
