/- NetworkPlays: rounds of the main loop: Spoil in an empty network. Laid by wip/mkarms.py. -/
import Derived.Test.YtmmcigpbajlneaaPlaysD
set_option linter.unusedVariables false
set_option linter.unusedSimpArgs false
namespace Go.Proofs.Ytmmcigpbajlneaa
open Go.RowKit
set_option maxRecDepth 1000000

set_option maxHeartbeats 8000000 in
theorem spoil_round_empty {A : Option Addr} {n c g : Nat} {f : Nat → Actv} {w1 W : World} {u v : Value} {i : Nat} {l : List Fr} {fr : Nat → Value} {Q0 : Exit → Act → World → Prop}
    (h : MainRel A n f g w1 u v i l W) (hin : i < n) (h40 : i < 40) (hl : l = []) (hop : ((f i).what.tmod 6 + 6).tmod 6 = 4) :
    Code.wp Try.prog mainBody (Exit.then (fun a' w' => MainI A n c f g w1 a' w' ∧ MainMu a' w' < MainMu (mainFrame A n c g u i fr) W) Q0) (mainFrame A n c g u i fr) W := by
  obtain ⟨a, rfl, hab, p0, p1, p2, p3, p4⟩ := act_cells h.acts i hin
  have hb := h.below
  rw [← h.lg] at hab
  have k0 := (hb.cell (p := a.add (i * 5)) hab).trans p0
  have k1 := (hb.cell (p := ⟨(a.add (i * 5)).block, (a.add (i * 5)).off + 1, none⟩) hab).trans p1
  have k2 := (hb.cell (p := ⟨(a.add (i * 5)).block, (a.add (i * 5)).off + 2, none⟩) hab).trans p2
  have k3 := (hb.cell (p := ⟨(a.add (i * 5)).block, (a.add (i * 5)).off + 3, none⟩) hab).trans p3
  have k4 := (hb.cell (p := ⟨(a.add (i * 5)).block, (a.add (i * 5)).off + 4, none⟩) hab).trans p4
  have hn63 := h.acts.small
  have hr := h.plays.row
  have hfew := h.few
  have hgl := h.plays.lt
  obtain ⟨x, hx⟩ : ∃ x, (f i).what.tmod 6 = x := ⟨_, rfl⟩
  have hx1 : -6 < x := by rw [← hx]; exact Int.lt_tmod_of_pos _ (by decide)
  have hx2 : x < 6 := by rw [← hx]; exact Int.tmod_lt_of_pos _ (by decide)
  rw [hx] at hop
  subst hl
  obtain ⟨U, cu, rfl⟩ : ∃ U cu, u = .slice U 0 cu := by
    rcases hr.2 with ⟨rfl, _⟩ | ⟨b, cap, cur, rfl, _⟩
    · exact ⟨_, _, rfl⟩
    · exact ⟨_, _, rfl⟩
  have H := Lib.hid h
  clear h hb p0 p1 p2 p3 p4 hr
  unfold mainFrame
  conv => arg 2; whnf
  go_wp2_with fail
  all_goals
    refine (spoil_empty (f i).i (f i).pos (f i).by_ (H.out.plays.net.alloc _)).mono ?_
    rintro e w3 ⟨rfl, hb3⟩
    have hb3' := ((Below.refl W.heap.size W).alloc (Nat.le_refl _) _).trans (hb3.mono (by simp))
    have HB2 := Lib.hid hb3'
    clear hb3 hb3' k0 k1 k2 k3 k4
    go_wp2_with fail
    refine (count_calls (B := g) (v := v) (l := []) (H.out.plays.net.below HB2.out)).mono ?_
    rintro e w3 ⟨rfl, rfl⟩
    go_wp2_with fail
    exact main_next (H.out.still hin h40 HB2.out) _ rfl
end Go.Proofs.Ytmmcigpbajlneaa
