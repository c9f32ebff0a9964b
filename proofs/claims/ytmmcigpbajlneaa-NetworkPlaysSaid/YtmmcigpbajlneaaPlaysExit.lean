/- NetworkPlays: the main loop's end. -/
import Derived.Test.YtmmcigpbajlneaaPlaysC
set_option linter.unusedVariables false
set_option linter.unusedSimpArgs false
namespace Go.Proofs.Ytmmcigpbajlneaa
open Go.RowKit
set_option maxRecDepth 1000000

theorem main_is {A : Option Addr} {n c : Nat} {f : Nat → Actv} {g : Nat} {w1 W : World} {u v : Value} {i : Nat} {l : List Fr} (h : MainRel A n f g w1 u v i l W) (arr : Array Value)
    (harr : arr = (mainFrame A n c g u i fun k => arr.getD k undef).tmps) : MainI A n c f g w1 ⟨arr, []⟩ W := by
  refine ⟨u, v, i, l, fun k => arr.getD k undef, h, ?_⟩
  conv => lhs; rw [harr]
  rfl

set_option maxHeartbeats 8000000 in
theorem exit_round {A : Option Addr} {n c g : Nat} {f : Nat → Actv} {w1 W : World} {u v : Value} {i : Nat} {l : List Fr} {fr : Nat → Value} {Q0 : Exit → Act → World → Prop}
    (h : MainRel A n f g w1 u v i l W) (hx : n ≤ i ∨ 40 ≤ i) (hexit : ∀ a' w', MainI A n c f g w1 a' w' → Q0 (.exit 2) a' w') :
    Code.wp Try.prog mainBody (Exit.then (fun a' w' => MainI A n c f g w1 a' w' ∧ MainMu a' w' < MainMu (mainFrame A n c g u i fr) W) Q0) (mainFrame A n c g u i fr) W := by
  have hn63 := h.acts.small
  have hi1 := h.hi
  have hi2 := h.h40
  have H := Lib.hid h
  have HE := Lib.hid hexit
  clear h hexit
  unfold mainFrame
  conv => arg 2; whnf
  by_cases hlt : i < n
  · have h40 : ¬ i < 40 := by omega
    clear hx
    go_wp2_with fail
    exact HE.out _ _ (main_is H.out _ rfl)
  · clear hx
    go_wp2_with fail
    exact HE.out _ _ (main_is H.out _ rfl)
end Go.Proofs.Ytmmcigpbajlneaa
