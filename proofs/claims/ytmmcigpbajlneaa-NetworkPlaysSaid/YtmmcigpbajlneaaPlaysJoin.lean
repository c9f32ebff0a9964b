/- NetworkPlays: the main loop, all its rounds joined. -/
import Derived.Test.YtmmcigpbajlneaaPlaysExit
import Derived.Test.YtmmcigpbajlneaaPlaysLookSome
import Derived.Test.YtmmcigpbajlneaaPlaysSendEmpty0
import Derived.Test.YtmmcigpbajlneaaPlaysSendEmpty1
import Derived.Test.YtmmcigpbajlneaaPlaysSendSome0
import Derived.Test.YtmmcigpbajlneaaPlaysSendSome1
import Derived.Test.YtmmcigpbajlneaaPlaysSendFull0
import Derived.Test.YtmmcigpbajlneaaPlaysSendFull1
import Derived.Test.YtmmcigpbajlneaaPlaysTakeEmpty
import Derived.Test.YtmmcigpbajlneaaPlaysTakeSome
import Derived.Test.YtmmcigpbajlneaaPlaysDoubleEmpty
import Derived.Test.YtmmcigpbajlneaaPlaysDoubleFull
import Derived.Test.YtmmcigpbajlneaaPlaysDoubleSome
import Derived.Test.YtmmcigpbajlneaaPlaysSpoilEmpty
import Derived.Test.YtmmcigpbajlneaaPlaysSpoilSome
set_option linter.unusedVariables false
set_option linter.unusedSimpArgs false
namespace Go.Proofs.Ytmmcigpbajlneaa
open Go.RowKit
set_option maxRecDepth 1000000

theorem op_cases (x : Int) : ((x.tmod 6 + 6).tmod 6 = 0 ∨ (x.tmod 6 + 6).tmod 6 = 1 ∨ (x.tmod 6 + 6).tmod 6 = 2 ∨ (x.tmod 6 + 6).tmod 6 = 3 ∨ (x.tmod 6 + 6).tmod 6 = 4 ∨ (x.tmod 6 + 6).tmod 6 = 5) := by
  have h1 : -6 < x.tmod 6 := Int.lt_tmod_of_pos _ (by decide)
  have h2 : x.tmod 6 < 6 := Int.tmod_lt_of_pos _ (by decide)
  generalize x.tmod 6 = y at *
  rw [Int.tmod_eq_emod_of_nonneg (by omega)]
  omega

theorem main_round {A : Option Addr} {n c g : Nat} {f : Nat → Actv} {w1 W : World} {a : Act} {Q0 : Exit → Act → World → Prop}
    (hI : MainI A n c f g w1 a W) (hexit : ∀ a' w', MainI A n c f g w1 a' w' → Q0 (.exit 2) a' w') :
    Code.wp Try.prog mainBody (Exit.then (fun a' w' => MainI A n c f g w1 a' w' ∧ MainMu a' w' < MainMu a W) Q0) a W := by
  obtain ⟨u, v, i, l, fr, h, rfl⟩ := hI
  by_cases hin : i < n
  · by_cases h40 : i < 40
    · have hfew := h.few
      by_cases hl : l = []
      · rcases op_cases (f i).what with hop | hop | hop | hop | hop | hop
        · exact send_round_empty0 h hin h40 hl hop
        · exact send_round_empty1 h hin h40 hl hop
        · exact take_round_empty h hin h40 hl hop
        · exact double_round_empty h hin h40 hl hop
        · exact spoil_round_empty h hin h40 hl hop
        · subst hl; exact look_round_empty h hin h40 hop
      · by_cases hlt : l.length < 1024
        · rcases op_cases (f i).what with hop | hop | hop | hop | hop | hop
          · exact send_round_some0 h hin h40 hl hlt hop
          · exact send_round_some1 h hin h40 hl hlt hop
          · exact take_round_some h hin h40 hl hop
          · exact double_round_some h hin h40 hl hlt hop
          · exact spoil_round_some h hin h40 hl hop
          · exact look_round_some h hin h40 hl hop
        · have hlf : l.length = 1024 := by omega
          rcases op_cases (f i).what with hop | hop | hop | hop | hop | hop
          · exact send_round_full0 h hin h40 hlf hop
          · exact send_round_full1 h hin h40 hlf hop
          · exact take_round_some h hin h40 hl hop
          · exact double_round_full h hin h40 hlf hop
          · exact spoil_round_some h hin h40 hl hop
          · exact look_round_some h hin h40 hl hop
    · exact exit_round h (.inr (by omega)) hexit
  · exact exit_round h (.inl (by omega)) hexit

theorem main_loop {A : Option Addr} {n c g : Nat} {f : Nat → Actv} {w1 W : World} {u v : Value} {i : Nat} {l : List Fr} {Q0 : Exit → Act → World → Prop} (h : MainRel A n f g w1 u v i l W) (arr : Array Value)
    (harr : arr = (mainFrame A n c g u i fun k => arr.getD k undef).tmps) (hexit : ∀ a' w', MainI A n c f g w1 a' w' → Q0 (.exit 2) a' w') :
    Code.wp Try.prog (Code.loop mainBody) Q0 ⟨arr, []⟩ W :=
  wp_loop (MainI A n c f g w1) MainMu (main_is h arr harr) (fun a w hI => main_round hI hexit)
end Go.Proofs.Ytmmcigpbajlneaa
