/- NetworkPlays: the main loop's body, its frame and what holds from round to round. Laid by wip/mkplays.py. -/
import Derived.Test.YtmmcigpbajlneaaPlaysA
set_option linter.unusedVariables false
set_option linter.unusedSimpArgs false
namespace Go.Proofs.Ytmmcigpbajlneaa
open Go.RowKit
set_option maxRecDepth 1000000

/-- The n-th loop of a text, counted from 0. -/
def loops : Code → List Code
  | .loop c => [c]
  | .seq a b => loops a ++ loops b
  | .block _ c => loops c
  | .scope c => loops c
  | .cond _ a b => loops a ++ loops b
  | _ => []
noncomputable def mainBody : Code := (Try.f3.body.bind fun b => (loops b)[1]?).getD .skip

def mainFrame (A : Option Addr) (n c g : Nat) (u : Value) (i : Nat) (fr : Nat → Value) : Act := ⟨#[.slice A n c, fr 1, fr 2, fr 3, fr 4, .pointer (some ⟨g, 0, none⟩), u, fr 7, .int .i64 (i : Int), fr 9, fr 10, fr 11, fr 12, fr 13, fr 14, fr 15, fr 16, fr 17, fr 18, fr 19, fr 20, fr 21, fr 22, fr 23, fr 24, fr 25, fr 26, fr 27, fr 28, fr 29, fr 30, fr 31, fr 32, fr 33, fr 34, fr 35, fr 36, fr 37, fr 38, fr 39, fr 40, fr 41, fr 42, fr 43, fr 44, fr 45, fr 46, fr 47, fr 48, fr 49, fr 50, fr 51, fr 52, fr 53, fr 54, fr 55, fr 56, fr 57, fr 58, fr 59, fr 60, fr 61, fr 62, fr 63, fr 64, fr 65, fr 66, fr 67, fr 68, fr 69, fr 70, fr 71, fr 72, fr 73, fr 74, fr 75, fr 76, fr 77, fr 78, fr 79, fr 80, fr 81, fr 82, fr 83, fr 84, fr 85, fr 86, fr 87, fr 88, fr 89, fr 90, fr 91, fr 92, fr 93, fr 94, fr 95, fr 96, fr 97, fr 98, fr 99, fr 100, fr 101, fr 102, fr 103, fr 104, fr 105, fr 106, fr 107, fr 108, fr 109, fr 110, fr 111, fr 112, fr 113, fr 114, fr 115, fr 116, fr 117, fr 118, fr 119, fr 120, fr 121, fr 122, fr 123, fr 124, fr 125, fr 126, fr 127, fr 128, fr 129, fr 130, fr 131, fr 132, fr 133, fr 134, fr 135, fr 136, fr 137, fr 138, fr 139, fr 140, fr 141, fr 142, fr 143, fr 144, fr 145, fr 146, fr 147, fr 148, fr 149, fr 150, fr 151, fr 152, fr 153, fr 154, fr 155, fr 156, fr 157, fr 158, fr 159, fr 160, fr 161, fr 162, fr 163, fr 164, fr 165, fr 166, fr 167, fr 168, fr 169, fr 170, fr 171, fr 172, fr 173, fr 174, fr 175, fr 176, fr 177, fr 178, fr 179, fr 180, fr 181, fr 182, fr 183, fr 184, fr 185, fr 186, fr 187, fr 188, fr 189, fr 190, fr 191, fr 192, fr 193, fr 194, fr 195, fr 196, fr 197, fr 198, fr 199, fr 200, fr 201, fr 202, fr 203, fr 204, fr 205, fr 206, fr 207, fr 208, fr 209, fr 210, fr 211, fr 212, fr 213, fr 214, fr 215, fr 216, fr 217, fr 218, fr 219, fr 220, fr 221, fr 222, fr 223, fr 224, fr 225, fr 226, fr 227, fr 228, fr 229, fr 230, fr 231, fr 232, fr 233, fr 234, fr 235, fr 236, fr 237, fr 238, fr 239, fr 240, fr 241, fr 242], []⟩

/-- What is known at the loop's head. -/
structure MainRel (A : Option Addr) (n : Nat) (f : Nat → Actv) (g : Nat) (w1 : World) (u v : Value) (i : Nat) (l : List Fr) (W : World) : Prop where
  hi : i ≤ n
  h40 : i ≤ 40
  plays : Plays W g v u l
  below : Below g w1 W
  lg : g = w1.heap.size
  few : l.length ≤ 1024
  small : ∀ x ∈ l, x.s.size ≤ 60
  acts : ActsAt w1 A n f

def MainI (A : Option Addr) (n c : Nat) (f : Nat → Actv) (g : Nat) (w1 : World) (a : Act) (W : World) : Prop :=
  ∃ (u v : Value) (i : Nat) (l : List Fr) (fr : Nat → Value), MainRel A n f g w1 u v i l W ∧ a = mainFrame A n c g u i fr
def MainMu (a : Act) (_ : World) : Nat := 40 - (intOf (a.tmps.getD 8 undef)).toNat

theorem MainRel.step {A : Option Addr} {n : Nat} {f : Nat → Actv} {g : Nat} {w1 W W' : World} {u v u' v' : Value} {i : Nat} {l l' : List Fr} (h : MainRel A n f g w1 u v i l W) (hin : i < n) (h40 : i < 40) (hp : Plays W' g v' u' l') (hb : Below g w1 W')
    (hf : l'.length ≤ 1024) (hs : ∀ x ∈ l', x.s.size ≤ 60) : MainRel A n f g w1 u' v' (i + 1) l' W' := ⟨by omega, by omega, hp, hb, h.lg, hf, hs, h.acts⟩
/-- Nothing of what was there has turned. -/
theorem MainRel.still {A : Option Addr} {n : Nat} {f : Nat → Actv} {g : Nat} {w1 W W' : World} {u v : Value} {i : Nat} {l : List Fr} (h : MainRel A n f g w1 u v i l W) (hin : i < n) (h40 : i < 40) (hb : Below W.heap.size W W') : MainRel A n f g w1 u v (i + 1) l W' :=
  h.step hin h40 (h.plays.below hb) (h.below.trans (hb.mono (Nat.le_of_lt h.plays.lt))) h.few h.small

theorem main_next {A : Option Addr} {n c : Nat} {f : Nat → Actv} {g : Nat} {w1 W W' : World} {u u' v' : Value} {i : Nat} {l' : List Fr} {fr : Nat → Value} (h : MainRel A n f g w1 u' v' (i + 1) l' W') (arr : Array Value)
    (harr : arr = (mainFrame A n c g u' (i + 1) fun k => arr.getD k undef).tmps) : MainI A n c f g w1 ⟨arr, []⟩ W' ∧ MainMu ⟨arr, []⟩ W' < MainMu (mainFrame A n c g u i fr) W := by
  refine ⟨⟨u', v', i + 1, l', fun k => arr.getD k undef, h, ?_⟩, ?_⟩
  · conv => lhs; rw [harr]
    rfl
  · have h1 : arr.getD 8 undef = .int .i64 ((i + 1 : Nat) : Int) := by rw [harr]; rfl
    have h2 : ((mainFrame A n c g u i fr).tmps.getD 8 undef) = .int .i64 (i : Int) := rfl
    have := h.h40
    unfold MainMu
    simp only [h1, h2, intOf]
    omega
end Go.Proofs.Ytmmcigpbajlneaa
