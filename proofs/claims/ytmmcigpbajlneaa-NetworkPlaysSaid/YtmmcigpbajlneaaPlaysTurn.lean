/- What spoiling does to a frame: one function for the code and the reference. -/
import Derived.Test.YtmmcigpbajlneaaPlaysApp
set_option linter.unusedVariables false
set_option linter.unusedSimpArgs false
namespace Go.Proofs.Ytmmcigpbajlneaa
open Go.RowKit

def turnOf (y : Fr) (j b : Int) : Fr × Bool := if y.s.size = 0 ∨ y.t = true ∨ ((spoilt y.s j b).toList == y.s.toList) = true then (y, false) else (⟨y.a, y.b, spoilt y.s j b, true⟩, true)

theorem turned_any (y : Fr) (j b : Int) (w : World) (hy0 : 0 ≤ b) (hy1 : b ≤ 4294967295) (hsz : y.s.size ≤ 100000) :
    Calls Try.prog 10 #[y.agg, .int .i64 j, .int .u32 b] w fun e w' => e = .returned (.tuple #[(turnOf y j b).1.agg, .bool (turnOf y j b).2]) ∧ Below w.heap.size w w' := by
  by_cases h : y.s.size = 0 ∨ y.t = true
  · have e : turnOf y j b = (y, false) := by unfold turnOf; rw [if_pos (by rcases h with h | h; exact .inl h; exact .inr (.inl h))]
    rw [e]
    exact turned_same y j b w h
  · have h1 : y.s.size ≠ 0 := fun e => h (.inl e)
    have h2 : y.t = false := by cases hh : y.t with
      | true => exact absurd (.inr hh) h
      | false => rfl
    refine (turned_calls y j b w h1 h2 hy0 hy1 hsz).mono ?_
    rintro e w' ⟨rfl, hb⟩
    refine ⟨?_, hb⟩
    unfold turnOf
    by_cases h3 : ((spoilt y.s j b).toList == y.s.toList) = true
    · rw [if_pos h3, if_pos (.inr (.inr h3))]
    · rw [if_neg h3, if_neg (by rintro (h4 | h4 | h4); exact h1 h4; rw [h2] at h4; cases h4; exact h3 h4)]

theorem spoil_any {g : Nat} {v u : Value} {l m : List Fr} {w w1 : World} (i j b : Int) (y : Fr) (h : Half w g v u l m) (h2 : l.length ≤ 1024) (hf : l[place i l.length]? = some y) (hb : Below g w1 w) (hy0 : 0 ≤ b) (hy1 : b ≤ 4294967295) (hsz : y.s.size ≤ 100000) :
    Calls Try.prog 11 #[.pointer (some ⟨g, 0, none⟩), .int .i64 i, .int .i64 j, .int .u32 b] w fun e w' => e = .returned (.bool (turnOf y j b).2) ∧ ∃ v', Half w' g v' u (l.set (place i l.length) (turnOf y j b).1) m ∧ Below g w1 w' := by
  have hk := (List.getElem?_eq_some_iff.1 hf).1
  have hsame : l.set (place i l.length) y = l := by
    obtain ⟨_, e⟩ := List.getElem?_eq_some_iff.1 hf
    rw [← e]
    exact List.set_getElem_self hk
  have hlt := h.net.lt
  by_cases h0 : y.s.size = 0
  · have e : turnOf y j b = (y, false) := by unfold turnOf; rw [if_pos (.inl h0)]
    have hz : y.s = ⟨#[]⟩ := by
      apply WideShapes.bytes_inj
      exact List.eq_nil_of_length_eq_zero (by simpa using h0)
    rw [e]
    refine (spoil_void i j b y h.net h2 hf hz).mono ?_
    rintro e w' ⟨rfl, hb2⟩
    exact ⟨rfl, v, by rw [hsame]; exact h.below hb2, hb.trans (hb2.mono (by omega))⟩
  by_cases ht : y.t = true
  · have e : turnOf y j b = (y, false) := by unfold turnOf; rw [if_pos (.inr (.inl ht))]
    rw [e]
    refine (spoil_twice i j b y h.net h2 hf h0 ht).mono ?_
    rintro e w' ⟨rfl, hb2⟩
    exact ⟨rfl, v, by rw [hsame]; exact h.below hb2, hb.trans (hb2.mono (by omega))⟩
  have ht2 : y.t = false := by cases hh : y.t with
    | true => exact absurd hh ht
    | false => rfl
  refine (spoil_calls i j b y h.net h2 hf h0 ht2 hy0 hy1 hsz).mono ?_
  intro e w' hp
  unfold SpoilPost at hp
  by_cases h3 : ((spoilt y.s j b).toList == y.s.toList) = true
  · rw [if_pos h3] at hp
    obtain ⟨rfl, hb2⟩ := hp
    have e : turnOf y j b = (y, false) := by unfold turnOf; rw [if_pos (.inr (.inr h3))]
    rw [e]
    exact ⟨rfl, v, by rw [hsame]; exact h.below hb2, hb.trans (hb2.mono (by omega))⟩
  · rw [if_neg h3] at hp
    obtain ⟨rfl, hn⟩ := hp
    have e : turnOf y j b = (⟨y.a, y.b, spoilt y.s j b, true⟩, true) := by unfold turnOf; rw [if_neg (by rintro (h4 | h4 | h4); exact h0 h4; exact ht h4; exact h3 h4)]
    rw [e]
    obtain ⟨v', h5, h6, h7, _⟩ := Now.next h.net hb hn
    exact ⟨rfl, v', ⟨h5, h7.row h.net h.row (by decide) (by decide)⟩, h6⟩
theorem turnOf_size (y : Fr) (j b : Int) : (turnOf y j b).1.s.size = y.s.size := by
  unfold turnOf
  split
  · rfl
  · show (spoilt y.s j b).size = _
    unfold spoilt
    rw [strOfNums_size, spoilTo_length, nums8_length]
/-- Where the ways through a region meet again: one frame and one world for all of them, but for one letter. -/
def Meets {α : Type} (T : α → Prop) (F : α → Act) (G : α → World) : Exit → Act → World → Prop
  | .normal, a, w => ∃ x, T x ∧ a = F x ∧ w = G x
  | _, _, _ => False
theorem wp_meets {P : Program} {c : Code} {Q : Exit → Act → World → Prop} {a : Act} {w : World} {α : Type} (T : α → Prop) {F : α → Act} {G : α → World} (h : c.wp P (Meets T F G) a w)
    (hk : ∀ x, T x → Q .normal (F x) (G x)) : c.wp P Q a w :=
  Code.wp_mono (fun e a' w' hm => by
    cases e <;> first
      | (obtain ⟨x, hx, rfl, rfl⟩ := hm; exact hk x hx)
      | exact (hm : False).elim) h
theorem Half.put {W : World} {g b c : Nat} {v : Value} {l m : List Fr} (h : Half W g v (.slice (some ⟨b, 0, none⟩) l.length c) m l) (k : Nat) (hk : k < l.length) (f : Fr) :
    Half ((((W.setCell ⟨b, k * 4, none⟩ (.int .i64 f.a)).setCell ⟨b, k * 4 + 1, none⟩ (.int .i64 f.b)).setCell ⟨b, k * 4 + 2, none⟩ (.string f.s)).setCell ⟨b, k * 4 + 3, none⟩ (.bool f.t)) g v (.slice (some ⟨b, 0, none⟩) l.length c) m (l.set k f) ∧
    W.grownBy ((((W.setCell ⟨b, k * 4, none⟩ (.int .i64 f.a)).setCell ⟨b, k * 4 + 1, none⟩ (.int .i64 f.b)).setCell ⟨b, k * 4 + 2, none⟩ (.string f.s)).setCell ⟨b, k * 4 + 3, none⟩ (.bool f.t)) (some b) := by
  have o1 := h.row.stored (k * 4) (.int .i64 f.a)
  have o2 := o1.1.stored (k * 4 + 1) (.int .i64 f.b)
  have o3 := o2.1.stored (k * 4 + 2) (.string f.s)
  have o4 := o3.1.stored (k * 4 + 3) (.bool f.t)
  replace o4 := o4.1
  rw [frCells_set4 l k f hk] at o4
  have hg := grownBy_setCell (grownBy_setCell (grownBy_setCell (grownBy_setCell (grownBy_refl W (some b)) (k * 4) (.int .i64 f.a)) (k * 4 + 1) (.int .i64 f.b)) (k * 4 + 2) (.string f.s)) (k * 4 + 3) (.bool f.t)
  exact ⟨⟨h.net.grown h.row hg (by decide) (by decide), by rw [List.length_set]; exact o4⟩, hg⟩
end Go.Proofs.Ytmmcigpbajlneaa
