/- A network and the law's own row of frames beside it. -/
import Derived.Test.YtmmcigpbajlneaaTurned
import Derived.Test.YtmmcigpbajlneaaActs
set_option linter.unusedVariables false
set_option linter.unusedSimpArgs false
namespace Go.Proofs.Ytmmcigpbajlneaa
open Go.RowKit

/-- The network at block g holds the frames l, and the row u holds them too. -/
structure Plays (W : World) (g : Nat) (v u : Value) (l : List Fr) : Prop where
  net : NetAt W g g v l
  row : W.ownsRow g 30 4 u l.length (frCells l)

section
variable {w w' W : World} {g : Nat} {v u : Value} {l m : List Fr}
/-- A network stays behind a change of a row of another type. -/
theorem NetAt.grown {B' E sz n : Nat} {xs : List Value} {B : Nat} (h : NetAt w B g v l) (hr : w.ownsRow B' E sz u n xs) (hg : w.grownBy w' u.ownBlock) (h1 : E ≠ 26) (h2 : E ≠ 35) : NetAt w' B g v l := by
  have hu : ∀ b t c fr, w.heap[b]? = some (.cells c t fr) → t ≠ E → u.ownBlock ≠ some b := by
    intro b t c fr hb hne e
    rcases hr.2 with ⟨rfl, _⟩ | ⟨b', cap', cur', rfl, _, hb', _⟩
    · simp [Value.ownBlock] at e
    · simp only [Value.ownBlock, Option.some.injEq] at e
      subst e
      have := hb.symm.trans hb'
      simp only [Option.some.injEq, Obj.cells.injEq] at this
      exact hne this.2.1
  refine ⟨(hg.block g h.lt (fun e => hu g _ _ _ h.blk (fun e2 => h1 e2.symm) e.symm)).trans h.blk, h.ge, ⟨h.own.1, ?_⟩⟩
  rcases h.own.2 with hn | ⟨b, cap, cur, rfl, hb, hbb, rest⟩
  · exact .inl hn
  · exact .inr ⟨b, cap, cur, rfl, hb, (hg.block b (Array.getElem?_eq_some_iff.1 hbb).1 (fun e => hu b _ _ _ hbb (fun e2 => h2 e2.symm) e.symm)).trans hbb, rest⟩
theorem row_below {B E sz n : Nat} {xs : List Value} (h : w.ownsRow B E sz u n xs) (hb : Below w.heap.size w w') : w'.ownsRow B E sz u n xs := by
  refine ⟨h.1, ?_⟩
  rcases h.2 with hn | ⟨b, cap, cur, rfl, hb', hbb, rest⟩
  · exact .inl hn
  · exact .inr ⟨b, cap, cur, rfl, hb', (hb.block b (Array.getElem?_eq_some_iff.1 hbb).1).trans hbb, rest⟩
theorem Plays.below (h : Plays w g v u l) (hb : Below w.heap.size w w') : Plays w' g v u l := ⟨h.net.below hb, row_below h.row hb⟩
theorem Plays.alloc (h : Plays w g v u l) (o : Obj) : Plays (w.alloc o) g v u l := h.below ((Below.refl _ _).alloc (Nat.le_refl _) o)
theorem Plays.drew (h : Plays w g v u l) : Plays w.drew g v u l := h.below (Below.refl _ _).drew
theorem Plays.lt (h : Plays w g v u l) : g < w.heap.size := h.net.lt
/-- A store into a block that is neither. -/
theorem row_setFar {B E sz n : Nat} {xs : List Value} (h : w.ownsRow B E sz u n xs) {p : Addr} (hp : u.ownBlock ≠ some p.block) (x : Value) : (w.setCell p x).ownsRow B E sz u n xs :=
  h.kept (row := some p.block) ⟨rfl, rfl, rfl, by simp [World.setCell], fun k _ hk => Below.heap_setCell _ _ _ _ (fun e => hk (by rw [e]))⟩ (.inr hp)

/-- The network's frames have turned to m; the row holds the old ones. -/
structure Half (W : World) (g : Nat) (v u : Value) (m l : List Fr) : Prop where
  net : NetAt W g g v m
  row : W.ownsRow g 30 4 u l.length (frCells l)
theorem Plays.half (h : Plays w g v u l) {w1 : World} (h0 : Below g w1 w) (hn : Now w w' g g v m) : ∃ v', Half w' g v' u m l ∧ Below g w1 w' ∧ Chg w w' g v := by
  obtain ⟨v', h1, h2, h3, _⟩ := Now.next h.net h0 hn
  exact ⟨v', ⟨h1, h3.row h.net h.row (by decide) (by decide)⟩, h2, h3⟩
theorem Half.below (h : Half w g v u m l) (hb : Below w.heap.size w w') : Half w' g v u m l := ⟨h.net.below hb, row_below h.row hb⟩
theorem Half.alloc (h : Half w g v u m l) (o : Obj) : Half (w.alloc o) g v u m l := h.below ((Below.refl _ _).alloc (Nat.le_refl _) o)
theorem Half.drew (h : Half w g v u m l) : Half w.drew g v u m l := h.below (Below.refl _ _).drew
/-- The row has followed: it was appended to. -/
theorem Half.appended {u' : Value} (h : Half w g v u (l ++ m) l) (hb : Below w.heap.size w W) (hown : w'.ownsRow g 30 4 u' (l.length + m.length) (frCells l ++ frCells m)) (hg : W.grownBy w' u.ownBlock) : Plays w' g v u' (l ++ m) := by
  have h2 := h.below hb
  refine ⟨h2.net.grown h2.row hg (by decide) (by decide), ?_⟩
  rw [frCells_append, List.length_append]
  exact hown
/-- Nothing below the network turns when the row grows. -/
theorem row_grown_below {w1 : World} {E sz n : Nat} {xs : List Value} (hb : Below g w1 W) (hg0 : g ≤ W.heap.size) (hr : W.ownsRow g E sz u n xs) (hg : W.grownBy w' u.ownBlock) : Below g w1 w' :=
  hb.grown hg hg0 fun k e => (hr.lt k e).1
end
/-- The frames that a full play begins with. -/
def fills (i : Nat) : List Fr := (List.range i).map fun (j : Nat) => ⟨(j : Int), 0, ⟨#[120]⟩, false⟩
theorem fills_succ (i : Nat) : fills (i + 1) = fills i ++ [⟨(i : Int), 0, ⟨#[120]⟩, false⟩] := by simp [fills, List.range_succ]
theorem fills_length (i : Nat) : (fills i).length = i := by simp [fills]
end Go.Proofs.Ytmmcigpbajlneaa
