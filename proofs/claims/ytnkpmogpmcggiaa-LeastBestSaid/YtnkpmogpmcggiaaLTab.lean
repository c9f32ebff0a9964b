/- The table in memory. -/
import Derived.Test.YtnkpmogpmcggiaaLTailsL
import Derived.Test.YtnkpmogpmcggiaaLEnd
import Derived.Lib.Hide
set_option linter.unusedVariables false
set_option linter.unusedSimpArgs false
namespace Go.Proofs.Ytnkpmogpmcggiaa
open Go.RowKit Go.Proofs.YtnkpmogpmcggiaaW.PrintWords Go.Proofs.YtnkpmogpmcggiaaW.PrintLast Go.Proofs.YtnkpmogpmcggiaaW.PrintMore

/-- A slice as an element, its own elements' rows apart. -/
def sliceS {α : Type} (e : Nat) (d : Kd α) : Kd (List α) where
  sz := 1
  E := e :: d.E
  K := (Kd.slice e d).K
  M := fun w base ok xs cs => ∃ v, cs = [v] ∧ Kd.S d e w base ok v xs
  K_len := (Kd.slice e d).K_len
  K_one := (Kd.slice e d).K_one
  K_below := (Kd.slice e d).K_below
  K_of_M := by
    rintro w base ok x cs ⟨v, rfl, h⟩
    obtain ⟨A, c, rfl, hl, hr⟩ := Kd.S_reads h
    exact ⟨A, c, rfl, hl, hr⟩
  M_mono := by
    rintro w base ok ok' x cs hok ⟨v, rfl, h⟩
    exact ⟨v, rfl, Kd.S_mono h hok⟩
  M_bound := by
    rintro w base ok x cs ⟨v, rfl, h⟩
    exact ⟨v, rfl, Kd.S_bound h⟩
  M_move := by
    rintro w w1 base ok x cs hm ⟨v, rfl, h⟩
    exact ⟨v, rfl, Kd.S_move h hm⟩
  M_lower := by
    rintro w base base' ok x cs hb ⟨v, rfl, h⟩
    exact ⟨v, rfl, Kd.S_lower h hb⟩

abbrev rowK : Kd (List Int) := Kd.slice 3 (Kd.int .i64)
abbrev midK : Kd (List (List Int)) := sliceS 34 rowK
theorem midK_C {w : World} {A : Option Addr} {n : Nat} {N : Tab3} (h : midK.C w A n N) : (Kd.slice 34 rowK).C w A n N := h

/-- What a table's struct holds beside its nodes. -/
structure Tb where
  s : Int
  r : Int
  A2 : Option Addr
  c2 : Nat
  l2 : List ByteArray
  A3 : Option Addr
  c3 : Nat
  l3 : List ByteArray
  A4 : Option Addr
  c4 : Nat
  l4 : List S39
  A5 : Option Addr
  c5 : Nat
  word : List Int
def Tb.cells (t : Tb) (v : Value) : Array Value := #[.int .i64 t.s, .int .i64 t.r, .slice t.A2 t.l2.length t.c2, .slice t.A3 t.l3.length t.c3, .slice t.A4 t.l4.length t.c4, .slice t.A5 t.word.length t.c5, v]
structure Tb.Came (t : Tb) (w : World) : Prop where
  r2 : Kd.C Kd.string w t.A2 t.l2.length t.l2
  r3 : Kd.C Kd.string w t.A3 t.l3.length t.l3
  r4 : Kd.C k39 w t.A4 t.l4.length t.l4
  r5 : Kd.C (Kd.int .i64) w t.A5 t.word.length t.word
/-- The table t at block g, its nodes N. -/
structure TabAt (t : Tb) (w0 W : World) (g : Nat) (v : Value) (N : Tab3) : Prop where
  blk : W.heap[g]? = some (.cells (t.cells v) 71 (0, 0))
  ge : w0.heap.size ≤ g
  own : Kd.S midK 43 W w0.heap.size (fun _ => True) v N
  below : Below w0.heap.size w0 W
  came : t.Came w0

section
variable {t : Tb} {w0 W W' : World} {g : Nat} {v : Value} {N : Tab3}
theorem TabAt.lt (h : TabAt t w0 W g v N) : g < W.heap.size := blk_lt h.blk
theorem TabAt.then_ (h : TabAt t w0 W g v N) (hb : Below W.heap.size W W') : TabAt t w0 W' g v N :=
  ⟨(hb.block g h.lt).trans h.blk, h.ge, Kd.S_below h.own hb, h.below.trans (hb.mono h.below.size), h.came⟩
theorem TabAt.is71 (h : TabAt t w0 W g v N) : IsS71 W W g t.s t.r t.l2 t.l3 t.l4 t.word N := by
  obtain ⟨A6, c6, rfl, hl, hr⟩ := Kd.S_reads h.own
  exact ⟨t.A2, t.c2, t.A3, t.c3, t.A4, t.c4, t.A5, t.c5, A6, c6, h.blk, Nat.zero_le _, Kd.C_below h.came.r2 h.below, Kd.C_below h.came.r3 h.below, Kd.C_below h.came.r4 h.below, Kd.C_below h.came.r5 h.below, hr⟩

/-- A row that came in lies in another block than the table. -/
theorem came_ne (h : TabAt t w0 W g v N) {A1 : Option Addr} {l1 : List Int} (hr : Kd.C (Kd.int .i64) w0 A1 l1.length l1) : ∀ ad, A1 = some ad → 0 < l1.length → ad.block ≠ g := by
  rintro ad rfl hp
  obtain ⟨ad', e, hx⟩ := Kd.at_int hr 0 (by omega) (by omega)
  cases e
  have := World.block_lt_of_cell? w0 _ hx
  have h2 := h.ge
  rw [add_block] at this
  omega

theorem of_at (h : TabAt t w0 W g v N) {L n : Nat} (hD : Dim L n N) (hw : t.word.length = L) (hL : L ≤ 900) (s : Int) (hs : s < n) (hs0 : -1000000 ≤ s) (i j : Nat) (hi : i ≤ L) (hj : j ≤ L) :
    Calls Try.prog 20 #[.pointer (some ⟨g, 0, none⟩), .int .i64 s, .int .i64 i, .int .i64 j] W fun e w' => e = .returned (.int .i64 (ofL t.word N s i j)) ∧ Below W.heap.size W w' :=
  (least_table_of.calls g t.s t.r t.l2 t.l3 t.l4 t.word N s i j _ _ _ W W h.is71 (Below.refl _ _) (of_eq hD t.s t.r t.l2 t.l3 t.l4 t.word hw hL s hs hs0 i j hi hj)).mono fun _ _ ⟨he, _, hb, _⟩ => ⟨he, hb⟩

theorem tails_at (h : TabAt t w0 W g v N) {L n : Nat} (hD : Dim L n N) (hw : t.word.length = L) (hL : L ≤ 900) {A1 : Option Addr} {c1 : Nat} (syms : List Int) (hr1 : Kd.C (Kd.int .i64) w0 A1 syms.length syms) (hc1 : syms.length ≤ c1)
    (hs : ∀ s ∈ syms, s < n ∧ -1000000 ≤ s) (hm : syms.length ≤ 1000) (fr z : Nat) (hz : z ≤ L) (hf : fr ≤ z) :
    Calls Try.prog 28 #[.pointer (some ⟨g, 0, none⟩), .slice A1 syms.length c1, .int .i64 fr, .int .i64 z] W fun e w' =>
      ∃ v0 : Value, e = .returned v0 ∧ Kd.S rowK 34 w' W.heap.size (fun _ => True) v0 (tabL syms.length z (TL t.word N syms fr z)) ∧ Below W.heap.size W w' := by
  obtain ⟨k, hk⟩ := (tails_ev hD t.s t.r t.l2 t.l3 t.l4 t.word hw hL syms hs hm fr z hz hf).rounds
  exact (least_table_tails.calls k g t.s t.r t.l2 t.l3 t.l4 t.word N A1 c1 syms fr z _ _ _ W W h.is71 (Below.refl _ _) (Kd.C_below hr1 h.below) hc1 (came_ne h hr1) hk).mono fun _ _ ⟨v0, he, hS, _, hb, _⟩ => ⟨v0, he, hS, hb⟩
end
end Go.Proofs.Ytnkpmogpmcggiaa
