/- The least tree in plain words; where a symbol's part ends. -/
import Derived.Test.YtnkpmogpmcggiaaLTab
set_option linter.unusedVariables false
set_option linter.unusedSimpArgs false
namespace Go.Proofs.Ytnkpmogpmcggiaa
open Go.RowKit Go.Proofs.YtnkpmogpmcggiaaW.PrintWords Go.Proofs.YtnkpmogpmcggiaaW.PrintLast Go.Proofs.YtnkpmogpmcggiaaW.PrintMore

/-- Where a symbol's part ends: the first place that leaves the nodes as they are to be. -/
def endL (word : List Int) (N : Tab3) (s : Int) (fr : Nat) (nodes : Int) (rest : Nat → Int) : Nat → Nat → Nat
  | 0, _ => fr
  | c + 1, j => if ofL word N s fr j = -1 then endL word N s fr nodes rest c (j + 1) else if rest j = -1 then endL word N s fr nodes rest c (j + 1)
      else if ofL word N s fr j + rest j = nodes then j else endL word N s fr nodes rest c (j + 1)
theorem endL_bounds (word : List Int) (N : Tab3) (s : Int) (fr : Nat) (nodes : Int) (rest : Nat → Int) (z : Nat) (hz : fr ≤ z) : ∀ (c j : Nat), fr ≤ j → j + c ≤ z + 1 → fr ≤ endL word N s fr nodes rest c j ∧ endL word N s fr nodes rest c j ≤ z
  | 0, _, _, _ => ⟨Nat.le_refl _, hz⟩
  | c + 1, j, h1, h2 => by
    have ih := endL_bounds word N s fr nodes rest z hz c (j + 1) (by omega) (by omega)
    unfold endL
    split
    · exact ih
    · split
      · exact ih
      · split
        · omega
        · exact ih
theorem endL_congr (word : List Int) (N : Tab3) (s : Int) (fr : Nat) (nodes : Int) (f g : Nat → Int) : ∀ (c j : Nat), (∀ i, j ≤ i → i < j + c → f i = g i) → endL word N s fr nodes f c j = endL word N s fr nodes g c j
  | 0, _, _ => rfl
  | c + 1, j, h => by
    have ih := endL_congr word N s fr nodes f g c (j + 1) (fun i h1 h2 => h i (by omega) (by omega))
    unfold endL
    rw [ih, h j (Nat.le_refl _) (by omega)]

section
variable {t : Tb} {w0 W W' : World} {g : Nat} {v : Value} {N : Tab3}
theorem end_l0 {L n : Nat} {N : Tab3} (hD : Dim L n N) (s0 s1 : Int) (s2 s3 : List ByteArray) (s4 : List S39) (word : List Int) (hw : word.length = L) (hL : L ≤ 900) (s : Int) (hs : s < n) (hs0 : -1000000 ≤ s) (fr z : Nat) (nodes : Int) (hz : z ≤ L) (hf : fr ≤ z) (f : Nat → Int) (hb : ∀ j, j ≤ z → -1 ≤ f j ∧ f j ≤ top40) :
    ∀ (c j : Nat), j + c = z + 1 → least_table_end.l0 (c + 1) s fr nodes ((List.range (z + 1)).map f) j s0 s1 s2 s3 s4 word N = some (((endL word N s fr nodes f c j : Nat) : Int), s0, s1)
  | 0, j, h => by
    unfold least_table_end.l0
    rw [if_neg (by rw [List.length_map, List.length_range]; omega)]
    rfl
  | c + 1, j, h => by
    have ih := end_l0 hD s0 s1 s2 s3 s4 word hw hL s hs hs0 fr z nodes hz hf f hb c (j + 1) (by omega)
    have ho := of_eq hD s0 s1 s2 s3 s4 word hw hL s hs hs0 fr j (by omega) (by omega)
    have hob := ofL_bounds hD word s hs fr j (by omega) (by omega)
    have hfb := hb j (by omega)
    unfold least_table_end.l0 endL
    rw [if_pos (by rw [List.length_map, List.length_range]; omega), ho]
    simp only [Option.bind_some]
    rw [rd_rowL z f j (by omega), w64n j (by omega), ih, w64s hob.1 hob.2 hfb.1 hfb.2]
    by_cases c1 : ofL word N s fr j = -1
    · rw [if_pos c1, if_pos c1]
    · rw [if_neg c1, if_neg c1, if_pos (by omega)]
      by_cases c2 : f j = -1
      · rw [if_pos c2, if_pos c2]
      · rw [if_neg c2, if_neg c2]
        by_cases c3 : ofL word N s fr j + f j = nodes
        · rw [if_pos c3, if_pos c3]
        · rw [if_neg c3, if_neg c3]

theorem end_at (h : TabAt t w0 W g v N) {L n : Nat} (hD : Dim L n N) (hw : t.word.length = L) (hL : L ≤ 900) (s : Int) (hs : s < n) (hs0 : -1000000 ≤ s) (fr z : Nat) (hz : z ≤ L) (hf : fr ≤ z) (nodes : Int) (f : Nat → Int) (hb : ∀ j, j ≤ z → -1 ≤ f j ∧ f j ≤ top40)
    {A4 : Option Addr} {c4 : Nat} (hr : Kd.C (Kd.int .i64) W A4 (z + 1) ((List.range (z + 1)).map f)) (hc : z + 1 ≤ c4) (hne : ∀ ad, A4 = some ad → ad.block ≠ g) :
    Calls Try.prog 29 #[.pointer (some ⟨g, 0, none⟩), .int .i64 s, .int .i64 fr, .int .i64 nodes, .slice A4 (z + 1) c4] W fun e w' =>
      e = .returned (.int .i64 ((endL t.word N s fr nodes f (z + 1 - fr) fr : Nat) : Int)) ∧ Below W.heap.size W w' := by
  have hl := end_l0 hD t.s t.r t.l2 t.l3 t.l4 t.word hw hL s hs hs0 fr z nodes hz hf f hb (z + 1 - fr) fr (by omega)
  have hll : ((List.range (z + 1)).map f).length = z + 1 := by rw [List.length_map, List.length_range]
  have hc' := least_table_end.calls (z + 1 - fr + 1) g t.s t.r t.l2 t.l3 t.l4 t.word N s fr nodes A4 c4 ((List.range (z + 1)).map f) _ _ _ W W h.is71 (Below.refl _ _) (by rw [hll]; exact hr) (by rw [hll]; exact hc) (fun ad h1 _ => hne ad h1) hl
  rw [hll] at hc'
  exact hc'.mono fun _ _ ⟨he, _, hb, _⟩ => ⟨he, hb⟩
end

/-- Does a production make a symbol's part of so many nodes? -/
def hitL (word : List Int) (N : Tab3) (s : Int) (i j : Nat) (nodes : Int) (x : S39) : Bool := decide (x.f0 = s) && (decide (tl word N j x.f1 i ≠ -1) && decide (tl word N j x.f1 i + 1 = nodes))
def kidsL (f : Int → Nat → Nat → Option S30) (word : List Int) (N : Tab3) (z : Nat) : List Int → Nat → Option (List S30)
  | [], _ => some []
  | s :: r, i => (f s i (endL word N s i (tl word N z (s :: r) i) (tl word N z r) (z + 1 - i) i)).bind fun t =>
      (kidsL f word N z r (endL word N s i (tl word N z (s :: r) i) (tl word N z r) (z + 1 - i) i)).bind fun ks => some (t :: ks)
def treeL (prods : List S39) (word : List Int) (N : Tab3) : Nat → Int → Nat → Nat → Option S30
  | 0, _, _, _ => none
  | k + 1, s, i, j => if s < 0 then some ⟨s, []⟩ else
      match prods.findIdx? (hitL word N s i j (node N s.toNat i j)) with
      | none => some ⟨0, []⟩
      | some p => (kidsL (treeL prods word N k) word N j (rd_T39 prods p).f1 i).bind fun ks => some ⟨p, ks⟩
end Go.Proofs.Ytnkpmogpmcggiaa
