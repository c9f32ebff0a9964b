/- Nodes and Tree of a sound grammar and a word of its terminals, as contracts with a plain answer. -/
import Derived.Test.YtnkpmogpmcggiaaLTop
set_option linter.unusedVariables false
set_option linter.unusedSimpArgs false
namespace Go.Proofs.Ytnkpmogpmcggiaa
open Go.RowKit Go.Proofs.YtnkpmogpmcggiaaW.PrintWords Go.Proofs.YtnkpmogpmcggiaaW.PrintLast Go.Proofs.YtnkpmogpmcggiaaW.PrintMore

/-- A sound grammar with its start, and a word of its terminals. -/
structure RightL (s r : Int) (l2 l3 : List ByteArray) (l4 : List S39) (word : List Int) : Prop where
  sound : SoundL r l2 l3 l4
  s0 : 0 ≤ s
  s1 : s < l2.length
  len : word.length ≤ 64
  terms : word.any (termOut l3.length) = false
theorem RightL.over {s r : Int} {l2 l3 : List ByteArray} {l4 : List S39} {word : List Int} (h : RightL s r l2 l3 l4 word) : Over l2.length l4 := by
  intro x hx
  obtain ⟨h0, h1, h2, h3⟩ := h.sound.left x hx
  refine ⟨h0, h1, h2, fun q hq => ?_⟩
  have h4 : symOut l2.length l3.length q = false := by
    cases e : symOut l2.length l3.length q with
    | false => rfl
    | true =>
      have : x.f1.any (symOut l2.length l3.length) = true := List.any_eq_true.2 ⟨q, hq, e⟩
      rw [this] at h3
      cases h3
  have h5 := h.sound.t2
  unfold symOut at h4
  rw [Bool.or_eq_false_iff] at h4
  have h6 := of_decide_eq_false h4.1
  have h7 := of_decide_eq_false h4.2
  omega

open Classical in
noncomputable def least_Nodes.f (a0_0 : Int) (a0_1 : Int) (l0_2 : List ByteArray) (l0_3 : List ByteArray) (l0_4 : List (S39)) (l1 : List Int) : Option (Int) :=
  if RightL a0_0 a0_1 l0_2 l0_3 l0_4 l1 then some (ofL l1 (fillL l0_2.length l0_4 l1) a0_0 0 l1.length) else none
open Classical in
noncomputable def least_Tree.f (a0_0 : Int) (a0_1 : Int) (l0_2 : List ByteArray) (l0_3 : List ByteArray) (l0_4 : List (S39)) (l1 : List Int) : Option (Int × (List (S30)) × Int) :=
  if RightL a0_0 a0_1 l0_2 l0_3 l0_4 l1 then
    (if ofL l1 (fillL l0_2.length l0_4 l1) a0_0 0 l1.length = -1 then some (0, [], 10)
     else if ofL l1 (fillL l0_2.length l0_4 l1) a0_0 0 l1.length > 65536 then some (0, [], 6)
     else (treeL l0_4 l1 (fillL l0_2.length l0_4 l1) 70000 a0_0 0 l1.length).bind fun r => some (r.f0, r.f1, 0))
  else none

section
variable {s r : Int} {A2 : Option Addr} {c2 : Nat} {l2 : List ByteArray} {A3 : Option Addr} {c3 : Nat} {l3 : List ByteArray} {A4 : Option Addr} {c4 : Nat} {l4 : List S39} {A1 : Option Addr} {c1 : Nat} {l1 : List Int} {w : World}
theorem right_sound (hR : RightL s r l2 l3 l4 l1) (hr2 : Kd.C Kd.string w A2 l2.length l2) (hr3 : Kd.C Kd.string w A3 l3.length l3) (hr4 : Kd.C k39 w A4 l4.length l4) (hr1 : Kd.C (Kd.int .i64) w A1 l1.length l1) :
    Calls Try.prog 18 #[.agg #[.int .i64 s, .int .i64 r, .slice A2 l2.length c2, .slice A3 l3.length c3, .slice A4 l4.length c4], .slice A1 l1.length c1] w fun e w' => e = .returned (.bool true) ∧ Below w.heap.size w w' := by
  have h := right_calls (start := s) (rules := r) (A2 := A2) (c2 := c2) (l2 := l2) (A3 := A3) (c3 := c3) (l3 := l3) (A4 := A4) (c4 := c4) (l4 := l4) (w := w) true (A1 := A1) (c1 := c1) (l1 := l1) hr3 hr1 (fun W hb =>
    sound_true (Kd.C_below hr2 hb) (Kd.C_below hr3 hb) (Kd.C_below hr4 hb) hR.sound hR.s0 hR.s1)
  have hl := hR.len
  rw [hR.terms, show decide ((l1.length : Int) ≤ 64) = true from decide_eq_true (by omega)] at h
  exact h
theorem least_Nodes.calls (a0_0 : Int) (a0_1 : Int) (A0_2 : Option Addr) (c0_2 : Nat) (l0_2 : List ByteArray) (A0_3 : Option Addr) (c0_3 : Nat) (l0_3 : List ByteArray) (A0_4 : Option Addr) (c0_4 : Nat) (l0_4 : List (S39)) (A1 : Option Addr) (c1 : Nat) (l1 : List Int) (r : Int) (w : World) (hr0_2 : Kd.C Kd.string w A0_2 l0_2.length l0_2) (hc0_2 : l0_2.length ≤ c0_2) (hr0_3 : Kd.C Kd.string w A0_3 l0_3.length l0_3) (hc0_3 : l0_3.length ≤ c0_3) (hr0_4 : Kd.C k39 w A0_4 l0_4.length l0_4) (hc0_4 : l0_4.length ≤ c0_4) (hr1 : Kd.C (Kd.int .i64) w A1 l1.length l1) (hc1 : l1.length ≤ c1) (h : least_Nodes.f a0_0 a0_1 l0_2 l0_3 l0_4 l1 = some r) :
    Calls Try.prog 10 #[.agg #[.int .i64 a0_0, .int .i64 a0_1, .slice A0_2 l0_2.length c0_2, .slice A0_3 l0_3.length c0_3, .slice A0_4 l0_4.length c0_4], .slice A1 l1.length c1] w fun e w' => e = .returned (.int .i64 r) ∧ Below w.heap.size w w' := by
  unfold least_Nodes.f at h
  split at h
  · rename_i hR
    obtain rfl := Option.some.inj h
    have hl := hR.len
    have hn := hR.sound.n2
    have X := nodes_calls ⟨a0_0, a0_1, A0_2, c0_2, l0_2, A0_3, c0_3, l0_3, A0_4, c0_4, l0_4, A1, c1, l1⟩ w ⟨hr0_2, hr0_3, hr0_4, hr1⟩ ⟨hc0_2, hc0_3, hc0_4, hc1, by show l1.length ≤ 900; omega, by show l0_2.length ≤ 1000; omega⟩ true (fun _ => ⟨hR.over, hR.s0, hR.s1⟩)
      (fun W hb => right_sound hR (Kd.C_below hr0_2 hb) (Kd.C_below hr0_3 hb) (Kd.C_below hr0_4 hb) (Kd.C_below hr1 hb))
    exact X
  · cases h
theorem least_Tree.calls (a0_0 : Int) (a0_1 : Int) (A0_2 : Option Addr) (c0_2 : Nat) (l0_2 : List ByteArray) (A0_3 : Option Addr) (c0_3 : Nat) (l0_3 : List ByteArray) (A0_4 : Option Addr) (c0_4 : Nat) (l0_4 : List (S39)) (A1 : Option Addr) (c1 : Nat) (l1 : List Int) (r1 : Int) (r2 : List (S30)) (r3 : Int) (w : World) (hr0_2 : Kd.C Kd.string w A0_2 l0_2.length l0_2) (hc0_2 : l0_2.length ≤ c0_2) (hr0_3 : Kd.C Kd.string w A0_3 l0_3.length l0_3) (hc0_3 : l0_3.length ≤ c0_3) (hr0_4 : Kd.C k39 w A0_4 l0_4.length l0_4) (hc0_4 : l0_4.length ≤ c0_4) (hr1 : Kd.C (Kd.int .i64) w A1 l1.length l1) (hc1 : l1.length ≤ c1) (h : least_Tree.f a0_0 a0_1 l0_2 l0_3 l0_4 l1 = some (r1, r2, r3)) :
    Calls Try.prog 9 #[.agg #[.int .i64 a0_0, .int .i64 a0_1, .slice A0_2 l0_2.length c0_2, .slice A0_3 l0_3.length c0_3, .slice A0_4 l0_4.length c0_4], .slice A1 l1.length c1] w fun e w' => ∃ v1_ : Value, e = .returned (.tuple #[.agg #[.int .i64 r1, v1_], .int .i64 r3]) ∧ Kd.R k30 30 w' w.heap.size (fun _ => True) v1_ r2 ∧ Below w.heap.size w w' := by
  unfold least_Tree.f at h
  split at h
  · rename_i hR
    have hl := hR.len
    have hn := hR.sound.n2
    have X := top_calls ⟨a0_0, a0_1, A0_2, c0_2, l0_2, A0_3, c0_3, l0_3, A0_4, c0_4, l0_4, A1, c1, l1⟩ w ⟨hr0_2, hr0_3, hr0_4, hr1⟩ ⟨hc0_2, hc0_3, hc0_4, hc1, by show l1.length ≤ 900; omega, by show l0_2.length ≤ 1000; omega⟩ true (fun _ => ⟨hR.over, hR.s0, hR.s1⟩)
      (fun W hb => right_sound hR (Kd.C_below hr0_2 hb) (Kd.C_below hr0_3 hb) (Kd.C_below hr0_4 hb) (Kd.C_below hr1 hb)) 70000 ⟨r1, r2⟩ r3 (by
        unfold topL
        simp only [if_true]
        split at h
        · rename_i e
          rw [if_pos e]
          simp only [Option.some.injEq, Prod.mk.injEq] at h
          obtain ⟨rfl, rfl, rfl⟩ := h
          rfl
        · rename_i e
          rw [if_neg e]
          split at h
          · rename_i e2
            rw [if_pos e2]
            simp only [Option.some.injEq, Prod.mk.injEq] at h
            obtain ⟨rfl, rfl, rfl⟩ := h
            rfl
          · rename_i e2
            rw [if_neg e2]
            cases ht : treeL l0_4 l1 (fillL l0_2.length l0_4 l1) 70000 a0_0 0 l1.length with
            | none => rw [ht] at h; cases h
            | some t =>
              rw [ht] at h
              obtain ⟨t0, t1⟩ := t
              simp only [Option.bind_some, Option.some.injEq, Prod.mk.injEq] at h
              obtain ⟨rfl, rfl, rfl⟩ := h
              rfl)
    exact X.mono fun _ _ ⟨A, c, he, hRr, hb⟩ => ⟨_, he, hRr, hb⟩
  · cases h
end
end Go.Proofs.Ytnkpmogpmcggiaa
