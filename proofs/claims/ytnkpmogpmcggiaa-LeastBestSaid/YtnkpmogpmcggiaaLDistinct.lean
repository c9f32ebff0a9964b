/- plain.distinct: texts that differ, none of which is empty or too long. -/
import Derived.Test.YtnkpmogpmcggiaaLKinds
import Derived.Maps.OwnOps
import Derived.Maps.Views
import Derived.Lib.Hide
import Derived.StringKeys
import Derived.Maps.OwnSet
set_option linter.unusedVariables false
set_option linter.unusedSimpArgs false
namespace Go.Proofs.Ytnkpmogpmcggiaa
open Go.RowKit Go.Proofs.YtnkpmogpmcggiaaW.PrintWords Go.Proofs.YtnkpmogpmcggiaaW.PrintLast Go.Proofs.YtnkpmogpmcggiaaW.PrintMore

/-- Texts that may be names. -/
def Apart (l : List ByteArray) (most : Int) : Prop := (∀ s ∈ l, s.size ≠ 0 ∧ (s.size : Int) ≤ most) ∧ l.Pairwise (fun a b => a.data.toList ≠ b.data.toList)

def keysOf (l : List ByteArray) (k : Nat) : List Lit := (l.take k).map fun s => .string s.data.toList
def Seen (l : List ByteArray) (k : Nat) : DataW Unit := Maps.setOf (.lit (.bool true)) (keysOf l k)
theorem Seen_zero (l : List ByteArray) : Seen l 0 = .map [] := by simp [Seen, keysOf, Maps.setOf]
theorem Seen_succ (l : List ByteArray) (k : Nat) (hk : k < l.length) : Seen l (k + 1) = (Seen l k).put (.string l[k].data.toList) (.lit (.bool true)) := by
  unfold Seen keysOf
  rw [List.take_add_one, List.map_append, List.getElem?_eq_getElem hk]
  exact Maps.setOf_snoc _ _ _
theorem Seen_new (l : List ByteArray) (most : Int) (ha : Apart l most) (k : Nat) (hk : k < l.length) (z : DataW Unit) : (Seen l k).atKey (.string l[k].data.toList) z = z := by
  refine Maps.atKey_of_not_has ?_ z
  rw [Seen, Maps.has_setOf]
  · rw [List.any_eq_false]
    intro x hx
    obtain ⟨s, hs, rfl⟩ := List.mem_map.1 hx
    obtain ⟨j, hj, rfl⟩ := List.mem_iff_getElem.1 hs
    rw [List.length_take] at hj
    rw [List.getElem_take]
    have := List.pairwise_iff_getElem.1 ha.2 j k (by omega) hk (by omega)
    have h2 := Maps.sameKey_ne (show Lit.string (l[j]'(by omega)).data.toList ≠ .string l[k].data.toList from fun e => this (by injection e))
    rw [h2]
    exact Bool.false_ne_true
  · intro x hx
    obtain ⟨s, hs, rfl⟩ := List.mem_map.1 hx
    exact trivial

theorem plainElem_bool_inv {v : Value} {d : DataW Unit} {ps : List MemPlace} (h : plainElem Try.prog 4 v = some (d, ps)) : ∃ b, v = .bool b ∧ d = .lit (.bool b) := by
  unfold plainElem at h
  rw [Try.underlying4] at h
  split at h
  · rename_i x _
    injection h with h
    injection h with h1 h2
    exact ⟨x, rfl, h1.symm⟩
  · rename_i e; cases e
  · rename_i e; cases e
  · cases h

set_option maxHeartbeats 1000000 in
theorem distinct_true (A : Option Addr) (c : Nat) (l : List ByteArray) (most : Int) (w : World) (hr : Kd.C Kd.string w A l.length l) (hm : most ≤ 65536) (ha : Apart l most) (hl : l.length ≤ 1000) :
    Calls Try.prog 30 #[.slice A l.length c, .int .i64 most] w fun e w' => e = .returned (.bool true) ∧ Below w.heap.size w w' := by
  have K : Maps.Keyed Try.prog 9 := Maps.string_keyed Try.underlying9
  have hmm := @run_makeMap Try.prog
  have HR := Lib.hid hr
  have HAp := Lib.hid ha
  clear hr ha
  go_enter Try.func30, Try.ntmps30
  go_wp2
  go_loopw [11] (fun i wr => ∃ k : Nat, k ≤ l.length ∧ i = .int .i64 k ∧ wr.ownsMap Try.prog 9 (plainElem Try.prog 4) w.heap.size k (Seen l k) ∧ Below w.heap.size w wr)
    (fun i _ => l.length - (intOf i).toNat)
  case atStart => exact ⟨0, Nat.zero_le _, rfl, by rw [Seen_zero]; exact World.ownsMap_made _ _ _ _, (Below.refl _ _).alloc (Nat.le_refl _) _⟩
  case round =>
    obtain ⟨k, hk, rfl, hown, hnx⟩ := hrel
    have HB := Lib.hid hnx
    by_cases hlt : k < l.length
    · obtain ⟨ad, rfl, hx⟩ := Kd.at_string (Kd.C_below HR.out hnx) (k : Int) (by omega) (by omega)
      have hs : rdOf ByteArray.empty l (k : Int) = l[k] := by
        unfold rdOf
        simp [List.getD_eq_getElem?_getD, List.getElem?_eq_getElem hlt]
      rw [hs, Int.toNat_natCast] at hx
      obtain ⟨h0, h1⟩ := HAp.out.1 l[k] (List.getElem_mem hlt)
      have HS := Lib.hid (Seen_succ l k hlt)
      have hkey : keyOf Try.prog 9 (.string l[k]) = some (.string l[k].data.toList) := WideMaps.keyOf_string_mk Try.underlying9 (by unfold maxLen; omega)
      obtain ⟨v, ps, hrun, hv⟩ := hown.lookup K Try.underlying86 (Try.zeroValue4 wr) (plainElem_bool Try.underlying4 false) hkey
      rw [Seen_new l most HAp.out k hlt] at hv
      obtain ⟨b, rfl, hb⟩ := plainElem_bool_inv hv
      obtain rfl : b = false := by injection hb with hb; injection hb with hb; exact hb.symm
      have he : l[k].toList.isEmpty = false := by
        rw [ByteArray.toList_eq, List.isEmpty_eq_false_iff]
        intro e
        exact h0 (by rw [← ByteArray.size_data, ← Array.length_toList, e]; rfl)
      generalize l[k] = s at *
      clear hnx hv hb hs
      go_wp2_with (at_mapUpdate; refine wpList_mapUpdate_own _ rfl _ _ _ 86 rfl 9 4 K Try.underlying86 (plainElem (H := Unit) Try.prog 4) w.heap.size k _ rfl hown (by unfold maxLen; omega) _ _ _ rfl rfl hkey _ [] (plainElem_bool Try.underlying4 true) ?_; intro w1 hown1 hgrow1)
      go_roundw
      case rel => exact ⟨k + 1, by omega, by go_num, HS.out.symm ▸ hown1, HB.out.grown hgrow1 HB.out.size (fun j hj => by cases hj; exact Nat.le_refl _)⟩
      case measure => simp [intOf]; omega
    · obtain rfl : k = l.length := by omega
      go_wp2
      go_ret
      exact ⟨rfl, HB.out⟩
end Go.Proofs.Ytnkpmogpmcggiaa
