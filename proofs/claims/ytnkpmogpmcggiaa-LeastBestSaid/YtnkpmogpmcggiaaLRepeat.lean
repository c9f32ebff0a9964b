/- slices.Repeat of one number. -/
import Derived.Test.YtnkpmogpmcggiaaLKinds
import Derived.Test.YtnkpmogpmcggiaaShelf
import Derived.Laws.CopyRow
import Derived.Laws.CopyOwn
import Derived.Lib.Hide
import Derived.Deep.RegionLaw
import Derived.Maps.RangeWalk
set_option linter.unusedVariables false
set_option linter.unusedSimpArgs false
namespace Go.Proofs.Ytnkpmogpmcggiaa
open Go.RowKit Go.Proofs.YtnkpmogpmcggiaaW.PrintWords Go.Proofs.YtnkpmogpmcggiaaW.PrintLast Go.Proofs.YtnkpmogpmcggiaaW.PrintMore

def slices_Repeat_int_int.f (l0 : List Int) (a1 : Int) : Option (List Int) :=
  if l0.length = 1 ∧ 1 ≤ a1 ∧ a1 ≤ 1000 then some (List.replicate a1.toNat (rd l0 0)) else none

theorem mul_by_one (m : Nat) (hm : m ≤ 1000) (w : World) : Calls Try.prog 38 #[.int .u64 1, .int .u64 (m : Int)] w fun e w' => e = .returned (.tuple #[.int .u64 0, .int .u64 (m : Int)]) ∧ w = w' := by
  have h := Try.bits_Mul 1 m (by omega) (by omega) w
  rw [show 1 * m / 18446744073709551616 = 0 by omega, show 1 * m % 18446744073709551616 = m by omega] at h
  exact h.mono fun _ _ ⟨he, hw⟩ => ⟨he, hw.symm⟩
/-- A row that is filled up to n. -/
def fillRow (x : Int) (m n : Nat) : List Value := List.replicate n (.int .i64 x) ++ List.replicate (m - n) (.int .i64 0)
theorem fillRow_length (x : Int) (m n : Nat) (h : n ≤ m) : (fillRow x m n).length = m := by simp [fillRow]; omega
theorem made_fill (x : Int) (m : Nat) : (Obj.cells (madeCells #[Value.int .i64 0] m) 3) = .cells (fillRow x m 0).toArray 3 := by
  congr 1
  apply Array.ext'
  apply List.ext_getElem
  · simp [fillRow, madeCells]
  · intro i h1 h2
    simp [fillRow, madeCells, Nat.mod_one]
theorem splice_fill (x : Int) (m n k : Nat) (h : n + k ≤ m) : splice (fillRow x m n) n (List.replicate k (.int .i64 x)) = fillRow x m (n + k) := by
  unfold splice fillRow
  have e1 : (List.replicate n (Value.int .i64 x) ++ List.replicate (m - n) (Value.int .i64 0)).take n = List.replicate n (Value.int .i64 x) := by
    rw [List.take_append_of_le_length (by simp)]; simp
  have e2 : (List.replicate n (Value.int .i64 x) ++ List.replicate (m - n) (Value.int .i64 0)).drop (n + (List.replicate k (Value.int .i64 x)).length) = List.replicate (m - (n + k)) (Value.int .i64 0) := by
    rw [List.length_replicate, List.drop_append]
    simp
    omega
  rw [e1, e2, ← List.append_assoc, List.replicate_append_replicate]
theorem fillRow_at (x : Int) (m n j : Nat) (h : j < n) : (fillRow x m n)[j]? = some (.int .i64 x) := by
  unfold fillRow
  rw [List.getElem?_append_left (by simpa using h)]
  simp [h]

set_option maxHeartbeats 1000000 in
theorem repeat_one (x : Int) (m : Nat) (c0 : Nat) (ad : Addr) (w : World) (h1 : 1 ≤ m) (h2 : m ≤ 1000) (hx : w.cell? ad = some (.int .i64 x)) :
    Calls Try.prog 26 #[.slice (some ad) 1 c0, .int .i64 (m : Int)] w fun e w' => ∃ v0_ : Value, e = .returned (v0_) ∧ Kd.R (Kd.int .i64) 3 w' w.heap.size (fun _ => True) v0_ (List.replicate m x) ∧ Below w.heap.size w w' := by
  have hmk := print_make (P := Try.prog) 34 3 .i64 8 Try.underlying34 info3 (by decide) m (by omega)
  have MUL := Lib.hid (mul_by_one m h2)
  have hadl := World.block_lt_of_cell? w ad hx
  go_enter Try.func26, Try.ntmps26
  go_wp2_with fail
  refine (MUL.out _).mono ?_
  rintro e w' ⟨rfl, rfl⟩
  have hb0 := Lib.hid ((Below.refl w.heap.size w).alloc (Nat.le_refl _) (.cells (madeCells #[Value.int .i64 0] m) 3))
  have hg0 : Hid ((w.alloc (.cells (madeCells #[Value.int .i64 0] m) 3)).heap[w.heap.size]? = some (.cells (fillRow x m 0).toArray 3 (0, 0))) := by
    have h := heap_alloc_new w (.cells (madeCells #[Value.int .i64 0] m) 3)
    rw [made_fill x m] at h ⊢
    exact h
  have hx0 : Hid ((w.alloc (.cells (madeCells #[Value.int .i64 0] m) 3)).cell? ad = some (.int .i64 x)) := (hb0.out.cell hadl).trans hx
  go_wp2_with (refine wpList_copy_splice rfl (.tmp 31) (.tmp 32) 34 34 rfl 3 Try.underlying34 (by kernel_rfl) (some ⟨w.heap.size, 0, none⟩) (some ad) m m 1 c0 rfl rfl w.heap.size 0 (fillRow x m 0) 3 hg0.out (List.replicate 1 (.int .i64 x)) ?c1 ?c2 ?c3 ?c4 w.heap.size w hb0.out (Nat.le_refl _) ?next)
  case c1 => exact (Nat.min_eq_left h1).symm
  case c2 =>
    intro j v hv
    have hj := (List.getElem?_eq_some_iff.1 hv).1
    obtain rfl : j = 0 := by simp at hj; exact hj
    simp at hv
    subst hv
    have := hx0.out
    unfold Addr.add
    simpa using this
  case c3 => rw [fillRow_length x m 0 (by omega)]; simp; omega
  case c4 => intro v hv; obtain rfl := (List.mem_replicate.1 hv).2; rfl
  case next =>
    intro w1 hg1 hb1
    have HG1 : Hid (w1.heap[w.heap.size]? = some (.cells (fillRow x m 1).toArray 3 (0, 0))) := by
      have := hg1.out
      rw [show [Value.int .i64 x] = List.replicate 1 (Value.int .i64 x) from rfl, splice_fill x m 0 1 (by omega)] at this
      exact this
    have HB1 := Lib.hid hb1
    clear hg1 hb1 hg0 hb0 hx0 hmk hx
    go_wp2_with fail
    go_loopw [8] (fun nv wr => ∃ n : Nat, 1 ≤ n ∧ n ≤ m ∧ nv = .int .i64 (n : Int) ∧ Hid (wr.heap[w.heap.size]? = some (.cells (fillRow x m n).toArray 3 (0, 0))) ∧ Hid (Below w.heap.size w wr)) (fun nv _ => m - (intOf nv).toNat)
    case atStart => exact ⟨1, by omega, by omega, rfl, HG1, HB1⟩
    case round =>
      obtain ⟨n, hn1, hn2, rfl, HG, HB⟩ := hrel
      by_cases hlt : n < m
      · have e0 : (0 : Int) ≤ (n : Int) := by omega
        have e1 : (n : Int) ≤ (m : Int) := by omega
        have e2 : n ≤ m := by omega
        have e3 : ¬ m = n := by omega
        have e4 : (0 : Int) ≤ (m : Int) := by omega
        have K1 : Hid ((List.replicate (min n (m - n)) (Value.int .i64 x)).length = Nat.min n (m - n)) := by show _ = _; rw [List.length_replicate]
        have K2 : Hid (∀ j v, (List.replicate (min n (m - n)) (Value.int .i64 x))[j]? = some v → wr.drew.cell? ((⟨w.heap.size, 0, none⟩ : Addr).add j) = some v) := by
          intro j v hv
          have hj := (List.getElem?_eq_some_iff.1 hv).1
          rw [List.length_replicate] at hj
          rw [add_plain, cell_of_row wr.drew w.heap.size j _ 3 (0, 0) HG.out, ← Array.getElem?_toList]
          have := fillRow_at x m n j (by omega)
          have hv' : v = .int .i64 x := by rw [List.getElem?_replicate, if_pos hj] at hv; injection hv with hv; exact hv.symm
          rw [hv']
          simpa using this
        have K3 : Hid (n + (List.replicate (min n (m - n)) (Value.int .i64 x)).length ≤ (fillRow x m n).length) := by show _ ≤ _; rw [fillRow_length x m n hn2, List.length_replicate]; omega
        have K4 : Hid (∀ v ∈ List.replicate (min n (m - n)) (Value.int .i64 x), v.oneCell' = true) := by intro v hv; obtain rfl := (List.mem_replicate.1 hv).2; rfl
        have HB' : Hid (Below w.heap.size w wr.drew) := HB.out.drew
        go_wp2_with fail
        go_region_law (refine step_copy_splice rfl (.tmp 41) (.tmp 44) 34 34 rfl 3 Try.underlying34 (by kernel_rfl) (some ⟨w.heap.size, n, none⟩) (some ⟨w.heap.size, 0, none⟩) (m - n) (m - n) n m (by simp [Act.eval, Act.put, e3]) (by simp [Act.eval, Act.put]) w.heap.size n (fillRow x m n) 3 HG.out (List.replicate (min n (m - n)) (Value.int .i64 x)) K1.out (fun _ => ⟨rfl, _, rfl, K2.out⟩) K3.out K4.out w.heap.size w HB'.out (Nat.le_refl _) ?_; intro w4 hg4 hb4)
        have HG4 : Hid (w4.heap[w.heap.size]? = some (.cells (fillRow x m (n + min n (m - n))).toArray 3 (0, 0))) := by
          have := hg4.out
          rw [splice_fill x m n (min n (m - n)) (by omega)] at this
          exact this
        have HB4 := Lib.hid hb4
        have hle : n + min n (m - n) ≤ m := by omega
        clear hg4 hb4
        have hwr : IntKind.i64.wrap ((n : Int) + ((min n (m - n) : Nat) : Int)) = ((n + min n (m - n) : Nat) : Int) := by rw [IntKind.wrap_i64]; omega
        rw [hwr]
        generalize hnn : n + min n (m - n) = n2 at *
        have hlow : n < n2 := by omega
        clear hwr
        go_frame
        refine ⟨⟨_, _, _, _, _, _, _, _, _, _, _, _, _, _, ⟨n2, by omega, hle, rfl, HG4, HB4⟩, rfl⟩, ?_⟩
        simp [intOf]
        omega
      · obtain rfl : n = m := by omega
        go_wp2_with fail
        go_ret
        have ho : wr.ownsRow w.heap.size 3 1 (.slice (some ⟨w.heap.size, 0, none⟩) n n) (List.replicate n x).length (encs (Value.int .i64) (List.replicate n x)) := by
          refine ⟨by simp [encs], .inr ⟨w.heap.size, n, _, by simp, Nat.le_refl _, HG.out, by simp, by simp only [maxLen]; omega, by simp [fillRow], ?_⟩⟩
          simp [fillRow, encs]
        exact ⟨_, rfl, Kd.R_of_own ho (fun _ _ => trivial), HB.out⟩
theorem slices_Repeat_int_int.calls (A0 : Option Addr) (c0 : Nat) (l0 : List Int) (a1 : Int) (r : List Int) (w : World) (hr0 : Kd.C (Kd.int .i64) w A0 l0.length l0) (hc0 : l0.length ≤ c0) (h : slices_Repeat_int_int.f l0 a1 = some r) :
    Calls Try.prog 26 #[.slice A0 l0.length c0, .int .i64 a1] w fun e w' => ∃ v0_ : Value, e = .returned (v0_) ∧ Kd.R (Kd.int .i64) 3 w' w.heap.size (fun _ => True) v0_ r ∧ Below w.heap.size w w' := by
  unfold slices_Repeat_int_int.f at h
  split at h
  · rename_i hh
    obtain ⟨h1, h2, h3⟩ := hh
    injection h with h
    subst h
    obtain ⟨ad, rfl, hx⟩ := Kd.at_int hr0 0 (by omega) (by omega)
    obtain ⟨m, rfl⟩ := Int.eq_ofNat_of_zero_le (show 0 ≤ a1 by omega)
    rw [h1]
    exact repeat_one (rd l0 0) m c0 ad w (by omega) (by omega) (by simpa [Addr.add] using hx)
  · cases h
end Go.Proofs.Ytnkpmogpmcggiaa
