/- slices.Delete on a row of frames: one of them is taken out. -/
import Derived.Test.YtmmcigpbajlneaaChecked
import Derived.Test.YtmmcigpbajlneaaBase
import Derived.Deep.QuietTactic
import Derived.BigQuiet
import Derived.StillTailTactics
import Derived.WalkLawsBesides
import Derived.Outline
set_option linter.unusedVariables false
set_option linter.unusedSimpArgs false
namespace Go.Proofs.Ytmmcigpbajlneaa
open Go.RowKit

theorem infoFrame : (Try.prog.info? 35).map (fun i => (i.zero, i.size, i.bytes)) = some (some (.agg #[.int .i64 0, .int .i64 0, .string ⟨#[]⟩, .bool false]), 4, 40) := by kernel_rfl

/-- The four cells of a frame that is none. -/
def zcells : List Value := [.int .i64 0, .int .i64 0, .string ⟨#[]⟩, .bool false]

theorem run_clear4 (w : World) (ty : TypeId) (b o c : Nat)
    (hc : ∀ j, j < 4 → (w.cell? ⟨b, o + j, none⟩).isSome = true) (hf : ∀ j, j < 4 → w.frozen? ⟨b, o + j, none⟩ = false) :
    (Builtin.clear_ #[24] ty #[.slice (some ⟨b, o, none⟩) 1 c]).run Try.prog w = .ok (.tuple #[]) (w.setCells b o zcells) := by
  obtain ⟨i0, hi, hz0, hz1, hz2⟩ := info_parts infoFrame
  have hst := run_storeCells_cells (P := Try.prog) b o zcells 0 w (by simpa [zcells] using hc) (by simpa [zcells] using hf) (by intro v hv'; simp only [zcells, List.mem_cons, List.not_mem_nil, or_false] at hv'; rcases hv' with rfl | rfl | rfl | rfl <;> rfl)
  simp only [Nat.add_zero] at hst
  have hzc : Builtin.zeroCells (Value.agg #[.int .i64 0, .int .i64 0, .string ⟨#[]⟩, .bool false]).cells 1 = zcells.toArray := by kernel_rfl
  have hv : (zeroValue 35).run Try.prog w = .ok (.agg #[.int .i64 0, .int .i64 0, .string ⟨#[]⟩, .bool false]) w := by
    simp [zeroValue, typeInfo, hi, hz0]
  simp [Builtin.clear_, run_underlying Try.underlying24, hv, hzc, hst]

set_option maxHeartbeats 1600000 in
set_option maxRecDepth 1000000 in
theorem delete_walk (b n cap i : Nat) (cur : Array Value) (w : World) (hi : i < n) (hl : n ≤ cap) (hm : cap ≤ 9223372036854775807) (hz : cur.size = cap * 4)
    (hb : w.heap[b]? = some (.cells cur 35 (0, 0))) (moved : List Value) (hmv : Hid (moved = (cur.toList.take (n * 4)).drop ((i + 1) * 4))) (hone : Hid (∀ u ∈ moved, u.oneCell' = true)) :
    Calls Try.prog 15 #[.slice (some ⟨b, 0, none⟩) n cap, .int .i64 i, .int .i64 (i + 1)] w fun e w' => e = .returned (.slice (some ⟨b, 0, none⟩) (i + (n - (i + 1))) cap) ∧
      w' = (w.drew.setCells b (i * 4) moved).setCells b ((i + (n - (i + 1))) * 4) zcells := by
  obtain ⟨i0, hi0, hz0, hz1, hz2⟩ := info_parts infoFrame
  have hcell : ∀ j, w.cell? ⟨b, j, none⟩ = cur[j]? := cells_cell hb
  have hfr : ∀ j, w.frozen? ⟨b, j, none⟩ = false := cells_frozen hb
  have hml : moved.length = (n - (i + 1)) * 4 := by rw [hmv.out]; simp; omega
  have hmg : ∀ j, j < (n - (i + 1)) * 4 → moved[j]? = cur[(i + 1) * 4 + j]? := by
    intro j hj
    rw [hmv.out, List.getElem?_drop, List.getElem?_take, if_pos (by omega)]
    simp
  obtain ⟨A, hA, hnews⟩ : ∃ A : Addr, (if cap = i + 1 then some (⟨b, 0, none⟩ : Addr) else some ⟨b, (i + 1) * 4, none⟩) = some A ∧ Hid (∀ j u, moved[j]? = some u → w.drew.cell? (A.add j) = some u) := by
    by_cases h : cap = i + 1
    · refine ⟨⟨b, 0, none⟩, by simp [h], fun j u hu => ?_⟩
      have h0 : moved.length = 0 := by rw [hml]; omega
      rw [List.length_eq_zero_iff.1 h0] at hu
      simp at hu
    · refine ⟨⟨b, (i + 1) * 4, none⟩, by simp [h], fun j u hu => ?_⟩
      have hj : j < (n - (i + 1)) * 4 := by
        have := (List.getElem?_eq_some_iff.1 hu).1
        rwa [hml] at this
      rw [hmg j hj] at hu
      rw [Addr.add_lit]
      exact (hcell _).trans hu
  have s1 : Hid (moved.length = (n - (i + 1)) * 4) := hml
  have s3 : Hid (∀ j, j < moved.length → (w.drew.cell? ⟨b, 0 + i * 4 + j, none⟩).isSome = true ∧ w.drew.frozen? ⟨b, 0 + i * 4 + j, none⟩ = false) := by
    intro j hj
    rw [hml] at hj
    refine ⟨?_, hfr _⟩
    show (w.cell? _).isSome = true
    rw [hcell]
    simp
    omega
  have hwr : IntKind.i64.wrap ((i : Int) + 1) = (i : Int) + 1 := by rw [IntKind.wrap_i64]; omega
  have hp0 : (0 : Int) ≤ (i : Int) + 1 := by omega
  have hp1 : (i : Int) + 1 ≤ (n : Int) := by omega
  have hp2 : ((i : Int) + 1).toNat = i + 1 := by omega
  have hne : ((i : Int) == (i : Int) + 1) = false := by rw [beq_eq_false_iff_ne]; omega
  have hic : i ≤ cap := by omega
  have hcl : Sem.run Try.prog (Builtin.clear_ #[24] 0 #[Value.slice (some ⟨b, (i + (n - (i + 1))) * 4, none⟩) (n - (i + (n - (i + 1)))) (cap - (i + (n - (i + 1))))]) (w.drew.setCells b (i * 4) moved) =
      .ok (.tuple #[]) ((w.drew.setCells b (i * 4) moved).setCells b ((i + (n - (i + 1))) * 4) zcells) := by
    rw [show n - (i + (n - (i + 1))) = 1 by omega]
    obtain ⟨cur', h1, h2⟩ := heap_setCells b moved (i * 4) w.drew cur hb (by rw [hml]; omega)
    refine run_clear4 _ _ _ _ _ (fun j hj => ?_) (fun j hj => cells_frozen h1 _)
    rw [cells_cell h1, ← Array.getElem?_toList, h2]
    simp [hml]
    omega
  clear hb hcell hfr hml hmg
  go_enter Try.func15, Try.ntmps15
  go_wp2_with fail
  go_region_law (refine step_append_room rfl (.tmp 22) (.tmp 25) 24 rfl 35 i0 4 Try.underlying24 hi0 hz1 b 0 i cap (by simp [Act.eval, Act.put]) A (n - (i + 1)) (cap - (i + 1)) moved (by simp [Act.eval, Act.put]) s1.out hnews.out hone.out (by omega) s3.out ?_)
  go_wp2
  go_ret
  exact ⟨rfl, rfl⟩
end Go.Proofs.Ytmmcigpbajlneaa
