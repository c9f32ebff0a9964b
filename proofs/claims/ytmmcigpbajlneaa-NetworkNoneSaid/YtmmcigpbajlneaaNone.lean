/- NetworkNone: a nil network and an empty one answer as they must, for all numbers. -/
import Derived.Test.YtmmcigpbajlneaaNetSpeaks
set_option linter.unusedVariables false
set_option linter.unusedSimpArgs false
namespace Go.Proofs.Ytmmcigpbajlneaa
open Go.RowKit
set_option maxRecDepth 100000

set_option maxHeartbeats 2000000 in
theorem none_calls (i at_ y : Int) (w : World) : Calls Try.prog 4 #[.int .i64 i, .int .i64 at_, .int .u32 y] w fun e w' => e = .returned (.bool true) ∧ Below w.heap.size w w' := by
  go_enter Try.func4, Try.ntmps4
  go_wp2_with fail
  refine (speaks_calls w).mono ?_
  rintro e w1 ⟨rfl, hb1⟩
  have hN := Lib.hid (netAt_new w1)
  have hB := Lib.hid (hb1.alloc (by have := hb1.size; omega) (.cells #[.slice none 0 0] 26))
  clear hb1
  go_wp2_with fail
  have hl := look_nil i (w1.alloc (.cells #[.slice none 0 0] 26))
  unfold zagg at hl
  refine hl.mono ?_
  clear hl
  rintro e w2 ⟨rfl, hb2⟩
  replace hN := Lib.hid ((hN.out.below hb2).alloc (.cells #[.int .i64 0, .int .i64 0, .string ⟨#[]⟩, .bool false] 35))
  replace hB := Lib.hid ((hB.out.trans (hb2.mono hB.out.size)).alloc (by have := hb2.size; have := hB.out.size; omega) (.cells #[.int .i64 0, .int .i64 0, .string ⟨#[]⟩, .bool false] 35))
  clear hb2
  go_wp2_with fail
  have hl := take_nil i (w2.alloc (.cells #[.int .i64 0, .int .i64 0, .string ⟨#[]⟩, .bool false] 35))
  unfold zagg at hl
  refine hl.mono ?_
  clear hl
  rintro e w3 ⟨rfl, hb2⟩
  replace hN := Lib.hid ((hN.out.below hb2).alloc (.cells #[.int .i64 0, .int .i64 0, .string ⟨#[]⟩, .bool false] 35))
  replace hB := Lib.hid ((hB.out.trans (hb2.mono hB.out.size)).alloc (by have := hb2.size; have := hB.out.size; omega) (.cells #[.int .i64 0, .int .i64 0, .string ⟨#[]⟩, .bool false] 35))
  clear hb2
  go_wp2_with fail
  have hl := look_empty i hN.out
  unfold zagg at hl
  refine hl.mono ?_
  clear hl
  rintro e w4 ⟨rfl, hb2⟩
  replace hN := Lib.hid ((hN.out.below hb2).alloc (.cells #[.int .i64 0, .int .i64 0, .string ⟨#[]⟩, .bool false] 35))
  replace hB := Lib.hid ((hB.out.trans (hb2.mono hB.out.size)).alloc (by have := hb2.size; have := hB.out.size; omega) (.cells #[.int .i64 0, .int .i64 0, .string ⟨#[]⟩, .bool false] 35))
  clear hb2
  go_wp2_with fail
  have hl := take_empty i hN.out
  unfold zagg at hl
  refine hl.mono ?_
  clear hl
  rintro e w5 ⟨rfl, hb2⟩
  replace hN := Lib.hid ((hN.out.below hb2).alloc (.cells #[.int .i64 0, .int .i64 0, .string ⟨#[]⟩, .bool false] 35))
  replace hB := Lib.hid ((hB.out.trans (hb2.mono hB.out.size)).alloc (by have := hb2.size; have := hB.out.size; omega) (.cells #[.int .i64 0, .int .i64 0, .string ⟨#[]⟩, .bool false] 35))
  clear hb2
  go_wp2_with fail
  refine (count_nil _).mono ?_
  rintro e w6 ⟨rfl, rfl⟩
  go_wp2_with fail
  refine (send_nil _ _ _ _).mono ?_
  rintro e w6 ⟨rfl, rfl⟩
  go_wp2_with fail
  refine (double_nil _ _).mono ?_
  rintro e w6 ⟨rfl, hb2⟩
  replace hN := Lib.hid (hN.out.below hb2)
  replace hB := Lib.hid (hB.out.trans (hb2.mono hB.out.size))
  clear hb2
  go_wp2_with fail
  refine (spoil_nil _ _ _ _).mono ?_
  rintro e w7 ⟨rfl, hb2⟩
  replace hN := Lib.hid (hN.out.below hb2)
  replace hB := Lib.hid (hB.out.trans (hb2.mono hB.out.size))
  clear hb2
  go_wp2_with fail
  refine (double_empty _ hN.out).mono ?_
  rintro e w8 ⟨rfl, hb2⟩
  replace hN := Lib.hid (hN.out.below hb2)
  replace hB := Lib.hid (hB.out.trans (hb2.mono hB.out.size))
  clear hb2
  go_wp2_with fail
  refine (spoil_empty _ _ _ hN.out).mono ?_
  rintro e w9 ⟨rfl, hb2⟩
  replace hN := Lib.hid (hN.out.below hb2)
  replace hB := Lib.hid (hB.out.trans (hb2.mono hB.out.size))
  clear hb2
  go_wp2_with fail
  refine (count_calls hN.out).mono ?_
  rintro e w10 ⟨rfl, rfl⟩
  go_wp2
  go_ret
  exact ⟨rfl, hB.out⟩
end Go.Proofs.Ytmmcigpbajlneaa
