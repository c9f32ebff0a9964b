/-
  No cell of these rows narrows 'for every input' (looked for: loops, veiled, ifaces, maps, wideKeys, modest, calm, conditions, laid).
  DERIVED. THE GIVEN ROWS OF THIS SEAT. 4 by the template 'for every input the law returns true; each argument reads behind the call as it read before'; 0 by the template 'total and deterministic' (their statements: YtnkpmogpmcggiaaTotals.lean).
  GIVEN WITH THE SEED: the statements are not yours to turn. If you find one false, say at which input.
  Laid BY PROGRAM, IN A SANDBOX (cutbox-rows.mjs): the forced cells as the released guide's own fill.sh prints them over the translation 9d3d833b21fad396… (all of the seat's roots in one cut). By AI agents, Wed Nov 11 2026. No macro, syntax, notation, axiom, sorry.
-/
import Derived.Test.YtnkpmogpmcggiaaChecked
import GoSem.Claim
import GoSem.ClaimJoined
import GoSem.ClaimMapViews
import Derived.JoinedTies
import Derived.KernelRfl
namespace Go.Proofs.Ytnkpmogpmcggiaa
/- THE CELL 'sum', in the pinned program and in every row, IS THE sha256 OF THE DUMP (.gsa) THAT YtnkpmogpmcggiaaProg.lean LOADS. Nothing in Lean hashes anything: it is a label: what it is worth is what the hold of that sum in a sandbox is worth. -/
noncomputable def Try.pinned : Pinned := { name := "ytnkpmogpmcggiaa", sum := "9d3d833b21fad396030994898dc2ba14013d45d4c776fa997a9acc07d2d5ad78", checked := Try.checked }
namespace Rows
def none {H : Type} : Left H := { results := [], args := [] }

/-- 'primerlaw15.LeastRefuses': WHATEVER THE INPUT: true; the input reads as it did. -/
def leastRefusesSpec : ChangeSpec := { name := "leastRefuses", fn := fun _ => fun
  | [d1, d2, d3] => { results := [.lit (.bool true)], args := [d1, d2, d3] }
  | _ => none }
def leastRefusesRow : OpenClaim := { program := "ytnkpmogpmcggiaa", sum := "9d3d833b21fad396030994898dc2ba14013d45d4c776fa997a9acc07d2d5ad78", func := "primer/primerlaw15.LeastRefuses", spec := "leastRefuses", unfollowed := true, recurses := true, apart := false }
def LeastRefusesSaid : Prop := leastRefusesRow.holds Try.pinned (OpenSpec.ofChange leastRefusesSpec)

/-- ITS FALSE NEIGHBOUR: 'it returns false'. Refute it at one input. -/
def leastRefusesWrong : ChangeSpec := { name := "leastRefuses", fn := fun _ => fun
  | [d1, d2, d3] => { results := [.lit (.bool false)], args := [d1, d2, d3] }
  | _ => none }
def LeastRefusesWrongFalsely : Prop := leastRefusesRow.holds Try.pinned (OpenSpec.ofChange leastRefusesWrong)

/-- 'primerlaw15.LeastGreat': WHATEVER THE INPUT: true; the input reads as it did. -/
def leastGreatSpec : ChangeSpec := { name := "leastGreat", fn := fun _ => fun
  | [d] => { results := [.lit (.bool true)], args := [d] }
  | _ => none }
def leastGreatRow : OpenClaim := { program := "ytnkpmogpmcggiaa", sum := "9d3d833b21fad396030994898dc2ba14013d45d4c776fa997a9acc07d2d5ad78", func := "primer/primerlaw15.LeastGreat", spec := "leastGreat", unfollowed := true, recurses := true, apart := false }
def LeastGreatSaid : Prop := leastGreatRow.holds Try.pinned (OpenSpec.ofChange leastGreatSpec)

/-- ITS FALSE NEIGHBOUR: 'it returns false'. Refute it at one input. -/
def leastGreatWrong : ChangeSpec := { name := "leastGreat", fn := fun _ => fun
  | [d] => { results := [.lit (.bool false)], args := [d] }
  | _ => none }
def LeastGreatWrongFalsely : Prop := leastGreatRow.holds Try.pinned (OpenSpec.ofChange leastGreatWrong)

/-- 'primerlaw15.LeastBest': WHATEVER THE INPUT: true; the input reads as it did. -/
def leastBestSpec : ChangeSpec := { name := "leastBest", fn := fun _ => fun
  | [d1, d2] => { results := [.lit (.bool true)], args := [d1, d2] }
  | _ => none }
def leastBestRow : OpenClaim := { program := "ytnkpmogpmcggiaa", sum := "9d3d833b21fad396030994898dc2ba14013d45d4c776fa997a9acc07d2d5ad78", func := "primer/primerlaw15.LeastBest", spec := "leastBest", unfollowed := true, recurses := true, apart := false }
def LeastBestSaid : Prop := leastBestRow.holds Try.pinned (OpenSpec.ofChange leastBestSpec)

/-- ITS FALSE NEIGHBOUR: 'it returns false'. Refute it at one input. -/
def leastBestWrong : ChangeSpec := { name := "leastBest", fn := fun _ => fun
  | [d1, d2] => { results := [.lit (.bool false)], args := [d1, d2] }
  | _ => none }
def LeastBestWrongFalsely : Prop := leastBestRow.holds Try.pinned (OpenSpec.ofChange leastBestWrong)

/-- 'primerlaw15.LeastYields': WHATEVER THE INPUT: true; the input reads as it did. -/
def leastYieldsSpec : ChangeSpec := { name := "leastYields", fn := fun _ => fun
  | [d1, d2] => { results := [.lit (.bool true)], args := [d1, d2] }
  | _ => none }
def leastYieldsRow : OpenClaim := { program := "ytnkpmogpmcggiaa", sum := "9d3d833b21fad396030994898dc2ba14013d45d4c776fa997a9acc07d2d5ad78", func := "primer/primerlaw15.LeastYields", spec := "leastYields", unfollowed := true, recurses := true, apart := false }
def LeastYieldsSaid : Prop := leastYieldsRow.holds Try.pinned (OpenSpec.ofChange leastYieldsSpec)

/-- ITS FALSE NEIGHBOUR: 'it returns false'. Refute it at one input. -/
def leastYieldsWrong : ChangeSpec := { name := "leastYields", fn := fun _ => fun
  | [d1, d2] => { results := [.lit (.bool false)], args := [d1, d2] }
  | _ => none }
def LeastYieldsWrongFalsely : Prop := leastYieldsRow.holds Try.pinned (OpenSpec.ofChange leastYieldsWrong)

/- THE SECOND FORM. 'bulk': how many values and letters a reading holds, each counted each time it is reached (what is shared counts as often as it is met; a slice's spare places count too). A statement '..UptoSaid' is the law's where the arguments, and the package variables that the reading takes, are together of bulk at most 1048576: NARROWER than '..Said'. Prove '..Said' where nothing that the law and all that it calls make is longer than what came in: it says more and counts as full. Else prove '..UptoSaid'. A law counts once. -/
mutual
def uptoBulk {H : Type} : DataW H → Nat
  | .lit (.string bytes) => bytes.length + 1
  | .lit _ => 1
  | .nil => 1
  | .ptr d => uptoBulk d + 1
  | .slice elems spare => uptoBulkAll elems + uptoBulkAll spare + 1
  | .agg parts => uptoBulkAll parts + 1
  | .iface _ d => uptoBulk d + 1
  | .map entries => uptoBulkEntries entries + 1
  | .held _ => 1
def uptoBulkAll {H : Type} : List (DataW H) → Nat
  | [] => 0
  | d :: r => uptoBulk d + uptoBulkAll r
def uptoBulkEntries {H : Type} : List (Lit × DataW H) → Nat
  | [] => 0
  | x :: r => uptoBulkEntry x + uptoBulkEntries r
def uptoBulkEntry {H : Type} : Lit × DataW H → Nat
  | (.string bytes, d) => bytes.length + uptoBulk d + 1
  | (_, d) => uptoBulk d + 1
 end
def uptoSmall : (H : Type) → List (DataW H) → Bool := fun _ ds => decide (uptoBulkAll ds ≤ 1048576)
def OpenSpec.upto (s : _root_.Go.ChangeSpec) : _root_.Go.OpenSpec := { _root_.Go.OpenSpec.ofChange s with cond := some uptoSmall }

/-- 'primerlaw15.LeastRefuses', WHERE WHAT IT READS IS OF BULK AT MOST 1048576: true; the input reads as it did. -/
def leastRefusesUptoRow : OpenClaim := { program := "ytnkpmogpmcggiaa", sum := "9d3d833b21fad396030994898dc2ba14013d45d4c776fa997a9acc07d2d5ad78", func := "primer/primerlaw15.LeastRefuses", spec := "leastRefuses", unfollowed := true, recurses := true, apart := false, narrowed := true }
def LeastRefusesUptoSaid : Prop := leastRefusesUptoRow.holds Try.pinned (OpenSpec.upto leastRefusesSpec)

/-- 'primerlaw15.LeastGreat', WHERE WHAT IT READS IS OF BULK AT MOST 1048576: true; the input reads as it did. -/
def leastGreatUptoRow : OpenClaim := { program := "ytnkpmogpmcggiaa", sum := "9d3d833b21fad396030994898dc2ba14013d45d4c776fa997a9acc07d2d5ad78", func := "primer/primerlaw15.LeastGreat", spec := "leastGreat", unfollowed := true, recurses := true, apart := false, narrowed := true }
def LeastGreatUptoSaid : Prop := leastGreatUptoRow.holds Try.pinned (OpenSpec.upto leastGreatSpec)

/-- 'primerlaw15.LeastBest', WHERE WHAT IT READS IS OF BULK AT MOST 1048576: true; the input reads as it did. -/
def leastBestUptoRow : OpenClaim := { program := "ytnkpmogpmcggiaa", sum := "9d3d833b21fad396030994898dc2ba14013d45d4c776fa997a9acc07d2d5ad78", func := "primer/primerlaw15.LeastBest", spec := "leastBest", unfollowed := true, recurses := true, apart := false, narrowed := true }
def LeastBestUptoSaid : Prop := leastBestUptoRow.holds Try.pinned (OpenSpec.upto leastBestSpec)

/-- 'primerlaw15.LeastYields', WHERE WHAT IT READS IS OF BULK AT MOST 1048576: true; the input reads as it did. -/
def leastYieldsUptoRow : OpenClaim := { program := "ytnkpmogpmcggiaa", sum := "9d3d833b21fad396030994898dc2ba14013d45d4c776fa997a9acc07d2d5ad78", func := "primer/primerlaw15.LeastYields", spec := "leastYields", unfollowed := true, recurses := true, apart := false, narrowed := true }
def LeastYieldsUptoSaid : Prop := leastYieldsUptoRow.holds Try.pinned (OpenSpec.upto leastYieldsSpec)

end Rows
end Go.Proofs.Ytnkpmogpmcggiaa
