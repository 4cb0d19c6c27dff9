/- Closed facts of the row of 'lockkeeperlaw30.CalmBounds', one theorem each (the kernel gives its memory back behind each). -/
import Derived.Test.YtkadikbajkjmaaaGreatDoorCards
import Derived.Test.YtkadikbajkjmaaaGreatDoorFrame
import Derived.JoinedOf
import Derived.SevenTiedAt
namespace Go.Proofs.YtkadikbajkjmaaaGreatDoor.calmBounds
open Go

theorem j1 : Rows.calmBoundsRow.wf (OpenSpec.ofChange Rows.calmBoundsSpec) = true := by kernel_rfl
theorem j2 : laidOutB Tryz.prog = true := by kernel_rfl
theorem j3 : mapsRowed Tryz.prog = true := by kernel_rfl
theorem j5 : namedTie Tryz.prog Rows.calmBoundsRow.named Rows.calmBoundsSpec.vars = true := by kernel_rfl
theorem j10 : (Rows.calmBoundsRow.inPlace == Tryz.prog.inPlace 3) = true := by kernel_rfl
theorem j11 : (Rows.calmBoundsRow.unfollowed == Tryz.prog.unfollowed 3) = true := by kernel_rfl
theorem j12 : (Rows.calmBoundsRow.recurses == Tryz.prog.recurses 3) = true := by kernel_rfl
theorem j13 : (Rows.calmBoundsRow.named == Tryz.prog.varsNamed 3) = true := by kernel_rfl
theorem j23 : (Rows.calmBoundsRow.plainKeys == Tryz.prog.plainKeys) = true := by kernel_rfl
theorem j24 : Tryz.prog.stopsHeard = true := by kernel_rfl
theorem j25 : Tryz.prog.mayEnter = true := by kernel_rfl
theorem j26 : (Rows.calmBoundsRow.lifted == Tryz.prog.liftsFinal) = true := by kernel_rfl
theorem j27 : (Tryz.prog.make == some Rows.calmBoundsRow.make) = true := by kernel_rfl
theorem closed : joinedFacts Tryz.prog 3 Tryz.f3 Rows.calmBoundsSpec Rows.calmBoundsRow = true := by
  unfold joinedFacts
  rw [j1, j2, j3, j5, j10, j11, j12, j13, j23, j24, j25, j26, j27]
  kernel_rfl
theorem main : Tryz.pinned.checked.prog.mainIs = some (Rows.calmBoundsCard.stood.harness.1, Rows.calmBoundsCard.stood.harness.2.toList) := by kernel_rfl
theorem goesNo : Tryz.prog.funcs.any Func.goes = false := by kernel_rfl
theorem goes : false = Rows.calmBoundsRow.goesBy Tryz.pinned.checked.prog := Lk.goesBy_none rfl goesNo
theorem wfText : Rows.calmBoundsRow.wfByText (OpenSpec.ofChange Rows.calmBoundsSpec) = true := by kernel_rfl
theorem looks : false = Tryz.pinned.checked.prog.looks [] := by kernel_rfl
end Go.Proofs.YtkadikbajkjmaaaGreatDoor.calmBounds
