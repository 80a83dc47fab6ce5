/- The closed facts of the row. -/
import Derived.Test.YthnndjlccepebaaGreatDoorS1
import Derived.Test.YthnndjlccepebaaGreatDoorRows
import Derived.JoinedOf
import Derived.ProofKit
set_option linter.unusedVariables false
set_option linter.unusedSimpArgs false
namespace Go.Proofs.YthnndjlccepebaaGreatDoor
open Go.ChangeShapes Go.WideShapes Go.ChangeAt Go.RowKit
theorem funcNamed3 : Tryz.prog.funcNamed "hachure/hachurelaw36.StoreNil" = some 3 := by kernel_rfl
theorem fInPlace : (Rows.storeNilRow.inPlace == Tryz.prog.inPlace 3) = true := by kernel_rfl
theorem fUnfollowed : (Rows.storeNilRow.unfollowed == Tryz.prog.unfollowed 3) = true := by kernel_rfl
theorem fRecurses : (Rows.storeNilRow.recurses == Tryz.prog.recurses 3) = true := by kernel_rfl
theorem fNamed : (Rows.storeNilRow.named == Tryz.prog.varsNamed 3) = true := by kernel_rfl
theorem facts3 : joinedFacts Tryz.prog 3 Tryz.f3 Rows.storeNilSpec Rows.storeNilRow = true := by
  unfold joinedFacts
  simp only [Bool.and_eq_true]
  repeat' apply And.intro
  all_goals first
    | with_reducible exact fInPlace
    | with_reducible exact fUnfollowed
    | with_reducible exact fRecurses
    | with_reducible exact fNamed
    | kernel_rfl
end Go.Proofs.YthnndjlccepebaaGreatDoor
