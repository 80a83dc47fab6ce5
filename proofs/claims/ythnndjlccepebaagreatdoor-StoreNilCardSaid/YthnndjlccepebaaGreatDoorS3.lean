/- StoreNil returns true whatever op is handed to it, and the op reads behind the call as it did; conditions: those of the given row (the table crc.halves as the program text lays it). -/
import Derived.Test.YthnndjlccepebaaGreatDoorS5
import Derived.Test.YthnndjlccepebaaGreatDoorCards
import Derived.Test.YthnndjlccepebaaGreatDoorTie
import Derived.SevenTiedAt
set_option linter.unusedVariables false
set_option linter.unusedSimpArgs false
namespace Go.Proofs.YthnndjlccepebaaGreatDoor
open Go
theorem storeNil_card : Rows.StoreNilCardSaid :=
  Claim7.holds_tied_plain_at .later [] [.data] true (true, "ff16e9aaa21e38c0e0e70513c0215ac4d28265e5cd8d15416470a02136f8945b") true
    storeNil_holds (fun _ h => by cases h) (by kernel_rfl) (fun _ h => by cases h) storeNil_row_tie rfl ⟨rfl, rfl⟩ (by kernel_rfl) rfl
    (fun f fn hf hfn => by
      obtain rfl : f = 3 := Option.some.inj ((show Tryz.prog.funcNamed "hachure/hachurelaw36.StoreNil" = some 3 by kernel_rfl).symm.trans hf) |>.symm
      obtain rfl : fn = Tryz.f3 := (Option.some.inj (Tryz.func3.symm.trans hfn)).symm
      exact ⟨by kernel_rfl, fun j t ht => by
        rw [Tryz.params3] at ht
        have h3 : t = 30 := by
          rcases j with _ | j
          · simpa using ht.symm
          · simp at ht
        subst h3
        exact (show Tryz.prog.wantsStandIn 30 = false by kernel_rfl)⟩)
    (by kernel_rfl)
end Go.Proofs.YthnndjlccepebaaGreatDoor
