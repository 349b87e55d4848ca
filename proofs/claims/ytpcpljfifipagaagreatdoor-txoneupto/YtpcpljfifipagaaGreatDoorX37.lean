/- TxOne of trivetlaw12 answers true for every list of operations and every operation, and leaves its arguments as they were. Condition: what the arguments hold is of bulk at most 1048576 (the second form of the statement). -/
import Derived.Test.YtpcpljfifipagaaGreatDoorX34
import Derived.Test.YtpcpljfifipagaaGreatDoorX36
import Derived.Test.YtpcpljfifipagaaGreatDoorCards
import Derived.Test.YtpcpljfifipagaaGreatDoorTie
import Derived.Test.YtpcpljfifipagaaGreatDoorX14
set_option linter.unusedSimpArgs false
set_option linter.unusedVariables false
namespace Go.Proofs.YtpcpljfifipagaaGreatDoor.txOne
open Go.Eng Go.Tv Go.ChangeShapes Go.WideShapes Go.ChangeAt Go.RowKit
theorem saidUpto : Rows.TxOneUptoSaid :=
  OpenClaim.holds_of_cond 9 Tryz.f9 rfl rfl rfl rfl rfl rfl rfl ⟨rfl, rfl, rfl, rfl, rfl⟩ rfl rfl rfl rfl rfl named Tryz.func9 closed inst wrap
    (fun os started H enc _ F => by rw [OpenClaim.pre_eq_preRow]; exact lifted os started H enc F)
theorem cardUpto : Rows.TxOneUptoCardSaid :=
  Claim7.holds_tied_plain_at .later [] _ _ _ _ saidUpto (fun _ h => by cases h) (by kernel_rfl) (fun _ h => by cases h) txOneUpto_row_tie rfl ⟨rfl, rfl⟩ (by kernel_rfl) rfl plain (by kernel_rfl)
end Go.Proofs.YtpcpljfifipagaaGreatDoor.txOne
