/- A part of the proof: the engine that walks Go code, the walks of the broker, or their laws (T2). -/
import Derived.Test.YtpcpljfifipagaaGreatDoorX14
import Derived.Test.YtpcpljfifipagaaGreatDoorX09
set_option linter.unusedSimpArgs false
set_option linter.unusedVariables false
set_option maxHeartbeats 8000000
set_option maxRecDepth 20000
namespace Go.Proofs.YtpcpljfifipagaaGreatDoor
open Go.Eng Go.Tv
attribute [local simp] D_24 D_25 D_26 D_27 D_28 D_31 D_33 D_42 D_46 D_50 D_54 D_77 D_85 D_87 D_89
attribute [-simp] List.length_flatMap
def conn (c s : Int) : Bool := decide (0 ≤ c) && decide (c < 8) && decide (0 ≤ s) && decide (s ≤ 1099511627776)
theorem conn_fun (c s : Int) : PFun Tryz.prog 72 [aint c, aint s] (abool (conn c s)) := by
  intro H
  refine PCalls.of_J' D_ok Tryz.func72 rfl (by decide) (le' rfl) fun E QF hF => ?_
  change J _ E 19 _ _ _
  refine J_seq' fun K1 hK1 => ?_
  refine J0 ?_
  simp
  refine hK1 _ ?_
  refine J_bool 4 (conn c s) [] ?_ ?_
  · refine J0 ?_
    simp [conn]
    omega
  refine J_ret (hF _ _ ?_)
  simp [Tryz.f72]
def packet (n : Int) : Bool := decide (1 ≤ n) && decide (n ≤ 65535)
theorem packet_fun (n : Int) : PFun Tryz.prog 82 [aint n] (abool (packet n)) := by
  intro H
  refine PCalls.of_J' D_ok Tryz.func82 rfl (by decide) (le' rfl) fun E QF hF => ?_
  change J _ E 9 _ _ _
  refine J_seq' fun K1 hK1 => ?_
  refine J0 ?_
  simp
  refine hK1 _ ?_
  refine J_bool 2 (packet n) [] ?_ ?_
  · refine J0 ?_
    simp [packet]
    omega
  refine J_ret (hF _ _ ?_)
  simp [Tryz.f82]
theorem clone_Pro (xs : List Pro) (hx : xs.length ≤ 2000000) : PFun Tryz.prog 115 [asl Pro.enc xs] (asl Pro.enc xs) := by
  refine PFun.of_J D_ok Tryz.func115 rfl (by decide) (le' rfl) fun H E QF hF => ?_
  change J _ E 8 _ _ _
  refine J_seq' fun K1 hK1 => J0 ?_
  simp
  refine hK1 _ ?_
  refine J_seq' fun K2 hK2 => J_seq' fun K3 hK3 => J0 ?_
  simp
  refine ⟨hK3 _ ?_, fun he => hK3 _ ?_⟩
  · refine J_cond rfl (fun hc => by cases hc) fun _ => J_skip ?_
    simp only [thenQ]
    refine hK2 _ ?_
    refine J_seq' fun K5 hK5 => J1 7 ?_
    simp [D_85]
    refine ⟨by omega, by omega, hK5 _ (J_ret (hF _ _ ?_))⟩
    simp [Tryz.f115, AV.norm]
  · refine J_cond rfl ?_ (fun hc => by cases hc)
    intro _
    refine J_seq' fun K4 hK4 => J0 ?_
    simp
    refine hK4 _ (J_ret (hF _ _ ?_))
    cases xs with
    | nil => simp [Tryz.f115, AV.norm]
    | cons x xs => exact absurd (he x (by simp)) (by simp [Pro.enc, List.ne_nil_of_length_eq_add_one])
end Go.Proofs.YtpcpljfifipagaaGreatDoor
