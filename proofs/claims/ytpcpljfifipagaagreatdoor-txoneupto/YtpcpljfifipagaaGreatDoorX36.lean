/- A part of the proof: the engine that walks Go code, the walks of the broker, or their laws (Vg). -/
import Derived.Test.YtpcpljfifipagaaGreatDoorX35
import Derived.Test.YtpcpljfifipagaaGreatDoorX14
set_option linter.unusedSimpArgs false
set_option linter.unusedVariables false
namespace Go.Proofs.YtpcpljfifipagaaGreatDoor.txOne
set_option maxRecDepth 100000 in
theorem closed : joinedFacts Tryz.prog 9 Tryz.f9 (Rows.OpenSpec.upto Rows.txOneSpec).bare Rows.txOneUptoRow = true := by
  unfold joinedFacts
  refine band (band (band (band (band (band (band (band (band (band (band (band (band (band (band (band (band (band (band (band (band (band (band (band (band (band (band (band (band (band (band (?_) ?_) ?_) ?_) ?_) ?_) ?_) ?_) ?_) ?_) ?_) ?_) ?_) ?_) ?_) ?_) ?_) ?_) ?_) ?_) ?_) ?_) ?_) ?_) ?_) ?_) ?_) ?_) ?_) ?_) ?_) ?_
  · exact k0
  · exact k1
  · exact k2
  · exact k3
  · exact k4
  · exact k5
  · exact k6
  · exact k7
  · exact k8
  · exact k9
  · exact k10
  · exact k11
  · exact k12
  · exact k13
  · exact k14
  · exact k15
  · exact k16
  · exact k17
  · exact k18
  · exact k19
  · exact k20
  · exact k21
  · exact k22
  · exact k23
  · exact k24
  · exact k25
  · exact k26
  · exact k27
  · exact k28
  · exact k29
  · exact k30
  · exact k31
end Go.Proofs.YtpcpljfifipagaaGreatDoor.txOne
