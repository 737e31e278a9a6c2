/- Texts O6, joined. -/
import Derived.Test.YtglmjglbobhbbaaGreatDoorM29
namespace Go.Proofs.YtglmjglbobhbbaaGreatDoor
open Go.Ab
attribute [local irreducible] Go.Ab.tyAV Go.Ab.aw Go.Ab.aops Go.Ab.kReg Go.Ab.aThen Go.Ab.aBlk Go.Ab.acond Go.Ab.aguard Go.Ab.astep Go.Ab.AStepX Go.Ab.aRet
end Go.Proofs.YtglmjglbobhbbaaGreatDoor
