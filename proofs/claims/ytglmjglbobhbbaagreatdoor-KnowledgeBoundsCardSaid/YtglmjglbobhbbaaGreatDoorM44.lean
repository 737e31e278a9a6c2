/- Texts W9, joined. -/
import Derived.Test.YtglmjglbobhbbaaGreatDoorM35
namespace Go.Proofs.YtglmjglbobhbbaaGreatDoor
open Go.Ab
attribute [local irreducible] Go.Ab.tyAV Go.Ab.aw Go.Ab.aops Go.Ab.kReg Go.Ab.aThen Go.Ab.aBlk Go.Ab.acond Go.Ab.aguard Go.Ab.astep Go.Ab.AStepX Go.Ab.aRet
attribute [local irreducible] yE
section
variable [W:W32]
end
end Go.Proofs.YtglmjglbobhbbaaGreatDoor
