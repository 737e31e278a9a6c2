/- Texts I2, joined. -/
import Derived.Test.YtglmjglbobhbbaaGreatDoorM39
namespace Go.Proofs.YtglmjglbobhbbaaGreatDoor
open Go.Ab
attribute [local irreducible] Go.Ab.tyAV Go.Ab.aw Go.Ab.aops Go.Ab.kReg Go.Ab.aThen Go.Ab.aBlk Go.Ab.acond Go.Ab.aguard Go.Ab.astep Go.Ab.AStepX Go.Ab.aRet
attribute [local irreducible] yE
theorem v8 {t:TypeId} {x:AV} (h:zS=.box t x):False:=by unfold zS at h;cases h
theorem v9 {t:TypeId} {n m:Nat} (h:zS=.row t n m):False:=by unfold zS at h;cases h
section
variable [W:W32]
end
end Go.Proofs.YtglmjglbobhbbaaGreatDoor
