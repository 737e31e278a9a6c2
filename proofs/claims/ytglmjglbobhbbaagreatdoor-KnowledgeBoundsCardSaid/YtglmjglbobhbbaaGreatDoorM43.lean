/- Texts P11, joined. -/
import Derived.Test.YtglmjglbobhbbaaGreatDoorM41
import Derived.Test.YtglmjglbobhbbaaGreatDoorM42
namespace Go.Proofs.YtglmjglbobhbbaaGreatDoor
open _root_.Go.Proofs.Tryz
open Go.Ab
attribute [local irreducible] Go.Ab.tyAV Go.Ab.aw Go.Ab.aops Go.Ab.kReg Go.Ab.aThen Go.Ab.aBlk Go.Ab.acond Go.Ab.aguard Go.Ab.astep Go.Ab.AStepX Go.Ab.aRet
attribute [local irreducible] yE
theorem zaR (l:List Pa) (_hl:l.length≤1000000) (k:Nat):
  ACall prog 54 [.slice none (l.map zG)] k [] (.clip (l.map zG)) []:=by
 refine Bd func54 ntmps54 fun σ N hp hpn hk hkn hfree=>?_
 exact W0
def zDiAV:AV:=.agg [.nils,.nils,zd zeroTag]
@[go_sem] theorem zu5 (f:Nat→Option Nat):zDiAV.ren f=zDiAV:=by unfold zDiAV;simp [AV.ren,AV.renl,xR]
@[go_sem] theorem zxI (f:Nat→Option Nat) (n:Nat):AV.renl f (List.replicate n zDiAV)=List.replicate n zDiAV:=by
 rw [AV.renl_map,List.map_replicate,zu5]
def PaC (p:Pa):Prop:=p.cavs.length≤100000∧∀ c∈p.cavs,wY c
section
variable [W:W32]
end
end Go.Proofs.YtglmjglbobhbbaaGreatDoor
