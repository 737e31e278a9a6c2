/- Texts P9, P10, joined. -/
import Derived.Test.YtglmjglbobhbbaaGreatDoorM40
namespace Go.Proofs.YtglmjglbobhbbaaGreatDoor
open Go.Ab
attribute [local irreducible] Go.Ab.tyAV Go.Ab.aw Go.Ab.aops Go.Ab.kReg Go.Ab.aThen Go.Ab.aBlk Go.Ab.acond Go.Ab.aguard Go.Ab.astep Go.Ab.AStepX Go.Ab.aRet
structure Kn where
 ps:List Pa
 ds:List Di
 bs:List Bu
 its:List It
def xT (k:Kn):AV:=.agg [.slice none (k.ps.map zG),.slice none (k.ds.map zw),.slice none (k.bs.map ye),.slice none (k.its.map xm)]
@[go_sem] theorem zyo (k:Kn):(xT k).sz=4:=by simp only [xT,AV.sz,AV.szl]
@[go_sem] theorem zvu (k:Kn):(xT k).isAgg=true:=rfl
@[go_sem] theorem zwq (k:Kn):(xT k).cell=true:=by simp only [xT,AV.cell,AV.celll,Bool.and_self]
@[go_sem] theorem zxB (f:Nat→Option Nat) (k:Kn):(xT k).ren f=xT k:=by simp only [xT,AV.ren,AV.renl,Option.bind_none,zgY,ze0,ztc,zte]
structure BuC (b:Bu):Prop where
 cl:b.cavs.length≤100000
 cs:∀ c∈b.cavs,wY c
 dl:b.dis.length≤100000
 ds:∀ d∈b.dis,WdT d.ticket d.conds
structure KnC (k:Kn):Prop where
 pl:k.ps.length≤100000
 pc:∀ p∈k.ps,p.cavs.length≤100000∧∀ c∈p.cavs,wY c
 dl:k.ds.length≤100000
 dc:∀ d∈k.ds,WdT d.ticket d.conds
 bl:k.bs.length≤100000
 bc:∀ b∈k.bs,BuC b
 il:k.its.length≤100000
 ic:∀ x∈k.its,x.box.length≤140737488351232
end Go.Proofs.YtglmjglbobhbbaaGreatDoor
