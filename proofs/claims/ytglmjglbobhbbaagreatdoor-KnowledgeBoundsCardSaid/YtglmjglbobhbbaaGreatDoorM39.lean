/- Texts I1, P14, P8, joined. -/
import Derived.Test.YtglmjglbobhbbaaGreatDoorM38
namespace Go.Proofs.YtglmjglbobhbbaaGreatDoor
open _root_.Go.Proofs.Tryz
open Go.Ab
attribute [local irreducible] Go.Ab.tyAV Go.Ab.aw Go.Ab.aops Go.Ab.kReg Go.Ab.aThen Go.Ab.aBlk Go.Ab.acond Go.Ab.aguard Go.Ab.astep Go.Ab.AStepX Go.Ab.aRet
attribute [local irreducible] yE
theorem jg (A:Addr) (c k:Nat):ACall prog 123 [.lit (.slice (some A) 0 c)] k [] (.slice none []) []:=by
 refine Bd func123 ntmps123 fun σ N hp hpn hk hkn hfree=>?_
 exact WM
theorem zaS (c k:Nat):ACall prog 123 [.lit (.slice none 0 c)] k [] (.slice none []) []:=by
 refine Bd func123 ntmps123 fun σ N hp hpn hk hkn hfree=>?_
 exact WM
section
variable [W:W32]
end
end Go.Proofs.YtglmjglbobhbbaaGreatDoor
namespace Go.Proofs.YtglmjglbobhbbaaGreatDoor
open _root_.Go.Proofs.Tryz
open Go.Ab
attribute [local irreducible] Go.Ab.tyAV Go.Ab.aw Go.Ab.aops Go.Ab.kReg Go.Ab.aThen Go.Ab.aBlk Go.Ab.acond Go.Ab.aguard Go.Ab.astep Go.Ab.AStepX Go.Ab.aRet
structure It where
 place:Int
 kind:Int
 number:Int
 node:Tg
 box:List UInt8
 tag:Tg
def xm (p:It):AV:=.agg [.lit (.int .i64 p.place),.lit (.int .i64 p.kind),.lit (.int .i64 p.number),zd p.node,.slice none (p.box.map za),zd p.tag]
@[go_sem] theorem zjx (p:It):(xm p).sz=68:=by simp only [xm,AV.sz,AV.szl,zB]
@[go_sem] theorem zvs (p:It):(xm p).isAgg=true:=rfl
@[go_sem] theorem zrl (p:It):(xm p).cell=true:=by simp only [xm,AV.cell,AV.celll,Bool.and_self,zj]
@[go_sem] theorem zsJ (f:Nat→Option Nat) (p:It):(xm p).ren f=xm p:=by simp only [xm,AV.ren,AV.renl,Option.bind_none,xr,xR]
@[go_sem] theorem zte (f:Nat→Option Nat) (l:List It):AV.renl f (l.map xm)=l.map xm:=by
 rw [AV.renl_map,List.map_map];exact List.map_congr_left fun t _=>zsJ f t
@[go_sem] theorem zx7 (l:List It):(l.map xm).all (fun x=>x.sz == 68)=true:=by
 rw [List.all_eq_true];intro x hx;obtain ⟨b,_,rfl⟩:=List.mem_map.1 hx;simp [zjx]
@[go_sem] theorem zx8 (l:List It):(l.map xm).all (fun x=>x.sz == 68 && x.cell)=true:=by
 rw [List.all_eq_true];intro x hx;obtain ⟨b,_,rfl⟩:=List.mem_map.1 hx;simp [zjx,zrl]
def WdT (t:List UInt8) (c:List Pr):Prop:=t.length≤140737488351232∧c.length * 56≤140737488351232
theorem zk7 (l:List Pr) (he:l.isEmpty=false) (hl:l.length * 56≤140737488351232) (k:Nat):
  ACall prog 123 [.slice none (l.map zU)] k [] (.slice none (l.map zU)) []:=by
 have hb:l.length * 56≤140737488355328:=by omega
 have hb1:l.length≤140737488355327:=by omega
 refine Bd func123 ntmps123 fun σ N hp hpn hk hkn hfree=>?_
 exact WM
theorem qO (l:List Pr) (hl:l.length * 56≤140737488351232) (k:Nat):
  ACall prog 123 [.slice none (l.map zU)] k [] (.slice none (l.map zU)) []:=by
 cases l with
 | cons x r=>exact zk7 (x::r) rfl hl k
 | nil=>
  refine ACall.empty fun A c=>?_
  cases A with
  | none=>exact zaS c k
  | some A=>exact jg A c k
end Go.Proofs.YtglmjglbobhbbaaGreatDoor
