/- Texts U15, joined. -/
import Derived.Test.YtglmjglbobhbbaaGreatDoorM36
namespace Go.Proofs.YtglmjglbobhbbaaGreatDoor
open Go.Ab
attribute [local irreducible] Go.Ab.tyAV Go.Ab.aw Go.Ab.aops Go.Ab.kReg Go.Ab.aThen Go.Ab.aBlk Go.Ab.acond Go.Ab.aguard Go.Ab.astep Go.Ab.AStepX Go.Ab.aRet
attribute [local irreducible] yE
def zu (d:Di):Bo:=⟨d.ticket,d.conds,zeroTag⟩
@[go_sem] theorem vQ (t:Tg):(zd t).shut=true:=AV.shutl_map za (fun _=>rfl) t.1
@[go_sem] theorem zkK (l:List UInt8):AV.shutl (l.map za)=true:=AV.shutl_map za (fun _=>rfl) l
@[go_sem] theorem zm6 (p:Pr):(zU p).shut=true:=by simp only [zU,AV.shut,AV.shutl,Bool.and_self]
@[go_sem] theorem zs3 (l:List Pr):AV.shutl (l.map zU)=true:=AV.shutl_map zU zm6 l
@[go_sem] theorem zqT (p:Ca):(z8 p).shut=true:=by simp only [z8,AV.shut,AV.shutl,zm6,zkK,Bool.and_self]
@[go_sem] theorem qW (l:List Ca):AV.shutl (l.map z8)=true:=AV.shutl_map z8 zqT l
@[go_sem] theorem zqP (p:Bo):(zC p).shut=true:=by simp only [zC,AV.shut,AV.shutl,vQ,zs3,zkK,Bool.and_self]
@[go_sem] theorem qT (l:List Bo):AV.shutl (l.map zC)=true:=AV.shutl_map zC zqP l
section
variable [W:W32]
def xj (leaf:Tg) (r:Rq):List Di→Nat→Alg→List Bo→Alg × List Bo
 | [],_,a,D=>(a,D)
 | d::L,u,a,D=>xj leaf r L (u+1) (vJ a d leaf r).1 (D.set u (vJ a d leaf r).2.1)
def qa (a:Alg) (p:Pa) (r:Rq):Alg × Tg × Nat:=yJ a p.tag (kI r.gate.toNat r.nonce.toNat)
def zV (a:Alg) (p:Pa) (gs:List Di) (r:Rq):Alg × Bu:=
 ((xj p.tag r gs 0 (qa a p r).1 (gs.map zu)).1,⟨r,p.epoch,p.serial,p.cavs,(qa a p r).2.1,(xj p.tag r gs 0 (qa a p r).1 (gs.map zu)).2⟩)
theorem vw {a:Alg} {m:Nat} (ha:AlgIn a m) (hm:m≤60000) (d:Di) (leaf:Tg) {r:Rq} (hr:rqB r=true):
  (yJ a d.tag (y8 leaf r.gate.toNat r.nonce.toNat)).2.2=0∧vJ a d leaf r=((yJ a d.tag (y8 leaf r.gate.toNat r.nonce.toNat)).1,⟨d.ticket,d.conds,(yJ a d.tag (y8 leaf r.gate.toNat r.nonce.toNat)).2.1⟩,0):=by
 obtain ⟨⟨r1,r2⟩,r3,r4⟩:=rqB_iff.1 hr
 have hl:=zbc leaf (g:=r.gate.toNat) (n:=r.nonce.toNat) oo oo
 have h0:=zfU (a:=a) d.tag (msg:=y8 leaf r.gate.toNat r.nonce.toNat) oo (by have:=ha.ml;omega)
 refine ⟨h0,?_⟩
 unfold vJ
 rw [if_neg (by rw [hr];simp),if_pos h0]
theorem ka {a:Alg} {m:Nat} (ha:AlgIn a m) (hm:m≤60000) (p:Pa) {r:Rq} (hr:rqB r=true):(qa a p r).2.2=0:=by
 obtain ⟨⟨r1,r2⟩,r3,r4⟩:=rqB_iff.1 hr
 have hl:=zcP (g:=r.gate.toNat) (n:=r.nonce.toNat) oo oo
 exact zfU (a:=a) p.tag (msg:=kI r.gate.toNat r.nonce.toNat) oo (by have:=ha.ml;omega)
theorem xO {leaf:Tg} {r:Rq}:∀ (gs:List Di) (u:Nat) (a:Alg) (D:List Bo),(xj leaf r gs u a D).2.length=D.length
 | [],_,_,_=>rfl
 | d::L,u,a,D=>by rw [xj,xO];simp
end
end Go.Proofs.YtglmjglbobhbbaaGreatDoor
