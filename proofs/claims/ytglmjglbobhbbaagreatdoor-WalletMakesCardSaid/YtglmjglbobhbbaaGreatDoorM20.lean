/- Texts U2, M10, K12, K13, R4, joined. -/
import Derived.Test.YtglmjglbobhbbaaGreatDoorM16
import Derived.Test.YtglmjglbobhbbaaGreatDoorM17
import Derived.Test.YtglmjglbobhbbaaGreatDoorM18
namespace Go.Proofs.YtglmjglbobhbbaaGreatDoor
open _root_.Go.Proofs.Tryz
open Go.Ab
attribute [local irreducible] Go.Ab.tyAV Go.Ab.aw Go.Ab.aops Go.Ab.kReg Go.Ab.aThen Go.Ab.aBlk Go.Ab.acond Go.Ab.aguard Go.Ab.astep Go.Ab.AStepX Go.Ab.aRet
structure Pa where
 epoch:Int
 serial:Int
 cavs:List Ca
 tag:Tg
def zG (p:Pa):AV:=.agg [.lit (.int .i64 p.epoch),.lit (.int .i64 p.serial),.slice none (p.cavs.map z8),zd p.tag]
@[go_sem] theorem xv (p:Pa):(zG p).sz=35:=by simp only [zG,AV.sz,AV.szl,zB]
@[go_sem] theorem zvv (p:Pa):(zG p).isAgg=true:=rfl
@[go_sem] theorem yw (p:Pa):(zG p).cell=true:=by simp only [zG,AV.cell,AV.celll,Bool.and_self,zj]
@[go_sem] theorem zpe (f:Nat→Option Nat) (p:Pa):(zG p).ren f=zG p:=by simp only [zG,AV.ren,AV.renl,Option.bind_none,zpn,xR]
@[go_sem] theorem zgY (f:Nat→Option Nat) (l:List Pa):AV.renl f (l.map zG)=l.map zG:=by
 rw [AV.renl_map,List.map_map];exact List.map_congr_left fun t _=>zpe f t
@[go_sem] theorem zx9 (l:List Pa):(l.map zG).all (fun x=>x.sz == 35)=true:=by
 rw [List.all_eq_true];intro x hx;obtain ⟨b,_,rfl⟩:=List.mem_map.1 hx;simp [xv]
@[go_sem] theorem zya (l:List Pa):(l.map zG).all (fun x=>x.sz == 35 && x.cell)=true:=by
 rw [List.all_eq_true];intro x hx;obtain ⟨b,_,rfl⟩:=List.mem_map.1 hx;simp [xv,yw]
structure Te where
 least:Int
 most:Int
def zhS (p:Te):AV:=.agg [.lit (.int .i64 p.least),.lit (.int .i64 p.most)]
@[go_sem] theorem zr6 (p:Te):(zhS p).sz=2:=by simp only [zhS,AV.sz,AV.szl]
@[go_sem] theorem zvD (p:Te):(zhS p).isAgg=true:=rfl
@[go_sem] theorem zr5 (p:Te):(zhS p).cell=true:=by simp only [zhS,AV.cell,AV.celll,Bool.and_self]
@[go_sem] theorem ztn (f:Nat→Option Nat) (p:Te):(zhS p).ren f=zhS p:=by simp only [zhS,AV.ren,AV.renl]
@[go_sem] theorem zxH (f:Nat→Option Nat) (l:List Te):AV.renl f (l.map zhS)=l.map zhS:=by
 rw [AV.renl_map,List.map_map];exact List.map_congr_left fun t _=>ztn f t
@[go_sem] theorem zyh (l:List Te):(l.map zhS).all (fun x=>x.sz == 2)=true:=by
 rw [List.all_eq_true];intro x hx;obtain ⟨b,_,rfl⟩:=List.mem_map.1 hx;simp [zr6]
@[go_sem] theorem zyi (l:List Te):(l.map zhS).all (fun x=>x.sz == 2 && x.cell)=true:=by
 rw [List.all_eq_true];intro x hx;obtain ⟨b,_,rfl⟩:=List.mem_map.1 hx;simp [zr6,zr5]
structure Bl where
 party:Int
 key:Tg
 ticket:List UInt8
def zeb (p:Bl):AV:=.agg [.lit (.int .i64 p.party),zd p.key,.slice none (p.ticket.map za)]
@[go_sem] theorem zqM (p:Bl):(zeb p).sz=34:=by simp only [zeb,AV.sz,AV.szl,zB]
@[go_sem] theorem zvb (p:Bl):(zeb p).isAgg=true:=rfl
@[go_sem] theorem zqL (p:Bl):(zeb p).cell=true:=by simp only [zeb,AV.cell,AV.celll,Bool.and_self,zj]
@[go_sem] theorem zsq (f:Nat→Option Nat) (p:Bl):(zeb p).ren f=zeb p:=by simp only [zeb,AV.ren,AV.renl,Option.bind_none,xr,xR]
@[go_sem] theorem zxD (f:Nat→Option Nat) (l:List Bl):AV.renl f (l.map zeb)=l.map zeb:=by
 rw [AV.renl_map,List.map_map];exact List.map_congr_left fun t _=>zsq f t
@[go_sem] theorem zxV (l:List Bl):(l.map zeb).all (fun x=>x.sz == 34)=true:=by
 rw [List.all_eq_true];intro x hx;obtain ⟨b,_,rfl⟩:=List.mem_map.1 hx;simp [zqM]
@[go_sem] theorem zxW (l:List Bl):(l.map zeb).all (fun x=>x.sz == 34 && x.cell)=true:=by
 rw [List.all_eq_true];intro x hx;obtain ⟨b,_,rfl⟩:=List.mem_map.1 hx;simp [zqM,zqL]
structure Di where
 ticket:List UInt8
 conds:List Pr
 tag:Tg
def zw (p:Di):AV:=.agg [.slice none (p.ticket.map za),.slice none (p.conds.map zU),zd p.tag]
@[go_sem] theorem zbt (p:Di):(zw p).sz=34:=by simp only [zw,AV.sz,AV.szl,zB]
@[go_sem] theorem zvm (p:Di):(zw p).isAgg=true:=rfl
@[go_sem] theorem zbd (p:Di):(zw p).cell=true:=by simp only [zw,AV.cell,AV.celll,Bool.and_self,zj]
@[go_sem] theorem zsy (f:Nat→Option Nat) (p:Di):(zw p).ren f=zw p:=by simp only [zw,AV.ren,AV.renl,Option.bind_none,xr,zpo,xR]
@[go_sem] theorem ze0 (f:Nat→Option Nat) (l:List Di):AV.renl f (l.map zw)=l.map zw:=by
 rw [AV.renl_map,List.map_map];exact List.map_congr_left fun t _=>zsy f t
@[go_sem] theorem zx3 (l:List Di):(l.map zw).all (fun x=>x.sz == 34)=true:=by
 rw [List.all_eq_true];intro x hx;obtain ⟨b,_,rfl⟩:=List.mem_map.1 hx;simp [zbt]
@[go_sem] theorem zx4 (l:List Di):(l.map zw).all (fun x=>x.sz == 34 && x.cell)=true:=by
 rw [List.all_eq_true];intro x hx;obtain ⟨b,_,rfl⟩:=List.mem_map.1 hx;simp [zbt,zbd]
structure Rq where
 gate:Int
 nonce:Int
def yD (p:Rq):AV:=.agg [.lit (.int .i64 p.gate),.lit (.int .i64 p.nonce)]
@[go_sem] theorem zl0 (p:Rq):(yD p).sz=2:=by simp only [yD,AV.sz,AV.szl]
@[go_sem] theorem zvz (p:Rq):(yD p).isAgg=true:=rfl
@[go_sem] theorem zjU (p:Rq):(yD p).cell=true:=by simp only [yD,AV.cell,AV.celll,Bool.and_self]
@[go_sem] theorem zlZ (f:Nat→Option Nat) (p:Rq):(yD p).ren f=yD p:=by simp only [yD,AV.ren,AV.renl]
@[go_sem] theorem zxF (f:Nat→Option Nat) (l:List Rq):AV.renl f (l.map yD)=l.map yD:=by
 rw [AV.renl_map,List.map_map];exact List.map_congr_left fun t _=>zlZ f t
@[go_sem] theorem zyd (l:List Rq):(l.map yD).all (fun x=>x.sz == 2)=true:=by
 rw [List.all_eq_true];intro x hx;obtain ⟨b,_,rfl⟩:=List.mem_map.1 hx;simp [zl0]
@[go_sem] theorem zye (l:List Rq):(l.map yD).all (fun x=>x.sz == 2 && x.cell)=true:=by
 rw [List.all_eq_true];intro x hx;obtain ⟨b,_,rfl⟩:=List.mem_map.1 hx;simp [zl0,zjU]
structure Bo where
 ticket:List UInt8
 conds:List Pr
 proof:Tg
def zC (p:Bo):AV:=.agg [.slice none (p.ticket.map za),.slice none (p.conds.map zU),zd p.proof]
@[go_sem] theorem kG (p:Bo):(zC p).sz=34:=by simp only [zC,AV.sz,AV.szl,zB]
@[go_sem] theorem zvc (p:Bo):(zC p).isAgg=true:=rfl
@[go_sem] theorem zqO (p:Bo):(zC p).cell=true:=by simp only [zC,AV.cell,AV.celll,Bool.and_self,zj]
@[go_sem] theorem zsr (f:Nat→Option Nat) (p:Bo):(zC p).ren f=zC p:=by simp only [zC,AV.ren,AV.renl,Option.bind_none,xr,zpo,xR]
@[go_sem] theorem ztb (f:Nat→Option Nat) (l:List Bo):AV.renl f (l.map zC)=l.map zC:=by
 rw [AV.renl_map,List.map_map];exact List.map_congr_left fun t _=>zsr f t
@[go_sem] theorem zxX (l:List Bo):(l.map zC).all (fun x=>x.sz == 34)=true:=by
 rw [List.all_eq_true];intro x hx;obtain ⟨b,_,rfl⟩:=List.mem_map.1 hx;simp [kG]
@[go_sem] theorem zxY (l:List Bo):(l.map zC).all (fun x=>x.sz == 34 && x.cell)=true:=by
 rw [List.all_eq_true];intro x hx;obtain ⟨b,_,rfl⟩:=List.mem_map.1 hx;simp [kG,zqO]
structure Ep where
 num:Int
 key:Tg
def zi0 (p:Ep):AV:=.agg [.lit (.int .i64 p.num),zd p.key]
@[go_sem] theorem zq1 (p:Ep):(zi0 p).sz=33:=by simp only [zi0,AV.sz,AV.szl,zB]
@[go_sem] theorem zvn (p:Ep):(zi0 p).isAgg=true:=rfl
@[go_sem] theorem zq0 (p:Ep):(zi0 p).cell=true:=by simp only [zi0,AV.cell,AV.celll,Bool.and_self,zj]
@[go_sem] theorem zsA (f:Nat→Option Nat) (p:Ep):(zi0 p).ren f=zi0 p:=by simp only [zi0,AV.ren,AV.renl,xR]
@[go_sem] theorem ztd (f:Nat→Option Nat) (l:List Ep):AV.renl f (l.map zi0)=l.map zi0:=by
 rw [AV.renl_map,List.map_map];exact List.map_congr_left fun t _=>zsA f t
@[go_sem] theorem zx5 (l:List Ep):(l.map zi0).all (fun x=>x.sz == 33)=true:=by
 rw [List.all_eq_true];intro x hx;obtain ⟨b,_,rfl⟩:=List.mem_map.1 hx;simp [zq1]
@[go_sem] theorem zx6 (l:List Ep):(l.map zi0).all (fun x=>x.sz == 33 && x.cell)=true:=by
 rw [List.all_eq_true];intro x hx;obtain ⟨b,_,rfl⟩:=List.mem_map.1 hx;simp [zq1,zq0]
structure Rg where
 live:List Ep
 last:Int
def zbF (p:Rg):AV:=.agg [.slice none (p.live.map zi0),.lit (.int .i64 p.last)]
@[go_sem] theorem zoF (p:Rg):(zbF p).sz=2:=by simp only [zbF,AV.sz,AV.szl]
@[go_sem] theorem zvx (p:Rg):(zbF p).isAgg=true:=rfl
@[go_sem] theorem znm (p:Rg):(zbF p).cell=true:=by simp only [zbF,AV.cell,AV.celll,Bool.and_self]
@[go_sem] theorem zpp (f:Nat→Option Nat) (p:Rg):(zbF p).ren f=zbF p:=by simp only [zbF,AV.ren,AV.renl,Option.bind_none,ztd]
@[go_sem] theorem zxE (f:Nat→Option Nat) (l:List Rg):AV.renl f (l.map zbF)=l.map zbF:=by
 rw [AV.renl_map,List.map_map];exact List.map_congr_left fun t _=>zpp f t
@[go_sem] theorem zyb (l:List Rg):(l.map zbF).all (fun x=>x.sz == 2)=true:=by
 rw [List.all_eq_true];intro x hx;obtain ⟨b,_,rfl⟩:=List.mem_map.1 hx;simp [zoF]
@[go_sem] theorem zyc (l:List Rg):(l.map zbF).all (fun x=>x.sz == 2 && x.cell)=true:=by
 rw [List.all_eq_true];intro x hx;obtain ⟨b,_,rfl⟩:=List.mem_map.1 hx;simp [zoF,znm]
structure Bu where
 req:Rq
 epoch:Int
 serial:Int
 cavs:List Ca
 proof:Tg
 dis:List Bo
def ye (p:Bu):AV:=.agg [yD p.req,.lit (.int .i64 p.epoch),.lit (.int .i64 p.serial),.slice none (p.cavs.map z8),zd p.proof,.slice none (p.dis.map zC)]
@[go_sem] theorem zqR (p:Bu):(ye p).sz=38:=by simp only [ye,AV.sz,AV.szl,zl0,zB]
@[go_sem] theorem zvd (p:Bu):(ye p).isAgg=true:=rfl
@[go_sem] theorem zqQ (p:Bu):(ye p).cell=true:=by simp only [ye,AV.cell,AV.celll,Bool.and_self,zjU,zj]
@[go_sem] theorem zss (f:Nat→Option Nat) (p:Bu):(ye p).ren f=ye p:=by simp only [ye,AV.ren,AV.renl,Option.bind_none,ztb,zpn,zlZ,xR]
@[go_sem] theorem ztc (f:Nat→Option Nat) (l:List Bu):AV.renl f (l.map ye)=l.map ye:=by
 rw [AV.renl_map,List.map_map];exact List.map_congr_left fun t _=>zss f t
@[go_sem] theorem zx1 (l:List Bu):(l.map ye).all (fun x=>x.sz == 38)=true:=by
 rw [List.all_eq_true];intro x hx;obtain ⟨b,_,rfl⟩:=List.mem_map.1 hx;simp [zqR]
@[go_sem] theorem zx2 (l:List Bu):(l.map ye).all (fun x=>x.sz == 38 && x.cell)=true:=by
 rw [List.all_eq_true];intro x hx;obtain ⟨b,_,rfl⟩:=List.mem_map.1 hx;simp [zqR,zqQ]
structure Sc where
 alg:Alg
 ring:Rg
 con:Co
 pass:Pa
 grants:List Di
 req:Rq
 holder:List UInt8
 minute:Int
def zbS (p:Sc):AV:=.agg [zA p.alg,zbF p.ring,xW p.con,zG p.pass,.slice none (p.grants.map zw),yD p.req,.lit (.string ⟨p.holder.toArray⟩),.lit (.int .i64 p.minute)]
@[go_sem] theorem zrY (p:Sc):(zbS p).sz=112:=by simp only [zbS,AV.sz,AV.szl,zsm,zqV,xv,zoF,zl0]
@[go_sem] theorem zvA (p:Sc):(zbS p).isAgg=true:=rfl
@[go_sem] theorem zrX (p:Sc):(zbS p).cell=true:=by simp only [zbS,AV.cell,AV.celll,Bool.and_self,zpL,znZ,yw,znm,zjU]
@[go_sem] theorem zth (f:Nat→Option Nat) (p:Sc):(zbS p).ren f=zbS p:=by simp only [zbS,AV.ren,AV.renl,Option.bind_none,zqK,zpQ,zpe,ze0,zpp,zlZ]
@[go_sem] theorem zxG (f:Nat→Option Nat) (l:List Sc):AV.renl f (l.map zbS)=l.map zbS:=by
 rw [AV.renl_map,List.map_map];exact List.map_congr_left fun t _=>zth f t
@[go_sem] theorem zyf (l:List Sc):(l.map zbS).all (fun x=>x.sz == 112)=true:=by
 rw [List.all_eq_true];intro x hx;obtain ⟨b,_,rfl⟩:=List.mem_map.1 hx;simp [zrY]
@[go_sem] theorem zyg (l:List Sc):(l.map zbS).all (fun x=>x.sz == 112 && x.cell)=true:=by
 rw [List.all_eq_true];intro x hx;obtain ⟨b,_,rfl⟩:=List.mem_map.1 hx;simp [zrY,zrX]
def pa0:Pa:=⟨0,0,[],zeroTag⟩
def bl0:Bl:=⟨0,zeroTag,[]⟩
def di0:Di:=⟨[],[],zeroTag⟩
def bo0:Bo:=⟨[],[],zeroTag⟩
def te0:Te:=⟨0,0⟩
theorem zm3:zG pa0=.agg [.lit (.int .i64 0),.lit (.int .i64 0),.slice none [],zd zeroTag]:=rfl
theorem zmw:zeb bl0=.agg [.lit (.int .i64 0),zd zeroTag,.slice none []]:=rfl
theorem zdP:zw di0=.agg [.slice none [],.slice none [],zd zeroTag]:=rfl
theorem zwM:zhS te0=.agg [.lit (.int .i64 0),.lit (.int .i64 0)]:=rfl
attribute [local irreducible] yE
section
variable [W:W32]
def vq (a:Alg) (key:Tg) (msg:List UInt8):Option Tg:=if a.free=true then zcG key msg a.macs else if 4096 < msg.length then none else some (qC key.1 msg)
end
end Go.Proofs.YtglmjglbobhbbaaGreatDoor
namespace Go.Proofs.YtglmjglbobhbbaaGreatDoor
open _root_.Go.Proofs.Tryz
open Go.Ab
attribute [local irreducible] Go.Ab.tyAV Go.Ab.aw Go.Ab.aops Go.Ab.kReg Go.Ab.aThen Go.Ab.aBlk Go.Ab.acond Go.Ab.aguard Go.Ab.astep Go.Ab.AStepX Go.Ab.aRet
def kv (b:List UInt8) (u e:Nat):Ent:=.box 273 (.agg [.slice none (b.map za),.lit (.int .i64 u),.lit (.int .i64 e)])
@[simp,go_sem] theorem zxi (b:List UInt8) (u e:Nat):(kv b u e=.none)=False:=by simp [kv]
@[go_sem] theorem zvL (b:List UInt8) (u e:Nat) (f:Nat→Option Nat):(kv b u e).ren f=kv b u e:=by
 simp only [kv,ziZ,AV.ren,AV.renl,xr,Option.bind_none]
def ziq (b:List UInt8) (u:Nat):Nat × Nat × Nat:=((rdS (b.drop u)).1,u+(rdS (b.drop u)).2.1,(rdS (b.drop u)).2.2)
theorem zuK {b:List UInt8} {u:Nat} (h:u≤b.length):(ziq b u).2.1≤b.length:=by
 have:=ztQ (b.drop u)
 rw [List.length_drop] at this
 unfold ziq
 simp only
 omega
def be8 (l:List UInt8):Nat:=l.foldl (fun m x=>256 * m+x.toNat) 0
theorem zso (l:List UInt8) (x:UInt8):be8 (l++[x])=256 * be8 l+x.toNat:=by simp [be8]
theorem zv1 (l:List UInt8):be8 l < 256 ^ l.length:=by
 have key:∀ (r:List UInt8) (m j:Nat),m < 256 ^ j→r.foldl (fun m x=>256 * m+x.toNat) m < 256 ^ (j+r.length):=by
  intro r
  induction r with
  | nil=>intro m j h;simpa using h
  | cons x r ih=>
   intro m j h
   have hx:=x.toNat_lt
   have:=ih (256 * m+x.toNat) (j+1) (by rw [Nat.pow_succ];omega)
   rw [List.foldl_cons,List.length_cons]
   rw [show j+(r.length+1)=j+1+r.length from by omega]
   exact this
 have:=key l 0 0 (by simp)
 simpa [be8] using this
theorem zsp {L:List UInt8} {i:Nat} (h:i < L.length):be8 (L.take (i+1))=256 * be8 (L.take i)+L[i].toNat:=by
 rw [List.take_add_one,List.getElem?_eq_getElem h]
 exact zso _ _
theorem zmu {L:List UInt8} {i:Nat} (h:L.length=8) (hi:i≤8):be8 (L.take i) < 18446744073709551616∧(i < 8→be8 (L.take i) < 72057594037927936):=by
 have h1:=zv1 (L.take i)
 rw [List.length_take,Nat.min_eq_left oo] at h1
 have h2:256 ^ i≤256 ^ 8:=Nat.pow_le_pow_right (by decide) hi
 refine ⟨by omega,fun h3=>?_⟩
 have h4:256 ^ i≤256 ^ 7:=Nat.pow_le_pow_right (by decide) oo
 omega
theorem zvK (b:List UInt8) (u:Nat) (e:Int) (d k:Nat):
  ACall prog 231 [.ptr d [] 0,.lit (.int .i64 e)] k [(d,kv b u 0)] (.tup []) [(d,.box 273 (.agg [.slice none (b.map za),.lit (.int .i64 u),.lit (.int .i64 e)]))]:=by
 simp only [kv]
 refine Bd func231 ntmps231 fun σ N hp hpn hk hkn hfree=>?_
 obtain ⟨hd,hdn⟩:=HD0 hp hpn;clear hp hpn
 refine Wk ?_
 refine zly ?_
 exact RW (d) (.box 273 (.agg [.slice none (b.map za),.lit (.int .i64 (u:Int)),.lit (.int .i64 e)]))
theorem RFail1 (b:List UInt8) (u e0:Nat) (h:e0≠0) (e:Int) (d k:Nat):
  ACall prog 231 [.ptr d [] 0,.lit (.int .i64 e)] k [(d,kv b u e0)] (.tup []) [(d,kv b u e0)]:=by
 have he':((e0:Int) == 0)=false:=by rw [beq_eq_false_iff_ne];omega
 simp only [kv]
 refine Bd func231 ntmps231 fun σ N hp hpn hk hkn hfree=>?_
 obtain ⟨hd,hdn⟩:=HD0 hp hpn;clear hp hpn
 refine Wk ?_
 refine zly ?_
 exact RW (d) (.box 273 (.agg [.slice none (b.map za),.lit (.int .i64 (u:Int)),.lit (.int .i64 (e0:Int))]))
theorem zmn (b:List UInt8) (u:Nat) (hu:u≤b.length) (hb:b.length≤1000000) (d k:Nat):
  ACall prog 191 [.ptr d [] 0] k [(d,kv b u 0)] (.lit (.int .i64 (ziq b u).1)) [(d,kv b (ziq b u).2.1 (ziq b u).2.2)]:=by
 have c1:=zng (b.drop u) (by rw [List.length_drop];omega)
 have hl:=ztQ (b.drop u)
 rw [List.length_drop] at hl
 have hd1:(b.map za).drop u=(b.drop u).map za:=by rw [List.map_drop]
 unfold ziq
 generalize rdS (b.drop u)=R at *
 obtain ⟨n,q,e⟩:=R
 simp only [zyt] at *
 generalize b.drop u=t at *
 have c2:=zvK b u e d
 simp only [kv] at *
 refine Bd func191 ntmps191 fun σ N hp hpn hk hkn hfree=>?_
 obtain ⟨hd,hdn⟩:=HD0 hp hpn;clear hp hpn
 have hcs:=And.intro c1 (And.intro c2 True.intro)
 clear c1 c2
 refine Wk ?_
 exact RW (d) (.box 273 (.agg [.slice none (b.map za),.lit (.int .i64 ((u:Int)+(q:Int))),.lit (.int .i64 (e:Int))]))
theorem zla (b:List UInt8) (u e:Nat) (he:e≠0) (d k:Nat):
  ACall prog 191 [.ptr d [] 0] k [(d,kv b u e)] (.lit (.int .i64 0)) [(d,kv b u e)]:=by
 have he':((e:Int) == 0)=false:=by rw [beq_eq_false_iff_ne];omega
 simp only [kv]
 refine Bd func191 ntmps191 fun σ N hp hpn hk hkn hfree=>?_
 obtain ⟨hd,hdn⟩:=HD0 hp hpn;clear hp hpn
 refine Wk ?_
 exact RW (d) (.box 273 (.agg [.slice none (b.map za),.lit (.int .i64 (u:Int)),.lit (.int .i64 (e:Int))]))
@[go_sem] theorem zuh:(ByteArray.empty={ data:=#[] })=True:=eq_true rfl
theorem zua (l:List Int) (i:Nat) (h:Dk l i) (most:Nat) (hm:most≤900000000):
  ∃ v j:Nat,v≤most∧Dk l j∧∀ d k,ACall prog 130 [.ptr d [] 0,.lit (.int .i64 most)] k [(d,zy l i)] (.lit (.int .i64 v)) [(d,zy l j)]:=by
 obtain ⟨x,j1,x1,d1,c1⟩:=vi l i 4 h oo oo
 have hx:x=0∨x=1∨x=2∨x=3:=by omega
 rcases hx with rfl | rfl | rfl | rfl
 ·obtain ⟨a,j2,a1,d2,c2⟩:=vi l j1 4 d1 oo oo
  obtain ⟨v,hv,hvm⟩:∃ v:Nat,(if most < a then (most:Int) else (a:Int))=(v:Int)∧v≤most:=⟨min a most,by split <;> omega,by omega⟩
  refine ⟨v,j2,hvm,d2,fun d k=>?_⟩
  refine Bd func130 ntmps130 fun σ N hp hpn hk hkn hfree=>?_
  obtain ⟨hd,hdn⟩:=HD0 hp hpn;clear hp hpn
  have hcs:=And.intro (c1 d) (And.intro (c2 d) True.intro)
  clear c1 c2
  refine Wk ?_
  exact RW (d) (zy l j2)
 ·obtain ⟨a,j2,a1,d2,c2⟩:=vi l j1 300 d1 oo oo
  obtain ⟨v,hv,hvm⟩:∃ v:Nat,(if most < a then (most:Int) else (a:Int))=(v:Int)∧v≤most:=⟨min a most,by split <;> omega,by omega⟩
  refine ⟨v,j2,hvm,d2,fun d k=>?_⟩
  refine Bd func130 ntmps130 fun σ N hp hpn hk hkn hfree=>?_
  obtain ⟨hd,hdn⟩:=HD0 hp hpn;clear hp hpn
  have hcs:=And.intro (c1 d) (And.intro (c2 d) True.intro)
  clear c1 c2
  refine Wk ?_
  exact RW (d) (zy l j2)
 ·obtain ⟨q,hq,hq0,hq1⟩:∃ q:Nat,(if (most:Int)+1 < 3 then (most:Int)+1 else 3)=(q:Int)∧0 < q∧q≤most+1:=⟨min 3 (most+1),by split <;> omega,by omega,by omega⟩
  obtain ⟨a,j2,a1,d2,c2⟩:=vi l j1 q d1 hq0 oo
  refine ⟨most - a,j2,by omega,d2,fun d k=>?_⟩
  have hsub:((most - a:Nat):Int)=(most:Int) - (a:Int):=by omega
  rw [hsub]
  refine Bd func130 ntmps130 fun σ N hp hpn hk hkn hfree=>?_
  obtain ⟨hd,hdn⟩:=HD0 hp hpn;clear hp hpn
  have hcs:=And.intro (c1 d) (And.intro (c2 d) True.intro)
  clear c1 c2 hsub
  refine Wk ?_
  exact RW (d) (zy l j2)
 ·obtain ⟨a,j2,a1,d2,c2⟩:=vi l j1 (most+1) d1 oo oo
  have hc:((most+1:Nat):Int)=(most:Int)+1:=by omega
  rw [hc] at c2
  refine ⟨a,j2,by omega,d2,fun d k=>?_⟩
  refine Bd func130 ntmps130 fun σ N hp hpn hk hkn hfree=>?_
  obtain ⟨hd,hdn⟩:=HD0 hp hpn;clear hp hpn
  have hcs:=And.intro (c1 d) (And.intro (c2 d) True.intro)
  clear c1 c2 hc
  refine Wk ?_
  exact RW (d) (zy l j2)
theorem zga (l:List Int) (i:Nat) (h:Dk l i):∃ v j:Nat,v≤67108864∧Dk l j∧∀ d k,ACall prog 128 [.ptr d [] 0] k [(d,zy l i)] (.lit (.int .i64 v)) [(d,zy l j)]:=
 ⟨_,_,zqc l i,zqb h,znJ l i h⟩
theorem ztY (l:List Int) (i:Nat) (h:Dk l i):∃ (s:List UInt8) (j:Nat),zbO s=true∧s.length≤16∧Dk l j∧∀ d k,ACall prog 129 [.ptr d [] 0] k [(d,zy l i)] (.lit (.string ⟨s.toArray⟩)) [(d,zy l j)]:=by
 have b:=y7 l i 8 oo
 refine ⟨_,_,?_,?_,zsT h,fun d k=>zpG l i h d k⟩
 all_goals
  unfold zrA
  generalize (yl l i 8).1=x at b
  have:x=0∨x=1∨x=2∨x=3∨x=4∨x=5∨x=6∨x=7:=by omega
  rcases this with rfl | rfl | rfl | rfl | rfl | rfl | rfl | rfl <;> (simp only;decide)
theorem PrOk.mk0 {k m f t x:Int} {n:List UInt8} (h0:0≤m) (h1:m < 18446744073709551616) (h2:n.length≤100):PrOk ⟨k,m,f,t,n,x⟩:=⟨h0,h1,by simp only;omega⟩
set_option maxHeartbeats 4000000 in
theorem zmm (l:List Int) (i:Nat) (h:Dk l i) (rides:Bool):
  ∃ (p:Pr) (j:Nat),yc p=true∧PrOk p∧(rides=false→p.kind≠7)∧Dk l j∧∀ d k,ACall prog 70 [.ptr d [] 0,.lit (.bool rides)] k [(d,zy l i)] (zU p) [(d,zy l j)]:=by
 have c1:=zhd l i 1 7 7 h oo oo oo oo
 have d1:=zeE (lo:=1) (n:=7) h
 have b1:=y7 l i 7 oo
 have hk:(zaM l i 1 7).1=1∨(zaM l i 1 7).1=2∨(zaM l i 1 7).1=3∨(zaM l i 1 7).1=4∨(zaM l i 1 7).1=5∨(zaM l i 1 7).1=6∨(zaM l i 1 7).1=7:=by unfold zaM;simp only;omega
 generalize zaM l i 1 7=X at *
 obtain ⟨kd,j1⟩:=X
 simp only at c1 d1 hk
 clear b1 h
 rcases hk with rfl | rfl | rfl | rfl | rfl | rfl | rfl
 ·obtain ⟨m,j2,m0,m1,d2,c2⟩:=zry l j1 d1
  refine ⟨⟨1,m,0,0,[],0⟩,j2,(by simp [yc,zev];simp at m1;omega),.mk0 oo (by simp at m1;omega) (by simp),by simp,d2,fun d k=>?_⟩
  simp only [zU]
  refine Bd func70 ntmps70 fun σ N hp hpn hk hkn hfree=>?_
  obtain ⟨hd,hdn⟩:=HD0 hp hpn;clear hp hpn
  have hcs:=And.intro (c1 d) (And.intro (c2 d) True.intro)
  clear c1 c2
  refine Wk ?_
  exact RW (d) (zy l j2)
 ·obtain ⟨m,j2,m0,m1,d2,c2⟩:=zrx l j1 d1
  refine ⟨⟨2,m,0,0,[],0⟩,j2,(by simp [yc,zev];simp at m1;omega),.mk0 oo (by simp at m1;omega) (by simp),by simp,d2,fun d k=>?_⟩
  simp only [zU]
  refine Bd func70 ntmps70 fun σ N hp hpn hk hkn hfree=>?_
  obtain ⟨hd,hdn⟩:=HD0 hp hpn;clear hp hpn
  have hcs:=And.intro (c1 d) (And.intro (c2 d) True.intro)
  clear c1 c2
  refine Wk ?_
  exact RW (d) (zy l j2)
 ·obtain ⟨m,j2,m0,m1,d2,c2⟩:=zsP l j1 d1
  refine ⟨⟨3,m,0,0,[],0⟩,j2,(by simp [yc,zev];simp at m1;omega),.mk0 oo (by simp at m1;omega) (by simp),by simp,d2,fun d k=>?_⟩
  simp only [zU]
  refine Bd func70 ntmps70 fun σ N hp hpn hk hkn hfree=>?_
  obtain ⟨hd,hdn⟩:=HD0 hp hpn;clear hp hpn
  have hcs:=And.intro (c1 d) (And.intro (c2 d) True.intro)
  clear c1 c2
  refine Wk ?_
  exact RW (d) (zy l j2)
 ·obtain ⟨a,j2,a1,d2,c2⟩:=zga l j1 d1
  obtain ⟨b,j3,b1,d3,c3⟩:=zga l j2 d2
  obtain ⟨lo,hlo,hlo1⟩:∃ lo:Nat,(if b < a then (b:Int) else (a:Int))=(lo:Int)∧lo=min a b:=⟨min a b,by split <;> omega,rfl⟩
  obtain ⟨hi,hhi,hhi1⟩:∃ hi:Nat,(if a < b then (b:Int) else (a:Int))=(hi:Int)∧hi=max a b:=⟨max a b,by split <;> omega,rfl⟩
  have hlo2:((min a b:Nat):Int)=lo:=by omega
  have hhi2:((max a b:Nat):Int)=hi:=by omega
  refine ⟨⟨4,0,lo,hi,[],0⟩,j3,(by simp [yc];omega),.mk0 oo oo (by simp),by simp,d3,fun d k=>?_⟩
  simp only [zU]
  refine Bd func70 ntmps70 fun σ N hp hpn hk hkn hfree=>?_
  obtain ⟨hd,hdn⟩:=HD0 hp hpn;clear hp hpn
  have hcs:=And.intro (c1 d) (And.intro (c2 d) (And.intro (c3 d) True.intro))
  clear c1 c2 c3
  refine Wk ?_
  exact RW (d) (zy l j3)
 ·obtain ⟨a,j2,a1,d2,c2⟩:=vi l j1 1440 d1 oo oo
  obtain ⟨b,j3,b1,d3,c3⟩:=vi l j2 1440 d2 oo oo
  obtain ⟨c,j4,e1,d4,c4⟩:=vi l j3 3 d3 oo oo
  by_cases hc:c=0
  ·subst hc
   obtain ⟨e,j5,f1,d5,c5⟩:=vi l j4 3 d4 oo oo
   obtain ⟨g,hg,hg1⟩:∃ g:Nat,((a:Int)+e+1440 - 1).tmod 1440=(g:Int)∧g < 1440:=⟨(a+e+1440 - 1) % 1440,by rw [Int.tmod_eq_emod_of_nonneg oo];omega,by omega⟩
   refine ⟨⟨5,0,a,g,[],0⟩,j5,(by simp [yc];omega),.mk0 oo oo (by simp),by simp,d5,fun d k=>?_⟩
   simp only [zU]
   refine Bd func70 ntmps70 fun σ N hp hpn hk hkn hfree=>?_
   obtain ⟨hd,hdn⟩:=HD0 hp hpn;clear hp hpn
   have hcs:=And.intro (c1 d) (And.intro (c2 d) (And.intro (c3 d) (And.intro (c4 d) (And.intro (c5 d) True.intro))))
   clear c1 c2 c3 c4 c5
   refine Wk ?_
   exact RW (d) (zy l j5)
  ·have hcb:((c:Int) == 0)=false:=by rw [beq_eq_false_iff_ne];omega
   refine ⟨⟨5,0,a,b,[],0⟩,j4,(by simp [yc];omega),.mk0 oo oo (by simp),by simp,d4,fun d k=>?_⟩
   simp only [zU]
   refine Bd func70 ntmps70 fun σ N hp hpn hk hkn hfree=>?_
   obtain ⟨hd,hdn⟩:=HD0 hp hpn;clear hp hpn
   have hcs:=And.intro (c1 d) (And.intro (c2 d) (And.intro (c3 d) (And.intro (c4 d) True.intro)))
   clear c1 c2 c3 c4
   refine Wk ?_
   exact RW (d) (zy l j4)
 ·obtain ⟨n,j2,n0,n1,d2,c2⟩:=ztY l j1 d1
  refine ⟨⟨6,0,0,0,n,0⟩,j2,(by simp [yc,n0]),.mk0 oo oo oo,by simp,d2,fun d k=>?_⟩
  simp only [zU]
  refine Bd func70 ntmps70 fun σ N hp hpn hk hkn hfree=>?_
  obtain ⟨hd,hdn⟩:=HD0 hp hpn;clear hp hpn
  have hcs:=And.intro (c1 d) (And.intro (c2 d) True.intro)
  clear c1 c2
  refine Wk ?_
  exact RW (d) (zy l j2)
 ·cases rides with
  | true=>
   obtain ⟨v,j2,v1,d2,c2⟩:=zua l j1 d1 1000000 oo
   refine ⟨⟨7,0,0,0,[],v⟩,j2,(by simp [yc];omega),.mk0 oo oo (by simp),by simp,d2,fun d k=>?_⟩
   simp only [zU]
   refine Bd func70 ntmps70 fun σ N hp hpn hk hkn hfree=>?_
   obtain ⟨hd,hdn⟩:=HD0 hp hpn;clear hp hpn
   have hcs:=And.intro (c1 d) (And.intro (c2 d) True.intro)
   clear c1 c2
   refine Wk ?_
   exact RW (d) (zy l j2)
  | false=>
   obtain ⟨a,j2,a1,d2,c2⟩:=zga l j1 d1
   obtain ⟨b,j3,b1,d3,c3⟩:=zga l j2 d2
   obtain ⟨lo,hlo,hlo1⟩:∃ lo:Nat,(if b < a then (b:Int) else (a:Int))=(lo:Int)∧lo=min a b:=⟨min a b,by split <;> omega,rfl⟩
   obtain ⟨hi,hhi,hhi1⟩:∃ hi:Nat,(if a < b then (b:Int) else (a:Int))=(hi:Int)∧hi=max a b:=⟨max a b,by split <;> omega,rfl⟩
   have hlo2:((min a b:Nat):Int)=lo:=by omega
   have hhi2:((max a b:Nat):Int)=hi:=by omega
   refine ⟨⟨4,0,lo,hi,[],0⟩,j3,(by simp [yc];omega),.mk0 oo oo (by simp),by simp,d3,fun d k=>?_⟩
   simp only [zU]
   refine Bd func70 ntmps70 fun σ N hp hpn hk hkn hfree=>?_
   obtain ⟨hd,hdn⟩:=HD0 hp hpn;clear hp hpn
   have hcs:=And.intro (c1 d) (And.intro (c2 d) (And.intro (c3 d) True.intro))
   clear c1 c2 c3
   refine Wk ?_
   exact RW (d) (zy l j3)
end Go.Proofs.YtglmjglbobhbbaaGreatDoor
