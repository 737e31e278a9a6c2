/- Texts C3, C4, C5, C6, C7, C11, C9, joined. -/
import Derived.Test.YtglmjglbobhbbaaGreatDoorM4
import Derived.ChangeArms
import Derived.OpenShut
import Derived.SizedLaws
namespace Go.Ab
open Go.RowKit Go.ChangeShapes
def tyAV (P:Program):Nat→TypeId→AV→Prop
 | 0,_,_=>False
 | m+1,t,x=>match P.underlying t with
  | some .bool=>∃ b,x=.lit (.bool b)
  | some (.int k)=>∃ n,x=.lit (.int k n)∧(Lit.int k n).wf=true
  | some .string=>∃ l:List UInt8,x=.lit (.string ⟨l.toArray⟩)∧l.length≤9223372036854775807
  | some (.slice e)=>∃ xs,x=.slice none xs∧xs.length≤9223372036854775807∧(∀ y∈xs,tyAV P m e y)∧xs.length * P.bytesOf e≤140737488351232
  | some (.array n e)=>∃ xs,x=.agg xs∧xs.length=n∧∀ y∈xs,tyAV P m e y
  | some (.struct fs)=>∃ xs,x=.agg xs∧xs.length=fs.size∧∀ (i:Nat) (f:Field) (y:AV),fs[i]?=some f→xs[i]?=some y→tyAV P m f.type y
  | _=>False
section
variable {H:Type} {enc:TypeId × Value→H} {P:Program} {w:World} {base:Nat} {spare:Nat→Bool} {held:Bool}
end
end Go.Ab
namespace Go.Ab
open Go.RowKit
abbrev Tg:={b:List UInt8 // b.length=32}
def zd (t:Tg):AV:=.agg (t.1.map za)
@[go_sem] theorem zB (t:Tg):(zd t).sz=32:=by
 rw [zd];simp only [AV.sz,zcx];exact t.2
@[go_sem] theorem zuW (t:Tg):(zd t).isAgg=true:=rfl
theorem zX (bs:List UInt8):AV.celll (bs.map za)=true:=by
 rw [AV.celll_all,List.all_eq_true];intro x hx;obtain ⟨b,_,rfl⟩:=List.mem_map.1 hx;rfl
@[go_sem] theorem zj (t:Tg):(zd t).cell=true:=zX t.1
@[go_sem] theorem xR (f:Nat→Option Nat) (t:Tg):(zd t).ren f=zd t:=by
 simp only [zd,AV.ren,xr]
@[go_sem] theorem znj (f:Nat→Option Nat) (l:List Tg):AV.renl f (l.map zd)=l.map zd:=by
 rw [AV.renl_map,List.map_map];exact List.map_congr_left fun t _=>xR f t
@[go_sem] theorem zvV (l:List Tg):(l.map zd).all (fun x=>x.sz == 32)=true:=by
 rw [List.all_eq_true];intro x hx;obtain ⟨b,_,rfl⟩:=List.mem_map.1 hx;simp [zB]
@[go_sem] theorem zvW (l:List Tg):(l.map zd).all (fun x=>x.sz == 32 && x.cell)=true:=by
 rw [List.all_eq_true];intro x hx;obtain ⟨b,_,rfl⟩:=List.mem_map.1 hx;simp [zB,zj]
@[go_sem] theorem zq2 {P:Program} {T:TypeId} (h:zkm P T=some (.bytes 32)) (a b:Tg):evBin P .eql T (zd a) (zd b)=some ⟨[],.lit (.bool (decide (a=b))),[]⟩:=by
 have e:(a.1 == b.1)=decide (a=b):=by
  rw [Bool.eq_iff_iff];simp [Subtype.ext_iff]
 simp only [evBin,zd,zmE,h,eqA,zec,a.2,b.2,and_self,if_true,e]
@[go_sem] theorem zpU {P:Program} {T:TypeId} (h:zkm P T=some (.bytes 32)) (a b:Tg):evBin P .neq T (zd a) (zd b)=some ⟨[],.lit (.bool (!decide (a=b))),[]⟩:=by
 have e:(a.1 == b.1)=decide (a=b):=by
  rw [Bool.eq_iff_iff];simp [Subtype.ext_iff]
 simp only [evBin,zd,zmE,h,eqA,zec,a.2,b.2,and_self,if_true,e]
def zeroTag:Tg:=⟨List.replicate 32 0,by simp⟩
theorem zqw:AV.agg ((List.replicate 32 (0:UInt8)).map za)=zd zeroTag:=rfl
def zti (t:Tg) (i:Nat) (b:UInt8):Tg:=⟨t.1.set i b,by simp [t.2]⟩
@[go_sem] theorem zyC (t:Tg) (i:Nat) (h:i < 32):(zd t).get [i]=some (za (t.1[i]'(by rw [t.2];exact h))):=by
 have h2:i < t.1.length:=by rw [t.2];exact h
 simp [zd,AV.get,h2]
@[go_sem] theorem zxO (t:Tg) (i:Nat) (h:i < 32):(zd t).offs [i]=i:=by
 have h2:i < t.1.length:=by rw [t.2];exact h
 simp only [zd,AV.offs,← List.map_take,zcx,List.length_take]
 simp [h2];omega
theorem zhR (t:Tg) (i:Nat) (b:UInt8) (h:i < 32):(zd t).put [i] (za b)=zd (zti t i b):=by
 have h2:i < t.1.length:=by rw [t.2];exact h
 simp [zd,AV.put,h2,zti,List.map_set]
@[go_sem] theorem zxP (t:Tg) (i:Nat) (n:Nat) (h:i < 32) (hn:n < 256):(zd t).put [i] (.lit (.int .u8 (n:Int)))=zd (zti t i (UInt8.ofNat n)):=by
 have e:AV.lit (.int .u8 (n:Int))=za (UInt8.ofNat n):=by simp [za,Nat.mod_eq_of_lt hn]
 rw [e,zhR t i _ h]
@[go_sem] theorem zxj:AV.agg (List.replicate 32 (za 0))=zd zeroTag:=by rw [← zqw,List.map_replicate]
@[go_sem] theorem zxU (t:Tg):AV.agg (t.1.map za)=zd t:=rfl
@[go_sem high] theorem zwk (t:Tg) (i:Nat) (a:Int) (r:List (Nat × AV)) (hi:i < 32) (h0:0≤a) (h1:a < 256):
  zdU (fun i=>some (i,1)) (t.1.map za) ((i,.lit (.int .u8 a))::r)=zdU (fun i=>some (i,1)) ((zti t i (UInt8.ofNat a.toNat)).1.map za) r:=by
 have h2:i < t.1.length:=by rw [t.2];exact hi
 obtain ⟨n,rfl⟩:=Int.eq_ofNat_of_zero_le h0
 have e:AV.lit (.int .u8 (n:Int))=za (UInt8.ofNat n):=by simp [za,Nat.mod_eq_of_lt (show n < 256 by omega)]
 have e2:AV.szl ((t.1.map za).take i)=i:=by rw [zkD];omega
 rw [e,zpW,e2]
 simp [h2,AV.sz,za,zti,List.map_set]
@[go_sem high] theorem zvo (t:Tg):zdU (fun i=>some (i,1)) (t.1.map za) []=some (t.1.map za):=zq5 _ _
def jI (x:Int):AV:=.lit (.int .i64 x)
@[go_sem] theorem zxw (x:Int):(jI x).sz=1:=rfl
@[go_sem] theorem zuz (x:Int):(jI x).isAgg=false:=rfl
@[go_sem] theorem zrS (f:Nat→Option Nat) (l:List Int):AV.renl f (l.map jI)=l.map jI:=by
 rw [AV.renl_map,List.map_map];rfl
@[go_sem] theorem zv3 (l:List UInt8):(ByteArray.mk l.toArray).size=l.length:=by simp [ByteArray.size]
@[go_sem] theorem zul (l:List UInt8):(ByteArray.mk l.toArray).toList=l:=by rw [ByteArray.toList_eq]
@[go_sem] theorem zuk (a b:List UInt8):ByteArray.mk a.toArray++ByteArray.mk b.toArray=ByteArray.mk (a++b).toArray:=by
 apply ByteArray.ext
 simp
@[go_sem] theorem ztH (l:List UInt8) (i j:Nat):(ByteArray.mk l.toArray).extract i j=ByteArray.mk ((l.take j).drop i).toArray:=by
 apply ByteArray.ext
 simp [List.drop_take]
attribute [go_sem] zuV
def zbo (l:List UInt8):AV:=.lit (.string ⟨l.toArray⟩)
@[go_sem] theorem zxN (l:List UInt8):(zbo l).sz=1:=rfl
@[go_sem] theorem zuU (l:List UInt8):(zbo l).isAgg=false:=rfl
@[go_sem] theorem zvC (l:List UInt8):(zbo l).cell=true:=rfl
@[go_sem] theorem zwL (f:Nat→Option Nat) (l:List UInt8):(zbo l).ren f=zbo l:=rfl
@[go_sem] theorem zwA (f:Nat→Option Nat) (l:List (List UInt8)):AV.renl f (l.map zbo)=l.map zbo:=by
 rw [AV.renl_map,List.map_map];rfl
@[go_sem] theorem zvT (l:List (List UInt8)):(l.map zbo).all (fun x=>x.sz == 1)=true:=by
 rw [List.all_eq_true];intro x hx;obtain ⟨b,_,rfl⟩:=List.mem_map.1 hx;rfl
@[go_sem] theorem zvU (l:List (List UInt8)):(l.map zbo).all (fun x=>x.sz == 1 && x.cell)=true:=by
 rw [List.all_eq_true];intro x hx;obtain ⟨b,_,rfl⟩:=List.mem_map.1 hx;rfl
@[go_sem] theorem znU:bytesOf []=some []:=rfl
@[go_sem] theorem znT (n:Int) (r:List AV) (h0:0≤n) (h1:n < 256):bytesOf (.lit (.int .u8 n)::r)=(bytesOf r).map (UInt8.ofNat n.toNat::·):=by
 rw [bytesOf,if_pos ⟨h0,h1⟩]
@[go_sem high] theorem zmy (c:UInt8) (r:List AV):bytesOf (.lit (.int .u8 c.toNat)::r)=(bytesOf r).map (c::·):=by
 have h:=c.toNat_lt
 rw [znT _ _ oo oo]
 simp
@[go_sem] theorem zkj (c:UInt8) (r:List AV):bytesOf (za c::r)=(bytesOf r).map (c::·):=zmy c r
@[go_sem] theorem znS (l:List UInt8) (r:List AV):bytesOf (l.map za++r)=(bytesOf r).map (l++·):=by
 induction l with
 | nil=>cases h:bytesOf r <;> simp [h]
 | cons b l ih=>
  rw [List.map_cons,List.cons_append,zkj,ih]
  cases bytesOf r <;> rfl
@[go_sem] theorem ztI (l:List UInt8):bytesOf (l.map za)=some l:=by
 have:=znS l []
 rw [List.append_nil] at this
 rw [this,znU];simp
@[go_sem] theorem yq {x:Int} (h1:0≤x) (h2:x≤18446744073709551615):IntKind.u64.wrap x=x:=by
 have:IntKind.u64.wrap x=x % 18446744073709551616:=by simp [IntKind.wrap,IntKind.bits,IntKind.signed]
 rw [this];omega
@[go_sem] theorem ztl (n:Nat) (a:AV):AV.szl (List.replicate n a)=n * a.sz:=by
 rw [AV.szl_uniform _ a.sz (fun x hx=>by rw [List.eq_of_mem_replicate hx]),List.length_replicate]
@[go_sem] theorem ztf (a:AV):List.replicate 2 a=[a,a]:=rfl
theorem AV.sub_agg {xs ys:List AV} (h:ALe xs ys):AV.le (.agg xs) (.agg ys):=fun g v hr=>by
 cases hr with
 | agg _ vs hvl hvr=>
  obtain ⟨h1,h2⟩:=h.at
  exact .agg ys vs (by rw [hvl,h1]) fun i y v hy hv=>by obtain ⟨x,hx,hxy⟩:=h2 i y hy;exact hxy g v (hvr i x v hx hv)
theorem SimA.turnIn {W0:World} {g g':Ghost} {N:Nat} {s:Slots} {σ σ':Nat→Ent} {n n':Nat} {a:Act} {w:World} (h:SimA W0 g N ⟨s,σ,n⟩ a w) (hle:g.le g') (hS:Sim W0 g' σ' n' w) (hn:n≤n') {id:Nat} {path:List Nat} {bt:TypeId} {c y z:AV}
  (hσ:σ id=.box bt c) (hσ':σ' id=.box bt c) (hc:c.get path=some y) (hz:∀ u,Rep g y u→Rep g' z u) (hy1:y.sz=1) (hz1:z.sz=1):SimA W0 g' N ⟨s,upd σ' id (.box bt (c.put path z)),n'⟩ a w:=by
 obtain ⟨b0,v,hb0,_,hrep,hheap,hG⟩:=h.sim.box id bt c hσ
 obtain ⟨u,hu,hub,huc⟩:=hrep.get hc
 obtain ⟨v',hv',hvc⟩:=(hrep.mono hle).put hc (hz u hu) (by rw [hy1,hz1])
 have hus:u.cells.size=1:=by rw [hu.size,hy1]
 have hcells:v'.cells=v.cells:=by
  obtain ⟨q,hq⟩:∃ q,u.cells.toList=[q]:=by
   have:u.cells.toList.length=1:=by rw [Array.length_toList,hus]
   match hl:u.cells.toList,this with
   | [q],_=>exact ⟨q,rfl⟩
  apply Array.ext'
  rw [hvc,hq,hus]
  have hk:=huc 0 q (by rw [hq];rfl)
  rw [Nat.add_zero] at hk
  have hlt:c.offs path < v.cells.toList.length:=(List.getElem?_eq_some_iff.1 hk).1
  have l1:(v.cells.toList.take (c.offs path)).length=c.offs path:=by rw [List.length_take];omega
  have l2:(v.cells.toList.take (c.offs path)++[q]).length=c.offs path+1:=by rw [List.length_append,l1];rfl
  apply List.ext_getElem?
  intro j
  by_cases h1':j < c.offs path
  ·rw [List.getElem?_append_left oo,List.getElem?_append_left oo,List.getElem?_take,if_pos h1']
  ·by_cases h2':j=c.offs path
   ·subst h2'
    rw [List.getElem?_append_left oo,List.getElem?_append_right oo,l1,Nat.sub_self,hk]
    rfl
   ·rw [List.getElem?_append_right oo,l2,List.getElem?_drop]
    congr 1
    omega
 have hE:EntOK W0 g' w id (σ' id):=hS.ents id
 rw [hσ'] at hE
 obtain ⟨e1,e2,e3,b1,v1,e4,e5,e6,e7⟩:=hE
 have hb1:b1=b0:=by
  have:=hle.loc id b0 hb0
  rw [e4] at this;injection this
 subst hb1
 refine ⟨?_,h.size,fun t=>(h.slots t).mono hle⟩
 have hlt:id < n':=by
  rcases Nat.lt_or_ge id n with h' | h'
  ·omega
  ·have:=h.sim.bound id h';simp only at this;rw [hσ] at this;cases this
 exact hS.change hlt g'.le_refl hS.below hS.imm (fun _ _=>⟨rfl,rfl,rfl,rfl⟩) (fun i hi b' hb'=>⟨⟨rfl,fun _=>rfl⟩,fun e=>hi (hS.sep i id b' hb' e)⟩) ⟨e1,e2,e3,b1,v',e4,hv',by rw [hcells];exact hheap,e7⟩ (fun b' hb'=>hS.fresh id b' hb') (Nat.le_refl _)
theorem yM {P:Program} {N:Nat} {b:Code} {Q:AExit→Cfg→Prop} {s:Slots} {σ:Nat→Ent} {n:Nat} (id:Nat) (path:List Nat) {r ver size:Nat} {e bt:TypeId} {c:AV} {xs:List AV} {k:Nat} (hσ:σ id=.box bt c) (hr:σ r=.mrow ver e size xs) (hc:c.get path=some (.ms r ver size 0 k)) (hk:k=xs.length)
  (h:aw P N b Q ⟨s,upd (upd σ r (.row e size xs.length)) id (.box bt (c.put path (.slice none xs))),n⟩):aw P N b Q ⟨s,σ,n⟩:=by
 refine qF (fun W0 g a w hS=>?_) h
 subst hk
 have hne:id≠r:=by rintro rfl;rw [hσ] at hr;cases hr
 obtain ⟨g2,hle2,hS2,u2,vs,k1,k2,k3,k4,k5,k6,k7,k8⟩:=hS.sim.freezeM hr
 exact ⟨g2,hle2,hS.turnIn hle2 hS2 (Nat.le_refl _) hσ (by rw [zg _ _ _ _ hne];exact hσ) hc (fun u hu=>AV.le_own _ _ _ _ (hu.msFrozen hle2 k1 k3 k2 k4 k5 k6 k8)) rfl rfl⟩
theorem wl {P:Program} {N:Nat} {b:Code} {Q:AExit→Cfg→Prop} {s:Slots} {σ:Nat→Ent} {n:Nat} (id:Nat) (path:List Nat) (z:AV) {bt:TypeId} {c y:AV} (hσ:σ id=.box bt c) (hc:c.get path=some y) (hyz:AV.le y z) (hy1:y.sz=1) (hz1:z.sz=1)
  (h:aw P N b Q ⟨s,upd σ id (.box bt (c.put path z)),n⟩):aw P N b Q ⟨s,σ,n⟩:=
 qF (fun _W0 g _a _w hS=>⟨g,g.le_refl,hS.turnIn g.le_refl hS.sim (Nat.le_refl _) hσ hσ hc (fun u hu=>hyz g u hu) hy1 hz1⟩) h
theorem znv {α:Type} (s:Nat→α) (k:Nat) (a b:α):upd (upd s k a) k b=upd s k b:=by
 funext i
 by_cases h:i=k
 ·subst h;simp only [zr]
 ·simp only [zg _ _ _ _ h]
theorem ACall.nilM {P:Program} {f:FuncId} {args:List AV} {k:Nat} {e:TypeId} {size v2:Nat} (hv:0 < v2) (h:ACall P f args k [] .nils []):ACall P f args k [] (.ms k v2 size 0 0) [(k,.mrow v2 e size [])]:=by
 obtain ⟨h1,h2,h3,h4⟩:=h
 refine ⟨h1,h2,fun q hq=>by simp at hq;subst hq;exact .inl rfl,fun W0 g σ n w vals hS hvv hr hf hn hpre=>(h4 W0 g σ n w vals hS hvv hr hf hn hpre).mono ?_⟩
 rintro e' w' ⟨u,rfl,g',hg,hS',hu⟩
 cases hu
 obtain ⟨hle1,hS1⟩:=hS'.addM (k:=k) (e:=e) (size:=size) (u:=.slice none 0 0) (xs:=[]) (vs:=[]) hf hn (kz w' _ e size) rfl rfl (fun i x v h _=>by simp at h) (fun v hv=>by simp at hv) (fun b hb=>by simp [Value.ownBlock] at hb) (fun b hb=>by simp [Value.ownBlock] at hb)
 obtain ⟨g2,hle2,hS2,hm2,_⟩:=hS1.turnM (id:=k) (ver:=0) (ver':=v2) (e:=e) (size:=size) (xs:=[]) (u:=.slice none 0 0) (u':=.slice none 0 0) (xs':=[]) (vs':=[]) (w':=w') (by simp only [yi,zr]) (by simp only [zr]) (.inr hv) (kz w' _ e size) rfl rfl (fun i x v h _=>by simp at h) (fun v hv=>by simp at hv) rfl rfl rfl (Nat.le_refl _) (.inl rfl) (fun _ _ _=>rfl)
 rw [znv] at hS2
 refine ⟨.slice none 0 0,rfl,g2,(hg.trans hle1).trans hle2,hS2,?_⟩
 exact .ms k v2 size 0 0 v2 _ none 0 hm2 (Nat.le_refl _) (Nat.le_refl _) (by unfold maxLen;omega) fun _=>⟨_,_,_,rfl,by omega,fun _=>⟨rfl,rfl⟩,fun h=>absurd h oo⟩
def SKeep (L:List Nat) (s s':Slots):Prop:=∀ t,t ∉ L→s' t=s t
def EKeep (n:Nat) (L:List Nat) (σ σ':Nat→Ent):Prop:=∀ id,id < n→id ∉ L→σ' id=σ id
theorem SKeep.refl (L:List Nat) (s:Slots):SKeep L s s:=fun _ _=>rfl
theorem EKeep.refl (n:Nat) (L:List Nat) (σ:Nat→Ent):EKeep n L σ σ:=fun _ _ _=>rfl
theorem SKeep.at {L:List Nat} {s s':Slots} (h:SKeep L s s') (t:Nat) (ht:L.contains t=false):s' t=s t:=h t (by simpa using ht)
theorem EKeep.at {n:Nat} {L:List Nat} {σ σ':Nat→Ent} (h:EKeep n L σ σ') (id:Nat) (hid:id < n) (ht:id ∉ L):σ' id=σ id:=h id hid ht
theorem SKeep.upd {L:List Nat} {s s':Slots} {k:Nat} {v:AV} (hk:L.contains k=true) (h:SKeep L s s'):SKeep L s (upd s' k v):=fun t ht=>by
 have hne:t≠k:=fun e=>ht (by subst e;simpa using hk)
 rw [zg _ _ _ _ hne];exact h t ht
theorem EKeep.updN {n:Nat} {L:List Nat} {σ σ':Nat→Ent} {k:Nat} {E:Ent} (hk:n≤k) (h:EKeep n L σ σ'):EKeep n L σ (upd σ' k E):=fun id hid ht=>by
 rw [zg _ _ _ _ (show id≠k by omega)];exact h id hid ht
theorem EKeep.updL {n:Nat} {L:List Nat} {σ σ':Nat→Ent} {k:Nat} {E:Ent} (hk:k∈L) (h:EKeep n L σ σ'):EKeep n L σ (upd σ' k E):=fun id hid ht=>by
 have hne:id≠k:=fun e=>ht (by rw [e];exact hk)
 rw [zg _ _ _ _ hne];exact h id hid ht
theorem SKeep.step {L L':List Nat} {s s' s'':Slots} (h:SKeep L' s' s'') (hsub:L'.all (fun x=>L.contains x)=true) (h0:SKeep L s s'):SKeep L s s'':=fun t ht=>by
 rw [h t (fun hm=>ht (by have:=List.all_eq_true.1 hsub t hm;simpa using this))];exact h0 t ht
theorem EKeep.step {n n':Nat} {L L':List Nat} {σ σ' σ'':Nat→Ent} (h:EKeep n' L' σ' σ'') (hn:n≤n') (hsub:∀ x∈L',n≤x∨x∈L) (h0:EKeep n L σ σ'):EKeep n L σ σ'':=fun id hid ht=>by
 rw [h id oo (fun hm=>by rcases hsub id hm with h1 | h1;omega;exact ht h1)];exact h0 id hid ht
theorem yn {P:Program} {N:Nat} {b:Code} {Q:AExit→Cfg→Prop} {s:Slots} {σ:Nat→Ent} {n:Nat} (bnd:Nat) (hmix:P.follows .mixedOrders=true) (hok:wJ N b=true) (mods ents:List Nat) (I:Nat→Slots→(Nat→Ent)→Nat→Prop)
  (h0:∃ m,I m s σ n)
  (round:∀ m s' σ' n',SKeep mods s s'→EKeep bnd ents σ σ'→n≤n'→I m s' σ' n'→aw P N b (aThen (fun c'=>SKeep mods s c'.s∧EKeep bnd ents σ c'.σ∧n≤c'.n∧∃ m',m' < m∧I m' c'.s c'.σ c'.n) Q) ⟨s',σ',n'⟩):aw P N (.loop b) Q ⟨s,σ,n⟩:=by
 obtain ⟨m0,h0⟩:=h0
 intro hok' hmix' ro hro W0 g a w hS
 refine zdO (X:=Cfg × Nat) (fun x a' w=>∃ g',g.le g'∧SimA W0 g' N x.1 a' w∧Marks g g' a.defers a'.defers∧SKeep mods s x.1.s∧EKeep bnd ents σ x.1.σ∧n≤x.1.n∧I x.2 x.1.s x.1.σ x.1.n) (fun x=>x.2) (⟨s,σ,n⟩,m0) ⟨g,g.le_refl,hS,.refl _ _ _,SKeep.refl _ _,EKeep.refl _ _ _,Nat.le_refl _,h0⟩ fun x a w ⟨g',hle,hS',hM,k1,k2,k3,hI⟩=>?_
 obtain ⟨⟨s',σ',n'⟩,m⟩:=x
 refine wpIn_mono (round m s' σ' n' k1 k2 k3 hI hok hmix ro hro.loop W0 g' a w hS') fun e a' w' ⟨c',g'',hle',hS'',hM',hq⟩=>?_
 cases e with
 | normal=>
  obtain ⟨q1,q2,q3,m',q4,q5⟩:=hq
  exact ⟨(c',m'),⟨g'',hle.trans hle',hS'',hM.trans hle hle' hM',q1,q2,q3,q5⟩,q4⟩
 | exit id=>exact ⟨c',g'',hle.trans hle',hS'',hM.trans hle hle' hM',hq⟩
 | ret=>exact ⟨c',g'',hle.trans hle',hS'',hM.trans hle hle' hM',hq⟩
 | goto=>exact hq.elim
 | panic=>exact hq.elim
 | outgrown=>exact hq.elim
theorem ze {P:Program} {N:Nat} {b:Code} {Q:AExit→Cfg→Prop} {s:Slots} {σ:Nat→Ent} {n:Nat} (hmix:P.follows .mixedOrders=true) (hok:wJ N b=true) (mods ents:List Nat) (I:Nat→Slots→(Nat→Ent)→Nat→Prop)
  (h0:∃ m,I m s σ n)
  (round:∀ m s' σ' n',SKeep mods s s'→EKeep n ents σ σ'→n≤n'→I m s' σ' n'→aw P N b (aThen (fun c'=>SKeep mods s c'.s∧EKeep n ents σ c'.σ∧n≤c'.n∧∃ m',m' < m∧I m' c'.s c'.σ c'.n) Q) ⟨s',σ',n'⟩):aw P N (.loop b) Q ⟨s,σ,n⟩:=
 yn n hmix hok mods ents I h0 round
theorem zn7 {w:World} {b:Nat} {cur:Array Value} {e:TypeId} {fz:Nat × Nat} (hb:w.heap[b]?=some (.cells cur e fz)) (hz:noFz fz cur.size):
  ∃ fz',(w.freeze ⟨b,cur.size,none⟩ 1).heap[b]?=some (.cells cur e fz')∧noFz fz' cur.size∧(∀ j,j≠b→(w.freeze ⟨b,cur.size,none⟩ 1).heap[j]?=w.heap[j]?)∧(w.freeze ⟨b,cur.size,none⟩ 1).heap.size=w.heap.size:=by
 obtain ⟨lo,hi⟩:=fz
 refine ⟨if lo == hi then (cur.size,cur.size+1) else (min lo cur.size,max hi (cur.size+1)),?_,?_,fun j hj=>?_,?_⟩
 ·simp only [World.freeze,if_neg (show ¬ (1=0) by decide)]
  rw [Array.getElem?_modify,if_pos rfl,hb]
  rfl
 ·split
  ·exact .inr (Nat.le_refl _)
  ·rename_i hne
   rcases hz with h | h
   ·simp only at h;simp [h] at hne
   ·simp only at h;exact .inr (by simp only;omega)
 ·simp only [World.freeze,if_neg (show ¬ (1=0) by decide)]
  rw [Array.getElem?_modify,if_neg (Ne.symm hj)]
 ·simp only [World.freeze,if_neg (show ¬ (1=0) by decide),Array.size_modify]
theorem zoi {P:Program} {o:Oper} {s:Slots} {id:Nat} {t e e':TypeId} {r ver size:Nat} {x:Operand} {xs:List AV} (ho:o.op=.convert t t x) (ht:zT P t=some e') (he:zq P e'=true) (hx:zl s x=.ms r ver size 0 xs.length) (hpos:0 < xs.length):
  OpHolds P o s id [(r,.mrow ver e size xs)] (.slice (some r) xs) [(r,.row e size xs.length)]:=by
 refine ⟨fun p hp=>by simp at hp;subst hp;simp,fun q hq=>.inr ⟨(r,.mrow ver e size xs),by simp,by simp at hq;subst hq;rfl⟩,fun W0 g σ n w a hS hr _ _ hp=>?_⟩
 have h1:=hr x (by simp [ho,Op.operands])
 rw [hx] at h1
 have hp':σ r=.mrow ver e size xs:=hp (r,.mrow ver e size xs) (by simp)
 have heu:P.underlying e'=some (.int .u8):=by
  unfold zq at he
  split at he
  ·assumption
  ·cases he
 obtain ⟨u,vs,hmr,hlen,hvl,hvr,hvs,hown⟩:=hS.mrowAt hp'
 generalize hv:a.eval x=v at h1
 have h1':=h1
 cases h1 with
 | ms _ _ _ _ _ ver' u' Ax cx hm' hv' hlx hcx h=>
  rw [hmr] at hm';cases hm'
  obtain ⟨A0,n0,c0,rfl,j1,j2,j3⟩:=h rfl
  obtain ⟨b,hA0,hAx⟩:=j3 hpos
  obtain ⟨e1,e2⟩:=j2 rfl
  subst e1 e2
  simp only [zdX] at hlen
  subst hlen
  subst hA0
  have hown0:=hown
  rcases hown.2 with ⟨h0,h00⟩ | ⟨b',cap,cur,fz,hb1,hb2,hb3,hb4,hb5,hb6,hb7,hb8⟩
  ·simp at h0
  ·simp at hb1
   obtain ⟨rfl,rfl⟩:=hb1
   obtain ⟨fz',f1,f2,f3,f4⟩:=zn7 hb3 hb4
   have hown':ownsR (w.freeze ⟨b,cur.size,none⟩ 1) W0.heap.size e size (.slice (some ⟨b,0,none⟩) xs.length cx) xs.length (yG vs):=⟨hown.1,.inr ⟨b,cx,cur,fz',rfl,hb2,f1,f2,hb5,hb6,hb7,hb8⟩⟩
   obtain ⟨g1,k1,k2,k3,k4⟩:=hS.turnM (ver':=ver) (w':=w.freeze ⟨b,cur.size,none⟩ 1) hp' hmr (.inl ⟨rfl,rfl⟩) hown' rfl hvl hvr hvs (by simp [World.freeze]) (by simp [World.freeze]) (by simp [World.freeze]) (by rw [f4];exact Nat.le_refl _) (.inl rfl)
    (fun j hj _=>f3 j (fun e=>hj (by subst e;rfl)))
   obtain ⟨g2,l1,l2,u2,vs2,l3,l4,l5,l6,l7,l8,l9,l10⟩:=k2.freezeM (id:=r) (ver:=ver) (e:=e) (size:=size) (xs:=xs) (by simp [zr])
   have hrep:Rep g2 (.slice (some r) xs) (.slice (some ⟨b,0,none⟩) xs.length cx):=(h1'.mono k1).msFrozen l1 l3 l5 l4 l6 l7 l8 l10
   have hsh:w.shape? b=some (e,cur.size):=by simp [World.shape?,hb3]
   unfold runsTo
   have hexec:(execOp a.eval o).run P w=.ok (.value (.slice (some ⟨b,0,none⟩) xs.length cx)) (w.freeze ⟨b,cur.size,none⟩ 1):=by
    simp [execOp,ho,hv,convert,run_underlying (zD ht),run_underlying heu,markStringish,hsh]
   rw [hexec]
   refine ⟨g2,k1.trans l1,?_,hrep⟩
   have:upd (upd σ r (.mrow ver e size xs)) r (.row e size xs.length)=wr σ [(r,.row e size xs.length)]:=by simp [wr,znv]
   rw [← this];exact l2
def zlp (P:Program) (σ:Nat→Ent) (src dst:TypeId) (u:AV):Option Step:=
 match u with
 | .ms r ver size 0 len=>match σ r,zT P dst with
  | .mrow ver' e size' xs,some e'=>if src=dst∧ver'=ver∧size'=size∧len=xs.length∧0 < len∧zq P e'=true then some ⟨[(r,.mrow ver e size xs)],.slice (some r) xs,[(r,.row e size xs.length)]⟩ else none
  | _,_=>none
 | _=>none
theorem zlq {P:Program} {s:Slots} {σ:Nat→Ent} {id:Nat} {o:Oper} {st:Step} {src dst:TypeId} {x:Operand} (ho:o.op=.convert src dst x) (h:zlp P σ src dst (zl s x)=some st):Gives P o s σ id st:=by
 unfold zlp at h
 split at h
 ·rename_i r ver size len hx
  split at h
  ·rename_i ver' e size' xs e' hr hd
   split at h
   ·rename_i hc
    obtain ⟨rfl,rfl,rfl,rfl,h5,h6⟩:=hc
    cases h
    exact ⟨zoi ho hd h6 hx h5,fun p hp=>by simp at hp;subst hp;exact hr⟩
   ·cases h
  ·cases h
 ·cases h
attribute [go_sem] zlp
section
variable {P:Program} {ops:Array Oper} {m i n:Nat} {T:Trace} {k:Cfg→Trace→Prop} {op:Op} {ty:TypeId} {pos:String} {after:Array Edge} {r:List Oper} {s:Slots} {σ:Nat→Ent}
theorem zn8 {t:Tmp} {src dst:TypeId} {x:Operand} {v:AV} {p q:Nat × Ent} (he:zlp P σ src dst (zl s x)=some ⟨[p],v,[q]⟩) (h:aops P ops m r (i+1) ((i,[p],[q])::T) k ⟨upd s t v,upd σ q.1 q.2,n⟩):aops P ops m (⟨some t,.convert src dst x,ty,pos,after,none⟩::r) i T k ⟨s,σ,n⟩:=
 kS (st:=⟨[p],v,[q]⟩) (fun _o ho=>zlq ho he) h
end
theorem zoH {P:Program} {s:Slots} {a:Act} {g:Ghost} {len cap l h m:Nat} {lo hi mx:Option Operand} (hl:bnd s 0 lo=some l) (hh:bnd s len hi=some h) (hm:bnd s cap mx=some m) (hx:mx.isSome=true) (hy:hi.isSome=true) (hr:∀ x,lo=some x→Rep g (zl s x) (a.eval x)) (hr':∀ x,hi=some x→Rep g (zl s x) (a.eval x)) (hr'':∀ x,mx=some x→Rep g (zl s x) (a.eval x))
  (h1:l≤h) (h2:h≤m) (h3:m≤cap) (isSlice:Bool) (w:World):(Instr.sliceBounds isSlice len cap (lo.map a.eval) (hi.map a.eval) (mx.map a.eval)).run P w=.ok (l,h,m) w:=by
 rcases zeI hm hr'' with ⟨rfl,rfl⟩ | ⟨x2,k2,n2,rfl,he2,h02,rfl⟩
 ·simp at hx
 ·rcases zeI hh hr' with ⟨rfl,rfl⟩ | ⟨x,k,n,rfl,he,h0,hn⟩
  ·simp at hy
  ·rcases zeI hl hr with ⟨rfl,rfl⟩ | ⟨x',k',n',rfl,he',h0',rfl⟩
   ·simp [Instr.sliceBounds,he,he2,run_sliceBound w k2 n2 cap _ h02 oo,hn,run_sliceBound w k n n2.toNat _ h0 oo]
   ·simp [Instr.sliceBounds,he,he',he2,run_sliceBound w k2 n2 cap _ h02 oo,hn,run_sliceBound w k n n2.toNat _ h0 oo,run_sliceBound w k' n' h _ h0' oo]
theorem zju {P:Program} {o:Oper} {s:Slots} {id:Nat} {t e:TypeId} {x mx:Operand} {lo hi:Option Operand} {r ver size size' l0 len l h m:Nat} (ho:o.op=.slice t x lo hi (some mx)) (ht:zT P t=some e) (hs:xL P e size'=true) (hx:zl s x=.ms r ver size l0 len)
  (hl:bnd s 0 lo=some l) (hh:bnd s 0 hi=some h) (hm:bnd s 0 (some mx)=some m) (hy:hi.isSome=true) (h1:l≤h) (h2:h≤m) (h3:m≤len):OpHolds P o s id [] .any []:=
 yj fun g w a hr=>by
  have h4:=hr x (by simp [ho,Op.operands])
  rw [hx] at h4
  have hlo:∀ x,lo=some x→Rep g (zl s x) (a.eval x):=fun x hx=>hr x (by simp [ho,Op.operands,hx])
  have hhi:∀ x,hi=some x→Rep g (zl s x) (a.eval x):=fun x hx=>hr x (by simp [ho,Op.operands,hx])
  have hmx:∀ x,some mx=some x→Rep g (zl s x) (a.eval x):=fun x hx=>hr x (by simp [ho,Op.operands];simp at hx;simp [hx])
  generalize hv:a.eval x=v at h4
  obtain ⟨ie,hie,hsi⟩:=yo hs
  cases h4 with
  | ms _ _ _ _ _ ver' u A c hmr hv' hlx hcx hsub=>
   have hhi':hi=some (hi.get hy):=by simp
   have e0:bnd s len hi=some h:=by rw [hhi'] at hh ⊢;exact hh
   have e1:bnd s c (some mx)=some m:=hm
   have hb:=zoH (P:=P) hl e0 e1 rfl hy hlo hhi hmx h1 h2 (by omega:m≤c) true w
   simp only [Option.map_some] at hb
   refine ⟨.slice (if m=l then A else A.map (·.add (l * size'))) (h - l) (m - l),?_,.any _ rfl⟩
   ·simp only [execOp,ho,Sem.run_bind,Instr.sliceAt,run_underlying (zD ht),Result.andThen_ok,hv,Instr.slice,Option.map_some,hb,sizeOf,typeInfo,run_program,hie,Sem.run_pure,hsi]
def ziu (P:Program) (s:Slots) (t:TypeId) (u:AV) (lo hi:Option Operand) (mx:Operand):Option Step:=
 match u with
 | .ms _ _ _ _ len=>match zH P t,bnd s 0 lo,bnd s 0 hi,bnd s 0 (some mx) with
  | some _,some l,some h,some m=>if hi.isSome=true∧l≤h∧h≤m∧m≤len then some ⟨[],.any,[]⟩ else none
  | _,_,_,_=>none
 | _=>none
theorem zkp {P:Program} {s:Slots} {σ:Nat→Ent} {id:Nat} {o:Oper} {st:Step} {t:TypeId} {x mx:Operand} {lo hi:Option Operand} (ho:o.op=.slice t x lo hi (some mx)) (h:ziu P s t (zl s x) lo hi mx=some st):Gives P o s σ id st:=by
 unfold ziu at h
 split at h
 ·rename_i hx
  split at h
  ·rename_i hs hl hh hm
   split at h
   ·rename_i hc
    cases h
    obtain ⟨k1,k2,k3,k4,k5,k6⟩:=zI hs
    exact .mk0 (zju ho k1 k2 hx hl hh hm hc.1 hc.2.1 hc.2.2.1 hc.2.2.2)
   ·cases h
  ·cases h
 ·cases h
attribute [go_sem] ziu
section
variable {P:Program} {ops:Array Oper} {m i n:Nat} {T:Trace} {k:Cfg→Trace→Prop} {op:Op} {ty:TypeId} {pos:String} {after:Array Edge} {r:List Oper} {s:Slots} {σ:Nat→Ent}
theorem zjm {t:Tmp} {t':TypeId} {x mx:Operand} {lo hi:Option Operand} {v:AV} (he:ziu P s t' (zl s x) lo hi mx=some ⟨[],v,[]⟩) (h:aops P ops m r (i+1) T k ⟨upd s t v,σ,n⟩):aops P ops m (⟨some t,.slice t' x lo hi (some mx),ty,pos,after,none⟩::r) i T k ⟨s,σ,n⟩:=
 kS (st:=⟨[],v,[]⟩) (fun _o ho=>zkp ho he) h
end
theorem zhB {P:Program} {o:Oper} {s:Slots} {id:Nat} {t e:TypeId} {size r ver k lo m:Nat} {x y:Operand} {xs:List AV} (ho:o.op=.call { callee:=.builtin .append,args:=#[x,y],argTypes:=#[t,t] }) (ht:zT P t=some e) (hs:xL P e size=true)
  (hx:zl s x=.ms r ver size 0 k) (hy:zl s y=.ms r ver size lo m) (hlo:lo+m≤xs.length) (hkm:k+m≤xs.length) (hcell:xs.all (fun x=>x.cell)=true):
  OpHolds P o s id [(r,.mrow ver e size xs)] (.ms r ver size 0 (k+m)) [(r,.mrow ver e size (xs.take k++(xs.drop lo).take m++xs.drop (k+m)))]:=by
 refine ⟨fun p hp=>by simp at hp;subst hp;simp,fun q hq=>.inr ⟨(r,.mrow ver e size xs),by simp,by simp at hq;subst hq;rfl⟩,fun W0 g σ n w a hS hr _ _ hp=>?_⟩
 have h1:=hr x (by simp [ho,Op.operands,Call.operands])
 have h2:=hr y (by simp [ho,Op.operands,Call.operands])
 rw [hx] at h1
 rw [hy] at h2
 have hp':σ r=.mrow ver e size xs:=hp (r,.mrow ver e size xs) (by simp)
 obtain ⟨cs,he⟩:=yK (P:=P) (a:=a) ho w
 obtain ⟨u,vs,hmr,hsl,hvl,hvr,hvs,hown⟩:=hS.mrowAt hp'
 obtain ⟨ie,hie,hsi⟩:=yo hs
 have hdr:∀ v∈vs.drop lo,v.cells.size=size:=fun v hv=>hvs v (List.mem_of_mem_drop hv)
 obtain ⟨s1,s2,s3,s4,s5⟩:=zl3 (ys:=xs.drop lo) (us:=vs.drop lo) (lo:=k) (m:=m) hvl (by simp [hvl]) hvr (fun i x v hx hv=>by rw [List.getElem?_drop] at hx hv;exact hvr _ x v hx hv) hvs hdr hkm (by simp;omega)
 generalize hv:a.eval x=v at h1
 generalize hw:a.eval y=yv at h2
 have hnews:yG ((vs.drop lo).take m)=((yG vs).drop (lo * size)).take (m * size):=by rw [yI _ size hdr,zgv _ size hvs]
 have hfl:(yG ((vs.drop lo).take m)).length=m * size:=by
  rw [yL _ size (fun v hv=>hdr v (List.mem_of_mem_take hv)),List.length_take,List.length_drop,hvl,Nat.min_eq_left oo]
 have hone:∀ q∈yG ((vs.drop lo).take m),q.oneCell'=true:=by
  intro q hq
  obtain ⟨v,hv,hq⟩:=mem_flat.1 hq
  have hvm:v∈vs:=List.mem_of_mem_drop (List.mem_of_mem_take hv)
  obtain ⟨j,hj⟩:=List.getElem?_of_mem hvm
  have hlt:j < xs.length:=by rw [← hvl];exact (List.getElem?_eq_some_iff.1 hj).1
  have hc:=List.all_eq_true.1 hcell xs[j] (List.getElem_mem hlt)
  exact (hvr j _ v (List.getElem?_eq_getElem hlt) hj).cell_ok hc q hq
 cases h1 with
 | ms _ _ _ _ _ ver' u' A c hm' hv' hl hc h=>
  rw [hmr] at hm';cases hm'
  cases h2 with
  | ms _ _ _ _ _ ver' u' B d hm' hv' hl2 hc2 h2=>
   rw [hmr] at hm';cases hm'
   obtain ⟨A0,n0,c0,rfl,j1,j2,j3⟩:=h rfl
   obtain ⟨rfl,rfl⟩:=j2 rfl
   obtain ⟨A1,n1,c1,hu1,j4,j5,j6⟩:=h2 rfl
   simp only [Value.slice.injEq] at hu1
   obtain ⟨rfl,rfl,rfl⟩:=hu1
   simp only [zdX] at hsl
   subst hsl
   have hnc:xs.length≤c:=by
    rcases hown.2 with ⟨h0,h00⟩ | ⟨b',cap,cur,fz,hb1,hb2,hb3,hb4,hb5,hb6,hb7,hb8⟩
    ·omega
    ·simp at hb1;obtain ⟨_,rfl⟩:=hb1;exact hb5
   unfold runsTo
   by_cases hm0:m=0
   ·subst hm0
    have hrun:=run_append_none' (P:=P) (w:=w) (t:=t) (ty:=o.type) (zD ht) hie (B:=A) (n:=k) (cap:=c) hl (A:=B) (c:=d)
    have hexec:(execOp a.eval o).run P w=.ok (.value (.slice A k c)) w:=by
     rw [he]
     simp [builtin,hv,hw,hrun]
    rw [hexec]
    have e1:xs.take k++(xs.drop lo).take 0++xs.drop (k+0)=xs:=by simp
    have e2:upd σ r (.mrow ver e size xs)=σ:=by
     funext i
     by_cases hi:i=r
     ·subst hi;rw [zr,hp']
     ·rw [zg _ _ _ _ hi]
    refine ⟨g,g.le_refl,?_,.ms r ver size 0 k ver _ _ c hmr hv' hl hc fun _=>⟨_,_,_,rfl,j1,fun _=>⟨rfl,rfl⟩,j3⟩⟩
    show Sim W0 g (upd σ r _) n w
    rw [e1,e2];exact hS
   ·obtain ⟨b,rfl,rfl⟩:=j6 oo
    obtain ⟨w',hst,l1,l2,l3,l4,l5,l6⟩:=zdJ (P:=P) (off:=k * size) (news:=yG ((vs.drop lo).take m)) hown (by
     rw [hfl,hown.1,← Nat.add_mul];exact Nat.mul_le_mul_right _ oo) hone
    rw [← s5] at l1
    obtain ⟨g',hle,hS',hm2,_⟩:=hS.turnM (ver':=ver) (vs':=vs.take k++(vs.drop lo).take m++vs.drop (k+m)) hp' hmr (.inl ⟨rfl,rfl⟩) (by rw [s2];exact l1) (by simp only [zdX];rw [s2]) s1 s3 s4 l2 l3 l4 l5 (.inl rfl) (fun j hj _=>l6 j (fun e=>hj (by rw [e];rfl)))
    have hcells:∀ (j:Nat) (u:Value),(yG ((vs.drop lo).take m))[j]?=some u→w.cell? ((⟨b,lo * size,none⟩:Addr).add j)=some u:=fun j u hu=>by
     rw [Addr.add_lit]
     rw [hnews,List.getElem?_take,List.getElem?_drop] at hu
     split at hu
     ·exact hown.cells (g:=b) rfl _ u hu
     ·cases hu
    rcases hown.2 with ⟨h0,h00⟩ | ⟨b',cap,cur,fz,hb1,hb2,hb3,hb4,hb5,hb6,hb7,hb8⟩
    ·simp at h0
    ·simp at hb1
     obtain ⟨rfl,rfl⟩:=hb1
     have hrow:=zdT (P:=P) w t o.type e ie (zD ht) hie b k c cur fz hb3 hb4 ⟨b,lo * size,none⟩ m d (yG ((vs.drop lo).take m)) (by rw [hfl,hsi]) hcells hone oo (by rw [hsi,hfl,hb7,← Nat.add_mul];exact Nat.mul_le_mul_right _ oo)
     have hst2:=wM (P:=P) b (k * size) e fz (yG ((vs.drop lo).take m)) 0 cur w hb3 hb4 (by rw [hfl,hb7,Nat.add_zero,← Nat.add_mul];exact Nat.mul_le_mul_right _ oo) hone
     rw [hst2] at hst
     simp only [Nat.add_zero,Result.ok.injEq,true_and] at hst
     rw [hsi,hst] at hrow
     have hexec:(execOp a.eval o).run P w=.ok (.value (.slice (some ⟨b,0,none⟩) (k+m) c)) w':=by
      rw [he]
      simp [builtin,hv,hw,hrow]
     rw [hexec]
     exact ⟨g',hle,hS',.ms r ver size 0 (k+m) ver _ _ c hm2 (Nat.le_refl _) oo hc fun _=>⟨_,_,_,rfl,by omega,fun _=>⟨rfl,rfl⟩,fun _=>⟨b,rfl,by simp⟩⟩⟩
theorem zgK {P:Program} {o:Oper} {s:Slots} {id:Nat} {t e:TypeId} {x y:Operand} {lo:Option Operand} {r ver size len l h:Nat} {xs:List AV} (ho:o.op=.slice t x lo (some y) none) (ht:zT P t=some e) (hs:xL P e size=true) (hx:zl s x=.ms r ver size 0 len)
  (hl:bnd s 0 lo=some l) (hh:bnd s 0 (some y)=some h) (h1:l≤h) (h2:h≤xs.length):OpHolds P o s id [(r,.mrow ver e size xs)] (.ms r ver size l (h - l)) []:=by
 refine w9 (fun p hp=>by simp at hp;subst hp;simp) fun W0 g σ N w a hS hr hp=>?_
 have h3:=hr x (by simp [ho,Op.operands])
 have hlo:∀ x,lo=some x→Rep g (zl s x) (a.eval x):=fun x hx=>hr x (by simp [ho,Op.operands,hx])
 have hhi:∀ x,some y=some x→Rep g (zl s x) (a.eval x):=fun x hx=>hr x (by simp [ho,Op.operands];simp at hx;simp [hx])
 rw [hx] at h3
 have hp':σ r=.mrow ver e size xs:=hp (r,.mrow ver e size xs) (by simp)
 obtain ⟨u,vs,hmr,hlen,hvl,hvr,hvs,hown⟩:=hS.mrowAt hp'
 obtain ⟨ie,hie,hsi⟩:=yo hs
 generalize hv:a.eval x=v at h3
 cases h3 with
 | ms _ _ _ _ _ ver' u' A c hm' hv' hlc hc hM=>
  rw [hmr] at hm';cases hm'
  obtain ⟨A0,n0,c0,rfl,j1,j2,j3⟩:=hM rfl
  obtain ⟨rfl,rfl⟩:=j2 rfl
  simp only [zdX] at hlen
  subst hlen
  have hnc:xs.length≤c:=by
   rcases hown.2 with ⟨h0,h00⟩ | ⟨b',cap,cur,fz,hb1,hb2,hb3,hb4,hb5,hb6,hb7,hb8⟩
   ·omega
   ·simp at hb1;obtain ⟨_,rfl⟩:=hb1;exact hb5
  have hh':bnd s len (some y)=some h:=hh
  have hb:=ju (P:=P) hl hh' hlo hhi h1 (by omega:h≤c) true w
  simp only [Option.map_some] at hb
  refine ⟨.slice (if c=l then A else A.map (·.add (l * size))) (h - l) (c - l),?_,.ms r ver size l (h - l) ver _ _ (c - l) hmr (Nat.le_refl _) oo oo fun _=>⟨A,_,c,rfl,by omega,fun hz=>?_,fun hz=>?_⟩⟩
  ·simp only [execOp,ho,Sem.run_bind,Instr.sliceAt,run_underlying (zD ht),Result.andThen_ok,hv,Instr.slice,Option.map_none,Option.map_some,hb,sizeOf,typeInfo,run_program,hie,Sem.run_pure,hsi]
  ·subst hz
   refine ⟨?_,by omega⟩
   split
   ·rfl
   ·cases A <;> simp [Addr.add]
  ·have hA:∃ b,A=some ⟨b,0,none⟩:=by
    rcases hown.2 with ⟨h0,h00⟩ | ⟨b',cap,cur,fz,hb1,hb2,hb3,hb4,hb5,hb6,hb7,hb8⟩
    ·omega
    ·simp at hb1;obtain ⟨rfl,_⟩:=hb1;exact ⟨_,rfl⟩
   obtain ⟨b,rfl⟩:=hA
   refine ⟨b,rfl,?_⟩
   rw [if_neg oo]
   simp [Addr.add_lit]
def zcH (P:Program) (σ:Nat→Ent) (t:TypeId) (u v:AV):Option Step:=
 match u,v with
 | .ms r ver size 0 k,.ms r' ver' size' lo m=>match σ r,zH P t with
  | .mrow v2 e size2 xs,some (e',size3,_,_)=>if r'=r∧ver'=ver∧size'=size∧v2=ver∧size2=size∧e'=e∧size3=size∧lo+m≤xs.length∧k+m≤xs.length∧xs.all (fun x=>x.cell)=true then some ⟨[(r,.mrow ver e size xs)],.ms r ver size 0 (k+m),[(r,.mrow ver e size (xs.take k++(xs.drop lo).take m++xs.drop (k+m)))]⟩ else none
  | _,_=>none
 | _,_=>none
def zit (P:Program) (s:Slots) (σ:Nat→Ent) (t:TypeId) (u:AV) (lo:Option Operand) (y:Operand):Option Step:=
 match u with
 | .ms r ver size 0 _=>match σ r,zH P t,bnd s 0 lo,bnd s 0 (some y) with
  | .mrow v2 e size2 xs,some (e',size3,_,_),some l,some h=>if v2=ver∧size2=size∧e'=e∧size3=size∧l≤h∧h≤xs.length then some ⟨[(r,.mrow ver e size xs)],.ms r ver size l (h - l),[]⟩ else none
  | _,_,_,_=>none
 | _=>none
theorem zgq {P:Program} {s:Slots} {σ:Nat→Ent} {id:Nat} {o:Oper} {st:Step} {t:TypeId} {x y:Operand} (ho:o.op=.call { callee:=.builtin .append,args:=#[x,y],argTypes:=#[t,t] }) (h:zcH P σ t (zl s x) (zl s y)=some st):Gives P o s σ id st:=by
 unfold zcH at h
 split at h
 ·rename_i hx hy
  split at h
  ·rename_i hr hs
   split at h
   ·rename_i hc
    obtain ⟨rfl,rfl,rfl,rfl,rfl,rfl,rfl,h8,h9,h10⟩:=hc
    cases h
    obtain ⟨k1,k2,k3,k4,k5,k6⟩:=zI hs
    exact ⟨zhB ho k1 k2 hx hy h8 h9 h10,fun p hp=>by simp at hp;subst hp;exact hr⟩
   ·cases h
  ·cases h
 ·cases h
theorem zko {P:Program} {s:Slots} {σ:Nat→Ent} {id:Nat} {o:Oper} {st:Step} {t:TypeId} {x y:Operand} {lo:Option Operand} (ho:o.op=.slice t x lo (some y) none) (h:zit P s σ t (zl s x) lo y=some st):Gives P o s σ id st:=by
 unfold zit at h
 split at h
 ·rename_i hx
  split at h
  ·rename_i hr hs hl hh
   split at h
   ·rename_i hc
    obtain ⟨rfl,rfl,rfl,rfl,h5,h6⟩:=hc
    cases h
    obtain ⟨k1,k2,k3,k4,k5,k6⟩:=zI hs
    exact ⟨zgK ho k1 k2 hx hl hh h5 h6,fun p hp=>by simp at hp;subst hp;exact hr⟩
   ·cases h
  ·cases h
 ·cases h
attribute [go_sem] zcH zit
section
variable {P:Program} {ops:Array Oper} {m i n:Nat} {T:Trace} {k:Cfg→Trace→Prop} {op:Op} {ty:TypeId} {pos:String} {after:Array Edge} {r:List Oper} {s:Slots} {σ:Nat→Ent}
theorem zhy {t:Tmp} {x y:Operand} {t':TypeId} {v:AV} {p q:Nat × Ent} (he:zcH P σ t' (zl s x) (zl s y)=some ⟨[p],v,[q]⟩) (h:aops P ops m r (i+1) ((i,[p],[q])::T) k ⟨upd s t v,upd σ q.1 q.2,n⟩):
  aops P ops m (⟨some t,.call { callee:=.builtin .append,args:=#[x,y],argTypes:=#[t',t'] },ty,pos,after,none⟩::r) i T k ⟨s,σ,n⟩:=
 kS (st:=⟨[p],v,[q]⟩) (fun _o ho=>zgq ho he) h
theorem zjg {t:Tmp} {x y:Operand} {lo:Option Operand} {t':TypeId} {v:AV} {p:Nat × Ent} (he:zit P s σ t' (zl s x) lo y=some ⟨[p],v,[]⟩) (h:aops P ops m r (i+1) ((i,[p],[])::T) k ⟨upd s t v,σ,n⟩):
  aops P ops m (⟨some t,.slice t' x lo (some y) none,ty,pos,after,none⟩::r) i T k ⟨s,σ,n⟩:=
 kS (st:=⟨[p],v,[]⟩) (fun _o ho=>zko ho he) h
end
inductive GlobAt (d h:Nat):Prop where
 | mk
theorem zfb {P:Program} {o:Oper} {s:Slots} {id:Nat} {t e:TypeId} {x i:Operand} {len size d h:Nat} {xs:List AV} {y:AV} {k:IntKind} {n:Int} (ho:o.op=.indexAddr t x i) (ht:zie P t=some (len,e)) (hs:xL P e size=true) (hx:zl s x=.lit (.pointer (some ⟨h,0,none⟩)))
  (hi:zl s i=.lit (.int k n)) (hn:0≤n) (hlt:n.toNat < len) (hy:xs[n.toNat]?=some y) (hk:AV.szl (xs.take n.toNat)=n.toNat * size):OpHolds P o s id [(d,.glob h (.agg xs))] (.view y) []:=by
 refine w9 (fun p hp=>by simp at hp;subst hp;simp) fun W0 g σ N w a hS hr hp=>?_
 have h1:=hr x (by simp [ho,Op.operands])
 have h2:=hr i (by simp [ho,Op.operands])
 rw [hx] at h1
 rw [hi] at h2
 have e1:=zN h1
 have e2:=zN h2
 have hE:=hS.ents d
 have hp':σ d=.glob h (.agg xs):=hp (d,.glob h (.agg xs)) (by simp)
 rw [hp'] at hE
 obtain ⟨_,_,_,_,hv⟩:=hE
 obtain ⟨ie,hie,hsz⟩:=yo hs
 generalize hpv:(Value.pointer (some ⟨h,0,none⟩))=pv at hv
 cases hv with
 | view _ v b off hvr hc=>
  simp only [Value.pointer.injEq,Option.some.injEq,Addr.mk.injEq,and_true] at hpv
  obtain ⟨rfl,rfl⟩:=hpv
  obtain ⟨u,hu,_,hcu⟩:=hvr.get (path:=[n.toNat]) (y:=y) (by simp [AV.get,hy])
  have:n < (len:Int):=by omega
  refine ⟨.pointer (some ⟨h,0+n.toNat * size,none⟩),?_,.view y u h _ hu fun j x hx=>?_⟩
  ·simp [execOp,ho,e1,e2,Instr.indexAt,asIntOf,run_underlying (wP ht),Instr.sureAddr,sizeOf,typeInfo,hie,hsz,Addr.add_lit,hn,this]
  ·have:=hc _ _ (hcu j x hx)
   simp only [AV.offs,hy,Nat.add_zero,hk] at this
   rw [← this];congr 1;omega
def zgs (P:Program) (σ:Nat→Ent) (d h:Nat) (t:TypeId) (u v:AV):Option Step:=
 match u,v,σ d with
 | .lit (.pointer (some ⟨h1,0,none⟩)),.lit (.int _ n),.glob h2 (.agg xs)=>match w7 P t,xs[n.toNat]? with
  | some (len,_,size),some y=>if h1=h∧h2=h∧0≤n∧n.toNat < len∧AV.szl (xs.take n.toNat)=n.toNat * size then some ⟨[(d,.glob h (.agg xs))],.view y,[]⟩ else none
  | _,_=>none
 | _,_,_=>none
theorem zi7 {P:Program} {s:Slots} {σ:Nat→Ent} {id:Nat} {o:Oper} {st:Step} {t:TypeId} {x i:Operand} {d h:Nat} (ho:o.op=.indexAddr t x i) (he:zgs P σ d h t (zl s x) (zl s i)=some st):Gives P o s σ id st:=by
 unfold zgs at he
 split at he
 ·rename_i hx hi hd
  split at he
  ·rename_i ha hy
   split at he
   ·rename_i hc
    obtain ⟨rfl,rfl,h3,h4,h5⟩:=hc
    cases he
    obtain ⟨k1,k2⟩:=vH ha
    exact ⟨zfb ho k1 k2 hx hi h3 h4 hy h5,fun p hp=>by simp at hp;subst hp;exact hd⟩
   ·cases he
  ·cases he
 ·cases he
attribute [go_sem] zgs
section
variable {P:Program} {ops:Array Oper} {m i n:Nat} {T:Trace} {k:Cfg→Trace→Prop} {op:Op} {ty:TypeId} {pos:String} {after:Array Edge} {r:List Oper} {s:Slots} {σ:Nat→Ent}
theorem zoa {t:Tmp} {x y:Operand} {t':TypeId} {v:AV} {p:Nat × Ent} {d h:Nat} (_hG:GlobAt d h) (he:zgs P σ d h t' (zl s x) (zl s y)=some ⟨[p],v,[]⟩) (h:aops P ops m r (i+1) ((i,[p],[])::T) k ⟨upd s t v,σ,n⟩):
  aops P ops m (⟨some t,.indexAddr t' x y,ty,pos,after,none⟩::r) i T k ⟨s,σ,n⟩:=
 kS (st:=⟨[p],v,[]⟩) (fun _o ho=>zi7 ho he) h
end
section
variable {W0:World} {g:Ghost} {σ:Nat→Ent} {n:Nat} {w:World}
theorem Sim.setLoop (h:Sim W0 g σ n w) {j l N:Nat} {r:Loop} {s:Slots} (hj:σ j=.loop l N r s):
  ∃ T:Array Value,T.size=N∧(∀ t,Rep g (s t) (T.getD t undef))∧w.heap[l]?=some (.loop { r with tmps:=T }) ∧
   ∀ r':Loop,Sim W0 g (upd σ j (.loop l N r' s)) n (w.putObj l (.loop { r' with tmps:=T })):=by
 have he:=h.ents j
 rw [hj] at he
 obtain ⟨k1,k2,k3,k4,⟨T,k5,k6,k7⟩,k8⟩:=he
 have hl:=h.lt (Ghost.blk_loc k4)
 refine ⟨T,k5,k6,k7,fun r'=>?_⟩
 have hjn:j < n:=by
  rcases Nat.lt_or_ge j n with h' | h'
  ·exact h'
  ·rw [h.bound j h'] at hj;cases hj
 refine h.change hjn g.le_refl ⟨h.below.os,h.below.tape,h.below.output,by simpa using h.below.size,fun b hb=>?_⟩ (fun b o v hv=>?_) (fun _ _=>⟨rfl,rfl,rfl,rfl⟩) (fun id hid b hb=>⟨⟨World.putObj_heap_other ?_,fun _=>rfl⟩,?_⟩)
  ⟨k1,k2,k3,k4,⟨T,k5,k6,World.putObj_heap_same hl⟩,k8⟩ (fun b hb=>?_) (by simp)
 ·have:=(h.fresh j l (Ghost.blk_loc k4)).1
  rw [World.putObj_heap_other oo];exact h.below.block b hb
 ·have hb:b≠l:=fun e=>by rw [e,k8] at hv;cases hv
  have:=h.imm b o v hv
  unfold World.cell? at this ⊢
  simp only [World.putObj_heap_other hb]
  exact this
 ·rintro rfl;exact hid (h.sep id j b hb (Ghost.blk_loc k4))
 ·intro e;exact hid (h.sep id j b hb e)
 ·simpa using h.fresh j b hb
end
def zcC (s:Slots):List Tmp→List AV→Slots
 | t::ps,v::vs=>zcC (upd s t v) ps vs
 | _,_=>s
theorem znu {g:Ghost} {N:Nat}:∀ (ps:List Tmp) (args:List AV) (vals:List Value) (s:Slots) (T:Array Value),args.length=ps.length→vals.length=args.length→(∀ t∈ps,t < N)→T.size=N →
  (∀ (i:Nat) (x:AV) (v:Value),args[i]?=some x→vals[i]?=some v→Rep g x v)→(∀ t,Rep g (s t) (T.getD t undef)) →
  ((ps.zip vals).foldl (fun (tmps:Array Value) (p:Tmp × Value)=>tmps.setIfInBounds p.1 p.2) T).size=N ∧
  ∀ t,Rep g (zcC s ps args t) (((ps.zip vals).foldl (fun (tmps:Array Value) (p:Tmp × Value)=>tmps.setIfInBounds p.1 p.2) T).getD t undef)
 | [],[],vals,s,T,_,hv,_,hT,_,hs=>by
  match vals,hv with
  | [],_=>exact ⟨hT,hs⟩
 | t::ps,a::args,vals,s,T,h1,hv,hlt,hT,hr,hs=>by
  match vals,hv with
  | v::vals,hv=>
   refine znu ps args vals (upd s t a) (T.setIfInBounds t v) (by simpa using h1) (by simpa using hv) (fun u hu=>hlt u (List.mem_cons_of_mem _ hu)) (by simpa using hT)
    (fun i x u hx hu=>hr (i+1) x u (by simpa using hx) (by simpa using hu)) fun u=>?_
   have ht:=hlt t (List.mem_cons_self ..)
   by_cases hut:u=t
   ·subst hut
    have:u < T.size:=Nat.lt_of_lt_of_eq ht hT.symm
    simp [zr,this]
    exact hr 0 a v rfl rfl
   ·rw [zg _ _ _ _ hut]
    have:=hs u
    simpa [Array.getElem?_setIfInBounds_ne (Ne.symm hut)] using this
 | [],_::_,_,_,_,h,_,_,_,_,_=>by simp at h
 | _::_,[],_,_,_,h,_,_,_,_,_=>by simp at h
def AYield (P:Program) (l:Nat) (args:List AV) (k:Nat) (pre:Foot) (v:AV) (post:Foot):Prop:=
 (∀ p∈pre,p.2≠.none)∧(∀ q∈post,∃ p∈pre,p.1=q.1) ∧
 ∀ (W0:World) (g:Ghost) (σ:Nat→Ent) (n:Nat) (w:World) (vals:List Value),Sim W0 g σ n w→vals.length=args.length→(∀ (i:Nat) (x:AV) (v:Value),args[i]?=some x→vals[i]?=some v→Rep g x v) →
  σ k=.none→k < n→(∀ p∈pre,σ p.1=p.2) →
  ∃ fn tmps assign body,(Instr.yield l vals.toArray).run P w=.ok (.round l fn tmps assign body) w ∧
   RoundIn Fence.wide 0 P l fn tmps assign body w fun e w'=>∃ u,e=.returned u∧∃ g',g.le g'∧Sim W0 g' (wr σ post) n w'∧Rep g' v u
theorem zol {P:Program} {o:Oper} {s:Slots} {id l:Nat} {x:Operand} {args:Array Operand} {ts:Array TypeId} {pre post:Foot} {v:AV} (ho:o.op=.call { callee:=.value x,args:=args,argTypes:=ts }) (hx:zl s x=.lit (.func (.yield l) #[] #[]))
  (h:AYield P l (args.toList.map (zl s)) id pre v post):OpHolds P o s id pre v post:=by
 obtain ⟨hp,hq,hrun⟩:=h
 refine ⟨hp,fun q hq'=>.inr (hq q hq'),fun W0 g σ n w a hS hr hf hn hpre=>?_⟩
 have h1:=hr x (by simp [ho,Op.operands,Call.operands])
 have h2:∀ y∈args,Rep g (zl s y) (a.eval y):=fun y hy=>hr y (by simp [ho,Op.operands,Call.operands,hy])
 rw [hx] at h1
 have hv:=zN h1
 obtain ⟨fn,tmps,assign,body,hy,hR⟩:=hrun W0 g σ n w (args.toList.map a.eval) hS (by simp) (fun i y u hy hu=>by
  rw [List.getElem?_map] at hy hu
  cases hz:args.toList[i]? with
  | none=>rw [hz] at hy;cases hy
  | some z=>
   rw [hz] at hy hu
   cases hy;cases hu
   exact h2 z (by have:=List.mem_of_getElem? hz;simpa using this)) hf hn hpre
 have hexec:(execOp a.eval o).run P w=.ok (.round l fn tmps assign body) w:=by
  simp only [execOp,ho,resolve,hv,Deferred.ofValue,Sem.run_bind,Sem.run_pure,Result.andThen_ok,invoke]
  rw [← hy]
  congr 2
  simp [← Array.toList_map]
 unfold runsTo
 rw [hexec]
 exact hR
def ww:AExit→Option Code
 | .normal=>none
 | .exit id=>some (.exit id)
 | .ret=>some .ret
def zmQ:AExit→Bool
 | .normal=>true
 | _=>false
def zdQ (r:Loop) (x:AExit):Loop:={ r with state:=if zmQ x then .ready else .done,pending:=ww x }
theorem zom (x:AExit):(ww x).isNone=zmQ x:=by cases x <;> rfl
theorem AYield.of_body {P:Program} {l N:Nat} {r:Loop} {s:Slots} {j k:Nat} {args:List AV} {pre ws post:Foot} {A B:Code} {ps:List Tmp} (x:AExit) (hmix:P.follows .mixedOrders=true)
  (hst:r.state=.ready) (hps:r.params.toList=ps) (hA:r.assign=A) (hB:r.body=B) (hargs:args.length=ps.length) (hlt:∀ t∈ps,t < N)
  (hokA:wJ N A=true) (hokB:wJ N B=true) (hnA:zbA A=true) (hnB:zbA B=true)
  (hpre:∀ p∈pre,p.2≠.none) (hjp:∀ p∈pre,p.1≠j) (hws:∀ q∈ws,∃ p∈pre,p.1=q.1) (hpost:∀ q∈post,∃ p∈pre,p.1=q.1)
  (h:∀ (σ:Nat→Ent) (n:Nat),(∀ p∈pre,σ p.1=p.2)→(∀ p∈pre,p.1 < n)→σ j=.loop l N r s→j < n→σ k=.none→k < n→(∀ id,n≤id→σ id=.none) →
   zfj (rn n k none) ws=post ∧
   aw P N A (fun e c=>e=.normal∧c.σ j=.loop l N r s ∧
    aw P N B (fun e c'=>e=x∧∀ id,id < n→c'.σ id=wr (upd σ j (.loop l N { r with state:=.busy } s)) ws id) ⟨c.s,upd c.σ j (.loop l N { r with state:=.busy } s),c.n⟩) ⟨zcC s ps args,σ,n⟩):
  AYield P l args k ((j,.loop l N r s)::pre) (.lit (.bool (zmQ x))) ((j,.loop l N (zdQ r x) s)::post):=by
 subst hA
 subst hB
 have hpre':∀ p∈(j,Ent.loop l N r s)::pre,p.2≠.none:=fun p hp=>by
  rcases List.mem_cons.1 hp with rfl | hp
  ·simp
  ·exact hpre p hp
 have main:∀ (W0:World) (g:Ghost) (σ:Nat→Ent) (n:Nat) (w:World) (vals:List Value),Sim W0 g σ n w→vals.length=args.length→(∀ (i:Nat) (x:AV) (v:Value),args[i]?=some x→vals[i]?=some v→Rep g x v) →
   σ k=.none→k < n→(∀ p∈(j,Ent.loop l N r s)::pre,σ p.1=p.2)→zfj (rn n k none) ws=post ∧
   ∃ fn tmps assign body,(Instr.yield l vals.toArray).run P w=.ok (.round l fn tmps assign body) w ∧
    RoundIn Fence.wide 0 P l fn tmps assign body w fun e w'=>∃ u,e=.returned u∧∃ g',g.le g'∧Sim W0 g' (wr σ ((j,.loop l N (zdQ r x) s)::post)) n w'∧Rep g' (.lit (.bool (zmQ x))) u:=by
  intro W0 g σ n w vals hS hvl hvr hk hkn hp
  have hp2:∀ p∈pre,σ p.1=p.2:=fun p hpm=>hp p (List.mem_cons_of_mem _ hpm)
  have hj:σ j=.loop l N r s:=hp _ (List.mem_cons_self ..)
  have hltn:∀ i,σ i≠.none→i < n:=fun i hi=>by
   rcases Nat.lt_or_ge i n with h' | h'
   ·exact h'
   ·exact absurd (hS.bound i h') hi
  have hjn:j < n:=hltn j (by rw [hj];simp)
  obtain ⟨hren,haw⟩:=h σ n hp2 (fun p hpm=>hltn p.1 (by rw [hp2 p hpm];exact hpre p hpm)) hj hjn hk hkn hS.bound
  refine ⟨hren,?_⟩
  obtain ⟨T,hT,hTs,hheap,_⟩:=hS.setLoop hj
  have hsz:vals.toArray.size=r.params.size:=by
   have:r.params.size=ps.length:=by rw [← hps];simp
   simp;omega
  have hy:=run_yield (P:=P) (args:=vals.toArray) hheap hsz
  refine ⟨_,_,_,_,hy,roundIn_of_wpIn trivial ?_⟩
  obtain ⟨q1,q2⟩:=znu ps args vals s T hargs hvl hlt hT hvr hTs
  have hfold:(r.params.zip vals.toArray).foldl (fun tmps (t,a)=>tmps.setIfInBounds t a) T=(ps.zip vals).foldl (fun (tmps:Array Value) (p:Tmp × Value)=>tmps.setIfInBounds p.1 p.2) T:=by
   rw [← Array.foldl_toList,Array.toList_zip,hps]
  have hSA:SimA W0 g N ⟨zcC s ps args,σ,n⟩ { tmps:=(r.params.zip vals.toArray).foldl (fun tmps (t,a)=>tmps.setIfInBounds t a) T,defers:=[] } w:=by
   rw [hfold];exact ⟨hS,q1,q2⟩
  show (r.assign).wpIn (Fence.wide.inRound l) 0 P _ _ w
  refine wpIn_mono (haw hokA hmix (some l) (.inr hnA) W0 g _ w hSA) fun e a1 w1 ⟨c1,g1,hle1,hS1,_,hq⟩=>?_
  cases e with
  | normal=>
   obtain ⟨_,hj1,haw2⟩:=hq
   obtain ⟨T1,hT1,hTs1,hheap1,hset1⟩:=hS1.sim.setLoop hj1
   have hSb:=hset1 { r with state:=.busy }
   refine ⟨_,run_beginRound (P:=P) hheap1 hst,?_⟩
   show (r.body).wpIn (Fence.wide.inRound l) 0 P _ _ _
   have hSA2:SimA W0 g1 N ⟨c1.s,upd c1.σ j (.loop l N { r with state:=.busy } s),c1.n⟩ a1 (w1.putObj l (.loop { { r with tmps:=T1 } with state:=.busy })):=⟨hSb,hS1.size,hS1.slots⟩
   refine wpIn_mono (haw2 hokB hmix (some l) (.inr hnB) W0 g1 _ _ hSA2) fun e a2 w2 ⟨c2,g2,hle2,hS2,_,hq2⟩=>?_
   have fin:∀ x':AExit,(x'=x∧∀ id,id < n→c2.σ id=wr (upd σ j (.loop l N { r with state:=.busy } s)) ws id) →
     ∃ v w',(Instr.endRound l (ww x')).run P w2=.ok v w'∧∃ u,Ending.returned v=.returned u∧∃ g',g.le g'∧Sim W0 g' (wr σ ((j,.loop l N (zdQ r x) s)::post)) n w'∧Rep g' (.lit (.bool (zmQ x))) u:=by
    rintro x' ⟨rfl,hag⟩
    have hjw:∀ q∈ws,q.1≠j:=fun q hq=>by obtain ⟨p,hp1,hp2⟩:=hws q hq;rw [← hp2];exact hjp p hp1
    have hj2:c2.σ j=.loop l N { r with state:=.busy } s:=by rw [hag j hjn,zbU _ _ _ hjw,zr]
    obtain ⟨T2,hT2,hTs2,hheap2,hset2⟩:=hS2.sim.setLoop hj2
    have hSe:=hset2 (zdQ r x')
    have hend:=run_endRound (P:=P) (ww x') hheap2
    rw [zom] at hend
    refine ⟨_,_,hend,_,rfl,?_⟩
    obtain ⟨g3,hle3,hS3,hrep3,_,_,hid⟩:=hS.leave (σ':=upd c2.σ j (.loop l N (zdQ r x') s)) (n':=c2.n) hSe (hle1.trans hle2) hk hkn (ws:=(j,.loop l N (zdQ r x') s)::ws) (fresh:=none) (post:=zfj (rn n k none) ((j,.loop l N (zdQ r x') s)::ws))
     (fun id hidn=>by
      rw [zF,wC _ _ _ _ hjw]
      by_cases hij:id=j
      ·subst hij;rw [zr,zr]
      ·rw [zg _ _ _ _ hij,zg _ _ _ _ hij,hag id hidn,wC _ _ _ _ hjw,zg _ _ _ _ hij])
     (fun q hq=>by
      rcases List.mem_cons.1 hq with rfl | hq
      ·simp only;rw [hj];simp
      ·obtain ⟨p,hp1,hp2'⟩:=hws q hq;rw [← hp2',hp2 p hp1];exact hpre p hp1) rfl
    refine ⟨g3,hle3,?_,.lit _ rfl⟩
    have hse:(fun t=>(s t).ren (rn n k none))=s:=funext fun t=>hid _ _ (hTs t)
    have:zfj (rn n k none) ((j,.loop l N (zdQ r x') s)::ws)=(j,.loop l N (zdQ r x') s)::post:=by
     rw [← hren]
     simp only [zfj,List.map_cons,Ent.ren,hse]
    rw [this] at hS3
    exact hS3
   cases e with
   | normal=>exact fin .normal hq2
   | ret=>exact fin .ret hq2
   | exit id=>exact fin (.exit id) hq2
   | goto=>exact hq2.elim
   | panic=>exact hq2.elim
   | outgrown=>exact hq2.elim
  | exit id=>exact absurd hq.1 (by simp)
  | ret=>exact absurd hq.1 (by simp)
  | goto=>exact hq.elim
  | panic=>exact hq.elim
  | outgrown=>exact hq.elim
 refine ⟨hpre',fun q hq=>?_,fun W0 g σ n w vals h1 h2 h3 h4 h5 h6=>(main W0 g σ n w vals h1 h2 h3 h4 h5 h6).2⟩
 rcases List.mem_cons.1 hq with rfl | hq
 ·exact ⟨_,List.mem_cons_self ..,rfl⟩
 ·obtain ⟨p,hp1,hp2⟩:=hpost q hq
  exact ⟨p,List.mem_cons_of_mem _ hp1,hp2⟩
theorem AYield.weaken {P:Program} {l k:Nat} {args args':List AV} {pre post:Foot} {v:AV} (h:AYield P l args' k pre v post) (hle:ALe args args'):AYield P l args k pre v post:=by
 obtain ⟨h1,h2,h3⟩:=h
 obtain ⟨hl,hle⟩:=hle.at
 refine ⟨h1,h2,fun W0 g σ n w vals hS hv hr hf hn hpre=>h3 W0 g σ n w vals hS (by rw [hv,hl]) (fun i y v hy hv'=>?_) hf hn hpre⟩
 obtain ⟨x,hx,hxy⟩:=hle i y hy
 exact hxy g v (hr i x v hx hv')
theorem zmP {P:Program} {ops:Array Oper} {m i:Nat} {r:List Oper} {T:Trace} {k:Cfg→Trace→Prop} {s:Slots} {σ:Nat→Ent} {n:Nat} {ty:TypeId} {pos:String} {after:Array Edge} {t:Tmp} {x:Operand} {args:Array Operand} {ts:Array TypeId} {l:Nat} {pre post:Foot} {v:AV} {as0:List AV}
  (hc:AYield P l as0 (m+i) pre v post) (hx:zl s x=.lit (.func (.yield l) #[] #[])) (hle:ALe (args.toList.map (zl s)) as0) (hp:∀ p∈pre,σ p.1=p.2)
  (h:aops P ops m r (i+1) (addT i ⟨pre,v,post⟩ T) k ⟨upd s t v,wr σ post,n⟩):aops P ops m (⟨some t,.call { callee:=.value x,args:=args,argTypes:=ts },ty,pos,after,none⟩::r) i T k ⟨s,σ,n⟩:=by
 rw [vp,yY,xl]
 exact ⟨⟨pre,v,post⟩,⟨zol rfl hx (hc.weaken hle),hp⟩,h⟩
theorem zly {P:Program} {rs:List ResultVar} {k:Nat} {σ0:Nat→Ent} {n0:Nat} {pre post:Foot} {r:AV} {c:Cfg} (h:aRet P rs k σ0 n0 pre r post .ret c):aRet P rs k σ0 n0 pre r post .normal c:=by unfold aRet at h ⊢;exact h
theorem zdC {P:Program} {N:Nat} {b:Code} {Q:AExit→Cfg→Prop} {s:Slots} {σ:Nat→Ent} {n:Nat} (id:Nat) (path:List Nat) (e:TypeId) (size:Nat) {bt:TypeId} {c:AV} (hσ:σ id=.box bt c) (hc:c.get path=some .nils)
  (h:aw P N b Q ⟨s,upd (upd σ n (.row e size 0)) id (.box bt (c.put path (.slice (some n) []))),n+1⟩):aw P N b Q ⟨s,σ,n⟩:=by
 refine qF (fun W0 g a w hS=>?_) h
 have hf:σ n=.none:=hS.sim.bound n (Nat.le_refl _)
 obtain ⟨g1,hle1,hS1,hrow1,_⟩:=(hS.sim.more (n':=n+1) (Nat.le_succ n)).addRow (k:=n) (e:=e) (size:=size) (m:=0) (u:=.slice none 0 0) (cells:=[]) hf (Nat.lt_succ_self n) (kz w _ e size) rfl (fun b hb=>by simp [Value.ownBlock] at hb) (fun b hb=>by simp [Value.ownBlock] at hb)
 refine ⟨g1,hle1,hS.turnIn hle1 hS1 (Nat.le_succ n) hσ (by rw [zg _ _ _ _ (fun e=>by rw [e,hf] at hσ;cases hσ)];exact hσ) hc (fun u hu=>?_) rfl rfl⟩
 cases hu
 exact .slice (some n) [] [] none 0 0 rfl (Nat.le_refl _) (by unfold maxLen;omega) (fun i x v h _=>by simp at h) (fun v hv=>by simp at hv) (.inl rfl) (fun id hid=>by cases hid;exact ⟨_,hrow1,Nat.le_refl _,fun _=>rfl⟩)
def fgv:AV→AV
 | .slice _ xs=>.slice none xs
 | .nils=>.slice none []
 | .clip xs=>.slice none xs
 | x=>x
theorem zwi (x:AV):AV.le x (fgv x):=by
 cases x with
 | slice o xs=>exact AV.le_own o xs
 | nils=>exact AV.le_nils0
 | clip xs=>exact AV.le_clip xs
 | _=>exact AV.le_refl _
@[go_sem] theorem zwj (o:Option Nat) (xs:List AV):fgv (.slice o xs)=.slice none xs:=rfl
@[go_sem] theorem zxv:fgv .nils=.slice none []:=rfl
@[go_sem] theorem zxu (xs:List AV):fgv (.clip xs)=.slice none xs:=rfl
def fg (ts:List Nat) (s:Slots):Slots:=fun t=>if ts.contains t then fgv (s t) else s t
@[go_sem] theorem zwh (ts:List Nat) (s:Slots) (t:Nat):fg ts s t=if ts.contains t then fgv (s t) else s t:=rfl
theorem SKeep.fg {L ts:List Nat} {s s':Slots} (hts:ts.all (fun x=>L.contains x)=true) (h:SKeep L s s'):SKeep L s (fg ts s'):=fun t ht=>by
 have:ts.contains t=false:=by
  rw [Bool.eq_false_iff]
  intro hc
  have hm:t∈ts:=by simpa using hc
  exact ht (by have:=List.all_eq_true.1 hts t hm;simpa using this)
 rw [zwh,this]
 exact h t ht
theorem SimA.fg {W0:World} {g:Ghost} {N:Nat} {s:Slots} {σ:Nat→Ent} {n:Nat} {a:Act} {w:World} (ts:List Nat) (h:SimA W0 g N ⟨s,σ,n⟩ a w):SimA W0 g N ⟨Go.Ab.fg ts s,σ,n⟩ a w:=
 ⟨h.sim,h.size,fun t=>by
  simp only [zwh]
  split
  ·exact zwi _ _ _ (h.slots t)
  ·exact h.slots t⟩
theorem zsG {P:Program} {N:Nat} {b:Code} {Q:AExit→Cfg→Prop} {s:Slots} {σ:Nat→Ent} {n:Nat} (ts:List Nat) (bnd:Nat) (hmix:P.follows .mixedOrders=true) (hok:wJ N b=true) (mods ents:List Nat) (hts:ts.all (fun x=>mods.contains x)=true) (I:Nat→Slots→(Nat→Ent)→Nat→Prop)
  (h0:∃ m,I m (fg ts s) σ n)
  (round:∀ m s' σ' n',SKeep mods s s'→EKeep bnd ents σ σ'→n≤n'→I m s' σ' n'→aw P N b (aThen (fun c'=>SKeep mods s c'.s∧EKeep bnd ents σ c'.σ∧n≤c'.n∧∃ m',m' < m∧I m' (fg ts c'.s) c'.σ c'.n) Q) ⟨s',σ',n'⟩):aw P N (.loop b) Q ⟨s,σ,n⟩:=by
 obtain ⟨m0,h0⟩:=h0
 intro hok' hmix' ro hro W0 g a w hS
 refine zdO (X:=Cfg × Nat) (fun x a' w=>∃ g',g.le g'∧SimA W0 g' N x.1 a' w∧Marks g g' a.defers a'.defers∧SKeep mods s x.1.s∧EKeep bnd ents σ x.1.σ∧n≤x.1.n∧I x.2 x.1.s x.1.σ x.1.n) (fun x=>x.2) (⟨fg ts s,σ,n⟩,m0) ⟨g,g.le_refl,hS.fg ts,.refl _ _ _,(SKeep.refl _ _).fg hts,EKeep.refl _ _ _,Nat.le_refl _,h0⟩ fun x a w ⟨g',hle,hS',hM,k1,k2,k3,hI⟩=>?_
 obtain ⟨⟨s',σ',n'⟩,m⟩:=x
 refine wpIn_mono (round m s' σ' n' k1 k2 k3 hI hok hmix ro hro.loop W0 g' a w hS') fun e a' w' ⟨c',g'',hle',hS'',hM',hq⟩=>?_
 cases e with
 | normal=>
  obtain ⟨q1,q2,q3,m',q4,q5⟩:=hq
  exact ⟨(⟨fg ts c'.s,c'.σ,c'.n⟩,m'),⟨g'',hle.trans hle',hS''.fg ts,hM.trans hle hle' hM',q1.fg hts,q2,q3,q5⟩,q4⟩
 | exit id=>exact ⟨c',g'',hle.trans hle',hS'',hM.trans hle hle' hM',hq⟩
 | ret=>exact ⟨c',g'',hle.trans hle',hS'',hM.trans hle hle' hM',hq⟩
 | goto=>exact hq.elim
 | panic=>exact hq.elim
 | outgrown=>exact hq.elim
theorem zrd {P:Program} {N:Nat} {b:Code} {Q:AExit→Cfg→Prop} {s:Slots} {σ:Nat→Ent} {n:Nat} (ts:List Nat) (hmix:P.follows .mixedOrders=true) (hok:wJ N b=true) (mods ents:List Nat) (hts:ts.all (fun x=>mods.contains x)=true) (I:Nat→Slots→(Nat→Ent)→Nat→Prop)
  (h0:∃ m,I m (fg ts s) σ n)
  (round:∀ m s' σ' n',SKeep mods s s'→EKeep n ents σ σ'→n≤n'→I m s' σ' n'→aw P N b (aThen (fun c'=>SKeep mods s c'.s∧EKeep n ents σ c'.σ∧n≤c'.n∧∃ m',m' < m∧I m' (fg ts c'.s) c'.σ c'.n) Q) ⟨s',σ',n'⟩):aw P N (.loop b) Q ⟨s,σ,n⟩:=
 zsG ts n hmix hok mods ents hts I h0 round
theorem zeY {P:Program} {N:Nat} {b:Code} {Q:AExit→Cfg→Prop} {s:Slots} {σ:Nat→Ent} {n:Nat} (B bnd:Nat) (hmix:P.follows .mixedOrders=true) (hok:wJ N b=true) (mods ents:List Nat) (I0:Slots→(Nat→Ent)→Nat→Prop) (I:Nat→Slots→(Nat→Ent)→Nat→Prop)
  (h0:I0 s σ n)
  (first:∀ s' σ' n',SKeep mods s s'→EKeep bnd ents σ σ'→n≤n'→I0 s' σ' n'→aw P N b (aThen (fun c'=>SKeep mods s c'.s∧EKeep bnd ents σ c'.σ∧n≤c'.n∧∃ m',m' < B∧I m' c'.s c'.σ c'.n) Q) ⟨s',σ',n'⟩)
  (round:∀ m s' σ' n',SKeep mods s s'→EKeep bnd ents σ σ'→n≤n'→I m s' σ' n'→aw P N b (aThen (fun c'=>SKeep mods s c'.s∧EKeep bnd ents σ c'.σ∧n≤c'.n∧∃ m',m' < m∧I m' c'.s c'.σ c'.n) Q) ⟨s',σ',n'⟩):aw P N (.loop b) Q ⟨s,σ,n⟩:=by
 refine yn bnd hmix hok mods ents (fun m s' σ' n'=>(m=B∧I0 s' σ' n')∨(m < B∧I m s' σ' n')) ⟨B,.inl ⟨rfl,h0⟩⟩ fun m s' σ' n' k1 k2 k3 hI=>?_
 rcases hI with ⟨rfl,hI⟩ | ⟨hm,hI⟩
 ·refine zhZ (first s' σ' n' k1 k2 k3 hI) fun e c' hq=>?_
  cases e with
  | normal=>obtain ⟨q1,q2,q3,m',q4,q5⟩:=hq;exact ⟨q1,q2,q3,m',q4,.inr ⟨q4,q5⟩⟩
  | exit id=>exact hq
  | ret=>exact hq
 ·refine zhZ (round m s' σ' n' k1 k2 k3 hI) fun e c' hq=>?_
  cases e with
  | normal=>obtain ⟨q1,q2,q3,m',q4,q5⟩:=hq;exact ⟨q1,q2,q3,m',q4,.inr ⟨Nat.lt_trans q4 hm,q5⟩⟩
  | exit id=>exact hq
  | ret=>exact hq
theorem zjp {P:Program} {o:Oper} {s:Slots} {id:Nat} {t e:TypeId} {x i:Operand} {len size:Nat} {xs:List AV} {y:AV} {k:IntKind} {n:Int} (ho:o.op=.index t x i) (ht:zie P t=some (len,e)) (hs:xL P e size=true) (hx:zl s x=.agg xs)
  (hi:zl s i=.lit (.int k n)) (hn:0≤n) (hlt:n.toNat < len) (hy:xs[n.toNat]?=some y) (hk:AV.szl (xs.take n.toNat)=n.toNat * size) (hT:zqt P e y.isAgg y.sz=true) (h1:y.isAgg=true∨y.one=true):OpHolds P o s id [] y []:=
 yj fun g w a hr=>by
  have h1':=hr x (by simp [ho,Op.operands])
  have h2:=hr i (by simp [ho,Op.operands])
  rw [hx] at h1'
  rw [hi] at h2
  have e2:=zN h2
  generalize hv:a.eval x=v at h1'
  obtain ⟨ie,hie,hsz⟩:=yo hs
  cases h1' with
  | agg _ vs hvl hvr=>
   have hR:Rep g (.agg xs) (.agg (yG vs).toArray):=.agg xs vs hvl hvr
   obtain ⟨u,hu,hub,huc⟩:=hR.get (path:=[n.toNat]) (y:=y) (by simp [AV.get,hy])
   have ho':(AV.agg xs).offs [n.toNat]=n.toNat * size:=by simp [AV.offs,hy,hk]
   rw [ho'] at hub huc
   have hp:=ziB (P:=P) hu hT h1 (cs:=(yG vs).toArray) (off:=n.toNat * size) (fun j q hq=>by simpa [vY] using huc j q hq) (by simpa [vY] using hub) w
   refine ⟨u,?_,hu⟩
   have hlt':n < (len:Int):=by omega
   simp [execOp,ho,hv,e2,Instr.index,asIntOf,run_underlying (wP ht),hn,hlt',sizeOf,typeInfo,hie,hsz,hp]
def zgt (P:Program) (t:TypeId) (u v:AV):Option AV:=
 match u,v with
 | .agg xs,.lit (.int _ n)=>match w7 P t,xs[n.toNat]? with
  | some (len,e,size),some y=>if (0≤n∧n.toNat < len∧AV.szl (xs.take n.toNat)=n.toNat * size)∧zx P e=some (y.isAgg,y.sz)∧(y.isAgg=true∨y.one=true) then some y else none
  | _,_=>none
 | _,_=>none
attribute [go_sem] zgt AV.one
theorem zgy {P:Program} {ops:Array Oper} {m i n:Nat} {T:Trace} {k:Cfg→Trace→Prop} {ty:TypeId} {pos:String} {after:Array Edge} {r:List Oper} {s:Slots} {σ:Nat→Ent} {t:Tmp} {x y:Operand} {t':TypeId} {v:AV} (he:zgt P t' (zl s x) (zl s y)=some v)
  (h:aops P ops m r (i+1) T k ⟨upd s t v,σ,n⟩):aops P ops m (⟨some t,.index t' x y,ty,pos,after,none⟩::r) i T k ⟨s,σ,n⟩:=
 kS (st:=⟨[],v,[]⟩) (fun o ho=>by
  unfold zgt at he
  split at he
  ·rename_i hx hi
   split at he
   ·rename_i ht hy
    split at he
    ·rename_i hc
     cases he
     obtain ⟨⟨c1,c2,c3⟩,c4,c5⟩:=hc
     obtain ⟨k1,k2⟩:=vH ht
     exact .mk0 (zjp ho k1 k2 hx hi c1 c2 hy c3 (kZ c4).1 c5)
    ·cases he
   ·cases he
  ·cases he) h
structure Later (q:Prop):Prop where
 out:q
theorem Wk {p q:Prop} (h:q) (h2:Later q→p:=by intro hq;(repeat (first | apply zmL | apply zjj | apply zgz | apply zgA | (apply zgB;· (first | (simp [addT,CF,CFy,Ind,zpD];done) | (simp only [addT,CF,CFy,Ind];repeat' (first | exact trivial | apply And.intro | exact Or.inl (by decide +kernel) | (refine Or.inr ⟨?_,?_⟩ <;> (simp;try omega)))))) | apply zek | apply zbg | apply zcn | apply zmI | apply zdb | apply kP | (apply zbe;· rfl) | apply zmO | (apply xI;· (simp only [List.length_cons,List.length_nil,Nat.reduceAdd,Nat.add_assoc];rfl)) | apply zjl | apply zgw | apply zgD | apply zgC | apply zji | apply zmN | (apply zre;(· assumption);· (simp (disch:=omega) [go_sem, *,-List.reduceReplicate];first | exact ⟨rfl,rfl⟩ | (simp [go_sem, *];exact ⟨rfl,rfl⟩))) | (apply zod;(· assumption);· (simp (disch:=omega) [go_sem, *,-List.reduceReplicate];try first | rfl | exact ⟨rfl,rfl⟩ | exact ⟨rfl,rfl,rfl⟩)) | (apply zfI;(· rfl);· (simp (disch:=omega) [go_sem, *,-List.reduceReplicate];try first | rfl | omega)) | (apply zej;(· rfl);· (simp (disch:=omega) [go_sem, *,-List.reduceReplicate];try first | rfl | omega)) | (apply zfJ;(· rfl);· (simp (disch:=omega) [go_sem, *,-List.reduceReplicate];try rfl)) | ((first | apply zoc | apply zjf | apply zob | apply zlC | apply zje | apply zn9 | apply zlx | apply zjh | apply zjm | apply zgy);· (simp (disch:=omega) [go_sem, *,-List.reduceReplicate];try first | rfl | exact ⟨rfl,rfl⟩ | exact ⟨rfl,rfl,rfl⟩)) | ((first | apply zlz | apply zhw | apply zjg);· (simp (disch:=omega) [go_sem, *,-List.reduceReplicate];try first | rfl | exact ⟨rfl,rfl⟩ | exact ⟨rfl,rfl,rfl⟩)) | (apply zhy;· (simp (disch:=omega) [go_sem, *,-List.reduceReplicate];try first | rfl | exact ⟨rfl,rfl⟩ | exact ⟨rfl,rfl,rfl⟩)) | ((first | (apply zhx;· rfl) | (apply zjk;· rfl) | (apply zdD;· rfl));· (simp (disch:=omega) [go_sem, *,-List.reduceReplicate];try first | rfl | exact ⟨rfl,rfl⟩ | exact ⟨rfl,rfl,rfl⟩)) | ((apply zoa;· assumption);· (simp (disch:=omega) [go_sem, *,-List.reduceReplicate];try first | rfl | exact ⟨rfl,rfl⟩ | exact ⟨rfl,rfl,rfl⟩)) | (apply zlB;(· rfl);· (simp (disch:=omega) [go_sem, *,-List.reduceReplicate];try first | rfl | exact ⟨rfl,rfl⟩ | exact ⟨rfl,rfl,rfl⟩)) | (apply zrf;(· rfl);· (simp (disch:=omega) [go_sem, *,-List.reduceReplicate];try first | rfl | exact ⟨rfl,rfl⟩ | exact ⟨rfl,rfl,rfl⟩)) | (apply zoe;(· rfl);· (simp (disch:=omega) [go_sem, *,-List.reduceReplicate];try first | rfl | exact ⟨rfl,rfl⟩ | exact ⟨rfl,rfl,rfl⟩)) | (apply zn8;· (simp (disch:=omega) [go_sem, *,-List.reduceReplicate];try first | rfl | exact ⟨rfl,rfl⟩ | exact ⟨rfl,rfl,rfl⟩)) | ((first | (apply zjk;· rfl) | (apply zdD;· rfl));· (simp (disch:=omega) [go_sem, *,-List.reduceReplicate];simp [go_sem, *];try first | rfl | exact ⟨rfl,rfl⟩)) | (apply zlw;· (simp (disch:=omega) [go_sem, *,-List.reduceReplicate];try first | rfl | omega;done)) | (apply zgx;· (simp (disch:=omega) [go_sem, *,-List.reduceReplicate];try first | rfl | omega;done)) | ((first | refine jN (hcs.1 _) (by simp (disch:=omega) [go_sem, *,-List.reduceReplicate];try rfl) (by simp (disch:=omega) [go_sem, *,-List.reduceReplicate];repeat' first | exact ALe.nil | exact AV.le_refl _ | exact AV.le_nils | exact AV.le_own _ _ | apply ALe.cons | apply AV.sub_agg) (by simp (disch:=omega) [go_sem, *,-List.reduceReplicate]) ?_ | refine zmP (hcs.1 _) (by simp (disch:=omega) [go_sem, *,-List.reduceReplicate];try rfl) (by simp (disch:=omega) [go_sem, *,-List.reduceReplicate];repeat' first | exact ALe.nil | exact AV.le_refl _ | exact AV.le_nils | exact AV.le_own _ _ | apply ALe.cons | apply AV.sub_agg) (by simp (disch:=omega) [go_sem, *,-List.reduceReplicate]) ?_);have hcs:=hcs.2)));exact hq.out):p:=h2 ⟨h⟩
theorem Wm {p q:Prop} (h:q) (h2:Later q→p:=by intro hq;(repeat (first | apply zmL | apply zjj | apply zgz | apply zgA | (apply zgB;· (first | (simp [addT,CF,CFy,Ind,zpD];done) | (simp only [addT,CF,CFy,Ind];repeat' (first | exact trivial | apply And.intro | exact Or.inl (by decide +kernel) | (refine Or.inr ⟨?_,?_⟩ <;> (simp;try omega)))))) | apply zek | apply zbg | apply zcn | apply zmI | apply zdb | apply kP | (apply zbe;· rfl) | apply zmO | apply zjl | apply zgw | apply zgD | apply zgC | apply zji | apply zmN | (apply zre;(· assumption);· (simp (disch:=omega) [go_sem, *,-List.reduceReplicate];first | exact ⟨rfl,rfl⟩ | (simp [go_sem, *];exact ⟨rfl,rfl⟩))) | (apply zod;(· assumption);· (simp (disch:=omega) [go_sem, *,-List.reduceReplicate];try first | rfl | exact ⟨rfl,rfl⟩ | exact ⟨rfl,rfl,rfl⟩)) | (apply zfI;(· rfl);· (simp (disch:=omega) [go_sem, *,-List.reduceReplicate];try first | rfl | omega)) | (apply zej;(· rfl);· (simp (disch:=omega) [go_sem, *,-List.reduceReplicate];try first | rfl | omega)) | (apply zfJ;(· rfl);· (simp (disch:=omega) [go_sem, *,-List.reduceReplicate];try rfl)) | ((first | apply zoc | apply zjf | apply zob | apply zlC | apply zje | apply zn9 | apply zlx | apply zjh | apply zjm | apply zgy);· (simp (disch:=omega) [go_sem, *,-List.reduceReplicate];try first | rfl | exact ⟨rfl,rfl⟩ | exact ⟨rfl,rfl,rfl⟩)) | ((first | apply zlz | apply zhw | apply zjg);· (simp (disch:=omega) [go_sem, *,-List.reduceReplicate];try first | rfl | exact ⟨rfl,rfl⟩ | exact ⟨rfl,rfl,rfl⟩)) | (apply zhy;· (simp (disch:=omega) [go_sem, *,-List.reduceReplicate];try first | rfl | exact ⟨rfl,rfl⟩ | exact ⟨rfl,rfl,rfl⟩)) | ((first | (apply zhx;· rfl) | (apply zjk;· rfl) | (apply zdD;· rfl));· (simp (disch:=omega) [go_sem, *,-List.reduceReplicate];try first | rfl | exact ⟨rfl,rfl⟩ | exact ⟨rfl,rfl,rfl⟩)) | ((apply zoa;· assumption);· (simp (disch:=omega) [go_sem, *,-List.reduceReplicate];try first | rfl | exact ⟨rfl,rfl⟩ | exact ⟨rfl,rfl,rfl⟩)) | (apply zlB;(· rfl);· (simp (disch:=omega) [go_sem, *,-List.reduceReplicate];try first | rfl | exact ⟨rfl,rfl⟩ | exact ⟨rfl,rfl,rfl⟩)) | (apply zrf;(· rfl);· (simp (disch:=omega) [go_sem, *,-List.reduceReplicate];try first | rfl | exact ⟨rfl,rfl⟩ | exact ⟨rfl,rfl,rfl⟩)) | (apply zoe;(· rfl);· (simp (disch:=omega) [go_sem, *,-List.reduceReplicate];try first | rfl | exact ⟨rfl,rfl⟩ | exact ⟨rfl,rfl,rfl⟩)) | (apply zn8;· (simp (disch:=omega) [go_sem, *,-List.reduceReplicate];try first | rfl | exact ⟨rfl,rfl⟩ | exact ⟨rfl,rfl,rfl⟩)) | ((first | (apply zjk;· rfl) | (apply zdD;· rfl));· (simp (disch:=omega) [go_sem, *,-List.reduceReplicate];simp [go_sem, *];try first | rfl | exact ⟨rfl,rfl⟩)) | (apply zlw;· (simp (disch:=omega) [go_sem, *,-List.reduceReplicate];try first | rfl | omega;done)) | (apply zgx;· (simp (disch:=omega) [go_sem, *,-List.reduceReplicate];try first | rfl | omega;done)) | (first | (apply zmP (hcs.1 _);(focus (simp (disch:=omega) [go_sem, *,-List.reduceReplicate];(try rfl);done));(focus (simp (disch:=omega) [go_sem, *,-List.reduceReplicate];(repeat' first | exact ALe.nil | exact AV.le_refl _ | exact AV.le_nils | exact AV.le_own _ _ | apply ALe.cons | apply AV.sub_agg);done));(focus (simp (disch:=omega) [go_sem, *,-List.reduceReplicate];done));have hcs:=hcs.2) | (first | (apply jN (hcs.1 _);(focus (simp (disch:=omega) [go_sem, *,-List.reduceReplicate];(try rfl);done));(focus (simp (disch:=omega) [go_sem, *,-List.reduceReplicate];(repeat' first | exact ALe.nil | exact AV.le_refl _ | exact AV.le_nils | exact AV.le_own _ _ | apply ALe.cons | apply AV.sub_agg);done));(focus (simp (disch:=omega) [go_sem, *,-List.reduceReplicate];done));have hcs:=hcs.2) | (have hcs:=hcs.2;(first | (apply jN (hcs.1 _);(focus (simp (disch:=omega) [go_sem, *,-List.reduceReplicate];(try rfl);done));(focus (simp (disch:=omega) [go_sem, *,-List.reduceReplicate];(repeat' first | exact ALe.nil | exact AV.le_refl _ | exact AV.le_nils | exact AV.le_own _ _ | apply ALe.cons | apply AV.sub_agg);done));(focus (simp (disch:=omega) [go_sem, *,-List.reduceReplicate];done));have hcs:=hcs.2) | (have hcs:=hcs.2;(first | (apply jN (hcs.1 _);(focus (simp (disch:=omega) [go_sem, *,-List.reduceReplicate];(try rfl);done));(focus (simp (disch:=omega) [go_sem, *,-List.reduceReplicate];(repeat' first | exact ALe.nil | exact AV.le_refl _ | exact AV.le_nils | exact AV.le_own _ _ | apply ALe.cons | apply AV.sub_agg);done));(focus (simp (disch:=omega) [go_sem, *,-List.reduceReplicate];done));have hcs:=hcs.2) | (have hcs:=hcs.2;(first | (apply jN (hcs.1 _);(focus (simp (disch:=omega) [go_sem, *,-List.reduceReplicate];(try rfl);done));(focus (simp (disch:=omega) [go_sem, *,-List.reduceReplicate];(repeat' first | exact ALe.nil | exact AV.le_refl _ | exact AV.le_nils | exact AV.le_own _ _ | apply ALe.cons | apply AV.sub_agg);done));(focus (simp (disch:=omega) [go_sem, *,-List.reduceReplicate];done));have hcs:=hcs.2) | (have hcs:=hcs.2;(first | (apply jN (hcs.1 _);(focus (simp (disch:=omega) [go_sem, *,-List.reduceReplicate];(try rfl);done));(focus (simp (disch:=omega) [go_sem, *,-List.reduceReplicate];(repeat' first | exact ALe.nil | exact AV.le_refl _ | exact AV.le_nils | exact AV.le_own _ _ | apply ALe.cons | apply AV.sub_agg);done));(focus (simp (disch:=omega) [go_sem, *,-List.reduceReplicate];done));have hcs:=hcs.2) | (have hcs:=hcs.2;(first | (apply jN (hcs.1 _);(focus (simp (disch:=omega) [go_sem, *,-List.reduceReplicate];(try rfl);done));(focus (simp (disch:=omega) [go_sem, *,-List.reduceReplicate];(repeat' first | exact ALe.nil | exact AV.le_refl _ | exact AV.le_nils | exact AV.le_own _ _ | apply ALe.cons | apply AV.sub_agg);done));(focus (simp (disch:=omega) [go_sem, *,-List.reduceReplicate];done));have hcs:=hcs.2) | (have hcs:=hcs.2;(first | (apply jN (hcs.1 _);(focus (simp (disch:=omega) [go_sem, *,-List.reduceReplicate];(try rfl);done));(focus (simp (disch:=omega) [go_sem, *,-List.reduceReplicate];(repeat' first | exact ALe.nil | exact AV.le_refl _ | exact AV.le_nils | exact AV.le_own _ _ | apply ALe.cons | apply AV.sub_agg);done));(focus (simp (disch:=omega) [go_sem, *,-List.reduceReplicate];done));have hcs:=hcs.2) | (have hcs:=hcs.2;(apply jN (hcs.1 _);(focus (simp (disch:=omega) [go_sem, *,-List.reduceReplicate];(try rfl);done));(focus (simp (disch:=omega) [go_sem, *,-List.reduceReplicate];(repeat' first | exact ALe.nil | exact AV.le_refl _ | exact AV.le_nils | exact AV.le_own _ _ | apply ALe.cons | apply AV.sub_agg);done));(focus (simp (disch:=omega) [go_sem, *,-List.reduceReplicate];done));have hcs:=hcs.2))))))))))))))))));exact hq.out):p:=h2 ⟨h⟩
theorem Wz {p q:Prop} (h:q) (h2:Later q→p:=by intro hq;(try (apply xI;· (simp only [List.length_cons,List.length_nil,Nat.reduceAdd,Nat.add_assoc];rfl)));refine Wm ?_;exact hq.out):p:=h2 ⟨h⟩
theorem Wg {p q:Prop} (h:q) (h2:Later q→p:=by intro hq;(repeat (first | apply zmL | apply zjj | apply zgz | apply zgA | (apply zgB;· (first | (simp [addT,CF,CFy,Ind,zpD];done) | (simp only [addT,CF,CFy,Ind];repeat' (first | exact trivial | apply And.intro | exact Or.inl (by decide +kernel) | (refine Or.inr ⟨?_,?_⟩ <;> (simp;try omega)))))) | apply zek | apply zbg | apply zcn | apply zmI | apply zdb | apply kP | (apply zbe;· rfl) | apply zmO | (apply xI;· (simp only [List.length_cons,List.length_nil,Nat.reduceAdd,Nat.add_assoc];rfl)) | apply zjl | apply zgw | apply zgD | apply zgC | apply zji | apply zmN | (apply zre;(· assumption);· (simp (disch:=omega) [go_sem, *,-List.reduceReplicate];first | exact ⟨rfl,rfl⟩ | (simp [go_sem, *];exact ⟨rfl,rfl⟩))) | (apply zod;(· assumption);· (simp (disch:=omega) [go_sem, *,-List.reduceReplicate];try first | rfl | exact ⟨rfl,rfl⟩ | exact ⟨rfl,rfl,rfl⟩)) | (apply zfI;(· rfl);· (simp (disch:=omega) [go_sem, *,-List.reduceReplicate];try first | rfl | omega)) | (apply zej;(· rfl);· (simp (disch:=omega) [go_sem, *,-List.reduceReplicate];try first | rfl | omega)) | (apply zfJ;(· rfl);· (simp (disch:=omega) [go_sem, *,-List.reduceReplicate];try rfl)) | ((first | apply zoc | apply zjf | apply zob | apply zlC | apply zje | apply zn9 | apply zlx | apply zjh | apply zjm | apply zgy);· (simp (disch:=omega) [go_sem, *,-List.reduceReplicate];try first | rfl | exact ⟨rfl,rfl⟩ | exact ⟨rfl,rfl,rfl⟩)) | ((first | apply zlz | apply zhw | apply zjg);· (simp (disch:=omega) [go_sem, *,-List.reduceReplicate];try first | rfl | exact ⟨rfl,rfl⟩ | exact ⟨rfl,rfl,rfl⟩)) | (apply zhy;· (simp (disch:=omega) [go_sem, *,-List.reduceReplicate];try first | rfl | exact ⟨rfl,rfl⟩ | exact ⟨rfl,rfl,rfl⟩)) | ((first | (apply zhx;· rfl) | (apply zjk;· rfl) | (apply zdD;· rfl));· (simp (disch:=omega) [go_sem, *,-List.reduceReplicate];try first | rfl | exact ⟨rfl,rfl⟩ | exact ⟨rfl,rfl,rfl⟩)) | ((apply zoa;· assumption);· (simp (disch:=omega) [go_sem, *,-List.reduceReplicate];try first | rfl | exact ⟨rfl,rfl⟩ | exact ⟨rfl,rfl,rfl⟩)) | (apply zlB;(· rfl);· (simp (disch:=omega) [go_sem, *,-List.reduceReplicate];try first | rfl | exact ⟨rfl,rfl⟩ | exact ⟨rfl,rfl,rfl⟩)) | (apply zrf;(· rfl);· (simp (disch:=omega) [go_sem, *,-List.reduceReplicate];try first | rfl | exact ⟨rfl,rfl⟩ | exact ⟨rfl,rfl,rfl⟩)) | (apply zoe;(· rfl);· (simp (disch:=omega) [go_sem, *,-List.reduceReplicate];try first | rfl | exact ⟨rfl,rfl⟩ | exact ⟨rfl,rfl,rfl⟩)) | (apply zn8;· (simp (disch:=omega) [go_sem, *,-List.reduceReplicate];try first | rfl | exact ⟨rfl,rfl⟩ | exact ⟨rfl,rfl,rfl⟩)) | ((first | (apply zjk;· rfl) | (apply zdD;· rfl));· (simp (disch:=omega) [go_sem, *,-List.reduceReplicate];simp [go_sem, *];try first | rfl | exact ⟨rfl,rfl⟩))));exact hq.out):p:=h2 ⟨h⟩
theorem W0 {p:Prop} (h:p:=by refine Wk ?_;refine zmM (by simp (disch:=omega) [go_sem, *,-List.reduceReplicate];rfl) (by simp (disch:=omega) [go_sem];try rfl) (fun id hid=>by simp (disch:=omega) only [zg,zF,yi];try exact hlow id hid)):p:=h
theorem WL {p:Prop} (h:p:=by refine Wk ?_;refine vn (by simp (disch:=omega) [go_sem, *,-List.reduceReplicate];rfl) (AV.sub_tup (by repeat' first | exact ALe.nil | exact AV.le_refl _ | apply ALe.cons | ((first | apply AV.le_slices | apply AV.le_nilsE | apply AV.le_clipE);first | rfl | (simp (disch:=omega) [go_sem, *,-List.reduceReplicate];done)))) (by simp (disch:=omega) [go_sem];try rfl) (fun id hid=>by simp (disch:=omega) only [zg,zF,yi];try exact hlow id hid)):p:=h
theorem WM {p:Prop} (h:p:=by refine Wk ?_;refine vn (by simp (disch:=omega) [go_sem, *,-List.reduceReplicate];rfl) (by first | exact AV.le_refl _ | ((first | apply AV.le_slices | apply AV.le_nilsE | apply AV.le_clipE);first | rfl | (simp (disch:=omega) [go_sem, *,-List.reduceReplicate];done))) (by simp (disch:=omega) [go_sem];try rfl) (fun id hid=>by simp (disch:=omega) only [zg,zF,yi];try exact hlow id hid)):p:=h
theorem WA {p:Prop} (h:p:=by refine Wk ?_;refine vn (by simp (disch:=omega) [go_sem, *,-List.reduceReplicate];rfl) (AV.sub_agg (by repeat' first | exact ALe.nil | exact AV.le_refl _ | apply ALe.cons | ((first | apply AV.le_slices | apply AV.le_nilsE | apply AV.le_clipE);first | rfl | (simp (disch:=omega) [go_sem, *,-List.reduceReplicate];done)))) (by simp (disch:=omega) [go_sem,-List.reduceReplicate];try rfl) (fun id hid=>by simp (disch:=omega) only [zg,zF,yi];try exact hlow id hid)):p:=h
theorem WT {p:Prop} (h:p:=by refine Wk ?_;refine vn (by simp (disch:=omega) [go_sem, *,-List.reduceReplicate];rfl) (by exact AV.sub_tup (.cons (AV.sub_agg (by repeat' first | exact ALe.nil | exact AV.le_refl _ | apply ALe.cons | ((first | apply AV.le_slices | apply AV.le_nilsE | apply AV.le_clipE);first | rfl | (simp (disch:=omega) [go_sem, *,-List.reduceReplicate];done)))) (by repeat' first | exact ALe.nil | exact AV.le_refl _ | apply ALe.cons | ((first | apply AV.le_slices | apply AV.le_nilsE | apply AV.le_clipE);first | rfl | (simp (disch:=omega) [go_sem, *,-List.reduceReplicate];done))))) (by simp (disch:=omega) [go_sem];try rfl) (fun id hid=>by simp (disch:=omega) only [zg,zF,yi];try exact hlow id hid)):p:=h
theorem WD {p:Prop} (h:p:=by refine Wk ?_;refine vn (by simp (disch:=omega) [go_sem, *,-List.reduceReplicate];rfl) (AV.sub_tup (by repeat' first | exact ALe.nil | exact AV.le_refl _ | apply ALe.cons | apply AV.sub_agg | ((first | apply AV.le_slices | apply AV.le_nilsE | apply AV.le_clipE);first | rfl | (simp (disch:=omega) [go_sem, *,-List.reduceReplicate];done)))) (by simp (disch:=omega) [go_sem];try rfl) (fun id hid=>by simp (disch:=omega) only [zg,zF,yi];try exact hlow id hid)):p:=h
theorem WF {p:Prop} (h:p:=by first | (simp (disch:=omega) [go_sem, *,-List.reduceReplicate];done) | (simp (disch:=omega) [go_sem, *,-List.reduceReplicate];first | done | rfl | exact ⟨rfl,rfl⟩ | exact ⟨rfl,rfl,rfl⟩ | exact ⟨rfl,rfl,rfl,rfl⟩ | omega) | omega | rfl | assumption | (simp (disch:=omega) [go_sem, *,-List.reduceReplicate])):p:=h
theorem WC {p:Prop} (h:p:=by (try simp only);first | assumption | omega | (simp only [List.append_assoc,List.cons_append,List.nil_append,List.singleton_append];assumption) | (simp;done) | (simp;omega) | (simp;assumption) | (simp only [List.nil_append, *];done) | (simp (disch:=omega) [go_sem, *,-List.reduceReplicate])):p:=h
theorem WN {p:Prop} (h:p:=by first | omega | (simp only;omega)):p:=h
theorem WS {p:Prop} (h:p:=by (try simp only);(repeat (first | (with_reducible refine SKeep.upd rfl ?_) | assumption | (with_reducible refine SKeep.step (by assumption) rfl ?_)))):p:=h
theorem WG {p:Prop} (h:p:=by (try simp only [zF,yi]);(repeat (first | (with_reducible refine EKeep.updN (by first | omega | (simp only;omega)) ?_) | (with_reducible refine EKeep.updL (by simp) ?_) | assumption | (with_reducible refine EKeep.step (by assumption) (by first | omega | (simp only;omega)) (by simp;try omega) ?_) | (simp only [zF,yi])))):p:=h
theorem Bd {P:Program} {f:FuncId} {body:Code} {args:List AV} {k:Nat} {pre post:Foot} {r:AV} {fn:Func} {N:Nat} {rs:List ResultVar} (hf:P.funcs[f]?=some fn) (hN:fn.ntmps=N)
  (h:∀ (σ:Nat→Ent) (n:Nat),(∀ p∈pre,σ p.1=p.2)→(∀ p∈pre,p.1 < n)→σ k=.none→k < n→(∀ id,n≤id→σ id=.none)→aw P N body (aRet P rs k σ n pre r post) ⟨zcB args,σ,n⟩)
  (hb : fn.body = some body := by exact rfl) (hname : (fn.name == "runtime.NumGoroutine") = false := by kernel_rfl) (hok : wJ N body = true := by kernel_rfl) (hrs : fn.results.toList = rs := by exact rfl) (hargs : args.length ≤ N := by simp) (hpre : ∀ p ∈ pre, p.2 ≠ .none := by simp) (hpost : ∀ q ∈ post, q.1 = k ∨ ∃ p ∈ pre, p.1 = q.1 := by simp) (hmix : P.follows .mixedOrders = true := by exact zi) : ACall P f args k pre r post :=
 .of_body hmix hf hb hname hN hok hrs hargs hpre hpost h
theorem HD0 {σ:Nat→Ent} {n d:Nat} {E:Ent} (h:∀ p∈[(d,E)],σ p.1=p.2) (hn:∀ p∈[(d,E)],p.1 < n):σ d=E∧d < n:=⟨h _ (List.mem_singleton.2 rfl),hn _ (List.mem_singleton.2 rfl)⟩
theorem RW {P:Program} {rs:List ResultVar} {k:Nat} {σ0:Nat→Ent} {n0:Nat} {pre post:Foot} {r r':AV} {c:Cfg} (d:Nat) (E:Ent) (h1:kJ P c rs=some r':=by simp (disch:=omega) [go_sem, *,-List.reduceReplicate];rfl) (h2:r'.ren (rn n0 k none)=r:=by first | rfl | (simp (disch:=omega) [go_sem];done) | (simp (disch:=omega) [go_sem, *];done) | simp (disch:=omega) [go_sem])
  (h3:c.σ d=E:=by simp (disch:=omega) [go_sem, *]) (h3':∀ id,id < n0→id≠d→c.σ id=σ0 id:=by intro id hid hdd;first | exact hlow id hid hdd | (simp (disch:=omega) only [zg,zF,yi];try (first | exact hlow id hid hdd | exact hlow id hid))) (h4:∃ p∈pre,p.1=d:=by simp) (h5:zfj (rn n0 k none) [(d,E)]=post:=by simp (disch:=omega) [go_sem, *]):aRet P rs k σ0 n0 pre r post .ret c:=
 yd [(d,E)] h1 h2 (fun id hid=>by
  rw [zF,yi]
  by_cases hdd:id=d
  ·subst hdd;rw [zr,h3]
  ·rw [zg _ _ _ _ hdd];exact h3' id hid hdd) (by simpa using h4) h5
theorem RV {P:Program} {rs:List ResultVar} {k:Nat} {σ0:Nat→Ent} {n0:Nat} {pre post:Foot} {r r0:AV} {c:Cfg} (d:Nat) (E:Ent) (h1:kJ P c rs=some r0:=by simp (disch:=omega) [go_sem, *,-List.reduceReplicate];rfl) (hle:AV.le r0 r:=by first | exact AV.le_refl _ | ((first | apply AV.le_slices | apply AV.le_nilsE | apply AV.le_clipE);first | rfl | (simp (disch:=omega) [go_sem, *,-List.reduceReplicate];done)) | (apply AV.sub_tup;repeat' first | exact ALe.nil | exact AV.le_refl _ | apply ALe.cons | ((first | apply AV.le_slices | apply AV.le_nilsE | apply AV.le_clipE);first | rfl | (simp (disch:=omega) [go_sem, *,-List.reduceReplicate];done))) | (apply AV.sub_agg;repeat' first | exact ALe.nil | exact AV.le_refl _ | apply ALe.cons | ((first | apply AV.le_slices | apply AV.le_nilsE | apply AV.le_clipE);first | rfl | (simp (disch:=omega) [go_sem, *,-List.reduceReplicate];done)))) (h2:r.ren (rn n0 k none)=r:=by first | rfl | (simp (disch:=omega) [go_sem];done) | (simp (disch:=omega) [go_sem, *];done) | simp (disch:=omega) [go_sem])
  (h3:c.σ d=E:=by simp (disch:=omega) [go_sem, *]) (h3':∀ id,id < n0→id≠d→c.σ id=σ0 id:=by intro id hid hdd;first | exact hlow id hid hdd | (simp (disch:=omega) only [zg,zF,yi];try (first | exact hlow id hid hdd | exact hlow id hid))) (h4:∃ p∈pre,p.1=d:=by simp) (h5:zfj (rn n0 k none) [(d,E)]=post:=by simp (disch:=omega) [go_sem, *]):aRet P rs k σ0 n0 pre r post .ret c:=
 zfK [(d,E)] h1 hle h2 (fun id hid=>by
  rw [zF,yi]
  by_cases hdd:id=d
  ·subst hdd;rw [zr,h3]
  ·rw [zg _ _ _ _ hdd];exact h3' id hid hdd) (by simpa using h4) h5
theorem KS {L:List Nat} {s s':Slots} {x:AV} (h:SKeep L s s') (t:Nat) (ht:L.contains t=false:=by decide) (he:s t=x:=by simp (disch:=omega) [go_sem, *,-List.reduceReplicate];try rfl):s' t=x:=(h.at t ht).trans he
theorem KE {n:Nat} {L:List Nat} {σ σ':Nat→Ent} {x:Ent} (h:EKeep n L σ σ') (id:Nat) (hid:id < n:=by omega) (ht:id ∉ L:=by simp;try omega) (he:σ id=x:=by simp (disch:=omega) [go_sem, *,-List.reduceReplicate];try rfl):σ' id=x:=(h.at id hid ht).trans he
theorem KL {n N:Nat} {L:List Nat} {σ σ' σ'':Nat→Ent} (h:EKeep n L σ' σ'') (hN:N≤n:=by omega) (hL:∀ id,id < N→id ∉ L:=by intro id hid;simp;try omega) (hx:∀ id,id < N→σ' id=σ id:=by intro id hid;first | exact hlow id hid | (simp (disch:=omega) only [zg,zF,yi];try exact hlow id hid)):∀ id,id < N→σ'' id=σ id:=fun id hid=>(h.at id oo (hL id hid)).trans (hx id hid)
theorem KD {n N d:Nat} {L:List Nat} {σ σ' σ'':Nat→Ent} (h:EKeep n L σ' σ'') (hN:N≤n:=by omega) (hL:∀ id,id < N→id≠d→id ∉ L:=by intro id hid hdd;simp;try omega) (hx:∀ id,id < N→id≠d→σ' id=σ id:=by intro id hid hdd;first | exact hlow id hid hdd | (simp (disch:=omega) only [zg,zF,yi];try first | exact hlow id hid hdd | exact hlow id hid)):∀ id,id < N→id≠d→σ'' id=σ id:=fun id hid hdd=>(h.at id oo (hL id hid hdd)).trans (hx id hid hdd)
end Go.Ab
