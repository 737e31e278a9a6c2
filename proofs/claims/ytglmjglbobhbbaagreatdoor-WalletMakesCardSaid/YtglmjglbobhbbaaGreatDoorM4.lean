/- Texts B3, C1, C2, F, joined. -/
import Derived.Test.YtglmjglbobhbbaaGreatDoorM3
import Derived.Laws.BitsLemmas
import Derived.Test.YtglmjglbobhbbaaGreatDoorRows
import Derived.KernelRfl
namespace Go.Ab
open Go.RowKit
mutual
def AV.ren (f:Nat→Option Nat):AV→AV
 | .any=>.any
 | .lit v=>.lit v
 | .nils=>.nils
 | .slice own xs=>.slice (own.bind f) (AV.renl f xs)
 | .agg xs=>.agg (AV.renl f xs)
 | .ptr id p o=>match f id with
  | some j=>.ptr j p o
  | none=>.any
 | .view x=>.view (AV.ren f x)
 | .fn g xs=>.fn g (AV.renl f xs)
 | .tup xs=>.tup (AV.renl f xs)
 | .clip xs=>.clip (AV.renl f xs)
 | .ms id ver size lo len=>match f id with
  | some j=>.ms j ver size lo len
  | none=>.any
 | .mp id ver p o=>match f id with
  | some j=>.mp j ver p o
  | none=>.any
 | .bs id p lo o len=>match f id with
  | some j=>.bs j p lo o len
  | none=>.any
 | .iface t x=>.iface t (AV.ren f x)
def AV.renl (f:Nat→Option Nat):List AV→List AV
 | []=>[]
 | x::r=>AV.ren f x::AV.renl f r
end
theorem AV.renl_map (f:Nat→Option Nat) (xs:List AV):AV.renl f xs=xs.map (AV.ren f):=by
 induction xs with
 | nil=>rfl
 | cons x r ih=>simp [AV.renl,ih]
def Ent.ren (f:Nat→Option Nat):Ent→Ent
 | .none=>.none
 | .box t x=>.box t (x.ren f)
 | .fbox t x=>.fbox t (x.ren f)
 | .row e s n=>.row e s n
 | .mrow ver e s xs=>.mrow ver e s (AV.renl f xs)
 | .glob h x=>.glob h (x.ren f)
 | .mark=>.mark
 | .loop l N r s=>.loop l N r (fun t=>(s t).ren f)
theorem zjR {f:Nat→Option Nat} {xs:List AV} {i:Nat} {x:AV} (h:(AV.renl f xs)[i]?=some x):∃ y,xs[i]?=some y∧x=y.ren f:=by
 rw [AV.renl_map,List.getElem?_map] at h
 cases hy:xs[i]? with
 | none=>rw [hy] at h;cases h
 | some y=>rw [hy] at h;cases h;exact ⟨y,rfl,rfl⟩
theorem Rep.ren {g g2:Ghost} {f:Nat→Option Nat} (hG:∀ b o u,g.G b o=some u→g2.G b o=some u) (hl:∀ id j,f id=some j→∀ b,g.loc id=some b→g2.loc j=some b) (hr:∀ id j,f id=some j→∀ u,g.row id=some u→g2.row j=some u) (hm:∀ id j,f id=some j→∀ u,g.mr id=some u→g2.mr j=some u)
  {x:AV} {v:Value} (h:Rep g x v):Rep g2 (x.ren f) v:=by
 induction h with
 | any v h=>exact .any v h
 | lit v h=>exact .lit v h
 | nils=>exact .nils
 | slice own xs vs A c size hvl hc hmx _ hs hcell hown ih=>
  have hlen:(AV.renl f xs).length=xs.length:=by rw [AV.renl_map,List.length_map]
  have:=Rep.slice (g:=g2) (own.bind f) (AV.renl f xs) vs A c size (by rw [hlen];exact hvl) (by rw [hlen];exact hc) hmx (fun i x v hx hv=>by obtain ⟨y,hy,rfl⟩:=zjR hx;exact ih i y v hy hv) hs
   (by rw [hlen];exact hcell.imp id fun ⟨b,o,hA,hG'⟩=>⟨b,o,hA,fun j u hu=>hG _ _ _ (hG' j u hu)⟩) (fun id hid=>by
    cases own with
    | none=>cases hid
    | some i=>
     obtain ⟨u,h1,h2,h3⟩:=hown i rfl
     exact ⟨u,hr i id hid u h1,by rw [hlen];exact h2,fun he=>by rw [hlen] at he ⊢;exact h3 he⟩)
  rw [hlen] at this
  exact this
 | agg xs vs hvl _ ih=>exact .agg (AV.renl f xs) vs (by rw [AV.renl_map,List.length_map];exact hvl) fun i x v hx hv=>by obtain ⟨y,hy,rfl⟩:=zjR hx;exact ih i y v hy hv
 | ptr id path off b h=>
  simp only [AV.ren]
  split
  ·rename_i j hj;exact .ptr j path off b (hl id j hj b h)
  ·exact .any _ rfl
 | view x v b o _ hc ih=>exact .view _ v b o ih fun j u hu=>hG _ _ _ (hc j u hu)
 | fn k xs vs hvl _ ih=>exact .fn k (AV.renl f xs) vs (by rw [AV.renl_map,List.length_map];exact hvl) fun i x v hx hv=>by obtain ⟨y,hy,rfl⟩:=zjR hx;exact ih i y v hy hv
 | tup xs vs hvl _ ih=>exact .tup (AV.renl f xs) vs (by rw [AV.renl_map,List.length_map];exact hvl) fun i x v hx hv=>by obtain ⟨y,hy,rfl⟩:=zjR hx;exact ih i y v hy hv
 | clip xs A n _ ih=>exact .clip _ A n ih
 | ms id ver size lo len ver' u A c hmr hv hlc hc h=>
  simp only [AV.ren]
  split
  ·rename_i j hj;exact .ms j ver size lo len ver' u A c (hm id j hj _ hmr) hv hlc hc h
  ·exact .any _ rfl
 | mp id ver path off ver' u a hmr hv h=>
  simp only [AV.ren]
  split
  ·rename_i j hj;exact .mp j ver path off ver' u a (hm id j hj _ hmr) hv h
  ·exact .any _ rfl
 | bs id path lo off len b c h hlc hc=>
  simp only [AV.ren]
  split
  ·rename_i j hj;exact .bs j path lo off len b c (hl id j hj b h) hlc hc
  ·exact .any _ rfl
 | iface t x v _ ih=>exact .iface t _ v ih
theorem zrR {f:Nat→Option Nat} {xs:List AV} (h:∀ (i:Nat) (x:AV),xs[i]?=some x→x.ren f=x):AV.renl f xs=xs:=by
 rw [AV.renl_map]
 apply List.ext_getElem?
 intro i
 rw [List.getElem?_map]
 cases hx:xs[i]? with
 | none=>rfl
 | some x=>simp [h i x hx]
theorem Rep.ren_id {g:Ghost} {f:Nat→Option Nat} (hl:∀ id b,g.loc id=some b→f id=some id) (hr:∀ id u,g.row id=some u→f id=some id) (hmr:∀ id u,g.mr id=some u→f id=some id) {x:AV} {v:Value} (h:Rep g x v):x.ren f=x:=by
 have sub:∀ {xs:List AV} {vs:List Value},vs.length=xs.length→(∀ (i:Nat) (x:AV) (v:Value),xs[i]?=some x→vs[i]?=some v→x.ren f=x)→AV.renl f xs=xs:=fun {xs vs} hvl ih=>
  zrR fun i x hx=>by
   have hlt:i < vs.length:=by rw [hvl];exact (List.getElem?_eq_some_iff.1 hx).1
   exact ih i x _ hx (List.getElem?_eq_getElem hlt)
 induction h with
 | any v h=>rfl
 | lit v h=>rfl
 | nils=>rfl
 | slice own xs vs A c size hvl hc hm _ hs hcell hown ih=>
  simp only [AV.ren,sub hvl ih]
  cases own with
  | none=>rfl
  | some i=>
   obtain ⟨u,h1,_⟩:=hown i rfl
   simp [hr i u h1]
 | agg xs vs hvl _ ih=>simp only [AV.ren,sub hvl ih]
 | ptr id path off b h=>simp only [AV.ren,hl id b h]
 | view x v b o _ hc ih=>simp only [AV.ren,ih]
 | fn k xs vs hvl _ ih=>simp only [AV.ren,sub hvl ih]
 | tup xs vs hvl _ ih=>simp only [AV.ren,sub hvl ih]
 | clip xs A n _ ih=>simp only [AV.ren,AV.slice.injEq] at ih ⊢;rw [ih.2]
 | ms id ver size lo len ver' u A c hm hv hl hc h=>simp only [AV.ren,hmr id _ hm]
 | mp id ver path off ver' u a hm hv h=>simp only [AV.ren,hmr id _ hm]
 | bs id path lo off len b c h hlc hc=>simp only [AV.ren,hl id b h]
 | iface t x v _ ih=>simp only [AV.ren,ih]
theorem EntOK.ren {W0:World} {g g2:Ghost} {w:World} {f:Nat→Option Nat} {i j:Nat} {E:Ent} (h:EntOK W0 g w i E) (hG:g2.G=g.G) (hl:g2.loc j=g.loc i) (hr:g2.row j=g.row i) (ho:g2.own j=g.own i) (hm:g2.mr j=g.mr i)
  (hrep:∀ x v,Rep g x v→Rep g2 (x.ren f) v):EntOK W0 g2 w j (E.ren f):=by
 cases E with
 | none=>exact ⟨hl.trans h.1,hr.trans h.2.1,ho.trans h.2.2.1,hm.trans h.2.2.2⟩
 | glob q x=>
  obtain ⟨k1,k2,k3,⟨u,k4,k5⟩,k6⟩:=h
  exact ⟨hl.trans k1,hr.trans k2,ho.trans k3,⟨u,hm.trans k4,k5⟩,hrep (.view x) _ k6⟩
 | mark=>
  obtain ⟨k1,k2,b,u,k3,k4,k5,k6⟩:=h
  exact ⟨ho.trans k1,hm.trans k2,b,u,hl.trans k3,hr.trans k4,k5,fun o=>by rw [hG];exact k6 o⟩
 | loop l N r s=>
  obtain ⟨k1,k2,⟨u,k3⟩,k4,⟨T,k5,k6,k7⟩,k8⟩:=h
  exact ⟨ho.trans k1,hr.trans k2,⟨u,hm.trans k3⟩,hl.trans k4,⟨T,k5,fun t=>hrep _ _ (k6 t),k7⟩,fun o=>by rw [hG];exact k8 o⟩
 | box t x=>
  obtain ⟨k1,k2,k3,b,v,k4,k5,k6,k7⟩:=h
  exact ⟨hr.trans k1,ho.trans k2,hm.trans k3,b,v,hl.trans k4,hrep _ _ k5,k6,fun o=>by rw [hG];exact k7 o⟩
 | fbox t x=>
  obtain ⟨k1,k2,k3,b,v,k4,k5,k6,k7⟩:=h
  exact ⟨hr.trans k1,ho.trans k2,hm.trans k3,b,v,hl.trans k4,hrep _ _ k5,k6,fun o=>by rw [hG];exact k7 o⟩
 | row e size k=>
  obtain ⟨k1,u,cells,k3,k4,k5⟩:=h
  refine ⟨hl.trans k1,u,cells,hr.trans k3,k4,?_⟩
  rw [ho,hG]
  exact k5
 | mrow ver e size xs=>
  obtain ⟨k1,k2,k3,u,vs,k4,k5,k6,k7,k8,k9,k10⟩:=h
  have hlen:(AV.renl f xs).length=xs.length:=by rw [AV.renl_map,List.length_map]
  refine ⟨hl.trans k1,hr.trans k2,ho.trans k3,u,vs,hm.trans k4,by rw [hlen];exact k5,by rw [hlen];exact k6,fun i x v hx hv=>?_,k8,by rw [hlen];exact k9,by rw [hG];exact k10⟩
  obtain ⟨y,hy,rfl⟩:=zjR hx
  exact hrep _ _ (k7 i y v hy hv)
theorem EntOK.ren_id {W0:World} {g:Ghost} {w:World} {f:Nat→Option Nat} {i:Nat} {E:Ent} (h:EntOK W0 g w i E) (hrep:∀ x v,Rep g x v→x.ren f=x):E.ren f=E:=by
 cases E with
 | none=>rfl
 | glob q x=>have:=hrep (.view x) _ h.2.2.2.2;simp only [AV.ren,AV.view.injEq] at this;simp only [Ent.ren,this]
 | box t x=>obtain ⟨_,_,_,b,v,_,k5,_⟩:=h;simp only [Ent.ren,hrep _ _ k5]
 | fbox t x=>obtain ⟨_,_,_,b,v,_,k5,_⟩:=h;simp only [Ent.ren,hrep _ _ k5]
 | row e size k=>rfl
 | mark=>rfl
 | loop l N r s=>
  obtain ⟨_,_,_,_,⟨T,_,k6,_⟩,_⟩:=h
  simp only [Ent.ren]
  have:(fun t=>(s t).ren f)=s:=funext fun t=>hrep _ _ (k6 t)
  rw [this]
 | mrow ver e size xs=>
  obtain ⟨_,_,_,u,vs,_,_,k6,k7,_⟩:=h
  simp only [Ent.ren]
  rw [zrR fun i x hx=>?_]
  have hlt:i < vs.length:=by rw [k6];exact (List.getElem?_eq_some_iff.1 hx).1
  exact hrep _ _ (k7 i x _ hx (List.getElem?_eq_getElem hlt))
def qV (P:Program) (f:FuncId):Bool:=
 match P.funcs[f]? with
 | some fn => !(fn.name == "runtime.NumGoroutine") && fn.body.isSome
 | none=>false
def ACall (P:Program) (f:FuncId) (args:List AV) (k:Nat) (pre:Foot) (r:AV) (post:Foot):Prop:=
 qV P f=true∧(∀ p∈pre,p.2≠.none)∧(∀ q∈post,q.1=k∨∃ p∈pre,p.1=q.1) ∧
 ∀ (W0:World) (g:Ghost) (σ:Nat→Ent) (n:Nat) (w:World) (vals:List Value),Sim W0 g σ n w→vals.length=args.length→(∀ (i:Nat) (x:AV) (v:Value),args[i]?=some x→vals[i]?=some v→Rep g x v) →
  σ k=.none→k < n→(∀ p∈pre,σ p.1=p.2) →
  Calls P f vals.toArray w fun e w'=>∃ u,e=.returned u∧∃ g',g.le g'∧Sim W0 g' (wr σ post) n w'∧Rep g' r u
section
variable {P:Program} {o:Oper} {s:Slots} {id:Nat}
theorem qx {f:FuncId} {args:Array Value} {w:World} (h:qV P f=true):(callFunc f args).run P w=.ok (.enter f args) w:=by
 unfold qV at h
 split at h
 ·rename_i fn hfn
  simp only [Bool.and_eq_true,Bool.not_eq_true'] at h
  unfold callFunc
  simp only [Sem.run_bind,run_program,Result.andThen_ok,hfn]
  rw [if_neg (by simp [h.1])]
  cases hb:fn.body with
  | none=>rw [hb] at h;simp at h
  | some c=>simp
 ·cases h
theorem zp0 {x:Operand} {args:Array Operand} {ts:Array TypeId} {f:FuncId} {caps:List AV} {pre post:Foot} {r:AV} (ho:o.op=.call { callee:=.value x,args:=args,argTypes:=ts }) (hx:zl s x=.fn f caps)
  (h:ACall P f (args.toList.map (zl s)++caps) id pre r post):OpHolds P o s id pre r post:=by
 obtain ⟨hc,hp,hq,hrun⟩:=h
 refine ⟨hp,hq,fun W0 g σ n w a hS hr hf hn hpre=>?_⟩
 have h1:=hr x (by simp [ho,Op.operands,Call.operands])
 have h2:∀ y∈args,Rep g (zl s y) (a.eval y):=fun y hy=>hr y (by simp [ho,Op.operands,Call.operands,hy])
 rw [hx] at h1
 generalize hv:a.eval x=v at h1
 cases h1 with
 | fn _ _ vs hvl hvr=>
  have hexec:(execOp a.eval o).run P w=.ok (.enter f ((args.toList.map a.eval++vs).toArray)) w:=by
   simp only [execOp,ho,resolve,hv,Deferred.ofValue,Sem.run_bind,Sem.run_pure,Result.andThen_ok,invoke]
   rw [qx hc]
   congr 2
   simp [← Array.toList_map]
  unfold runsTo
  rw [hexec]
  refine (hrun W0 g σ n w (args.toList.map a.eval++vs) hS (by simp [hvl]) (fun i y u hy hu=>?_) hf hn hpre).mono fun e w' h=>h
  by_cases hi:i < args.toList.length
  ·rw [List.getElem?_append_left (by simpa using hi),List.getElem?_map] at hy hu
   cases hz:args.toList[i]? with
   | none=>rw [hz] at hy;cases hy
   | some z=>
    rw [hz] at hy hu
    cases hy;cases hu
    exact h2 z (by have:=List.mem_of_getElem? hz;simpa using this)
  ·rw [List.getElem?_append_right (by simpa using hi)] at hy hu
   simp only [List.length_map] at hy hu
   exact hvr _ y u hy hu
theorem znN {c:Cfg} {k:Step→Prop} {x:Operand} {args:Array Operand} {ts:Array TypeId} {f:FuncId} {caps:List AV} {pre post:Foot} {r:AV} (ho:o.op=.call { callee:=.value x,args:=args,argTypes:=ts }) (hx:zl c.s x=.fn f caps)
  (h:ACall P f (args.toList.map (zl c.s)++caps) id pre r post) (hp:∀ p∈pre,c.σ p.1=p.2) (hk:k ⟨pre,r,post⟩):AStepX P o c id k:=
 ⟨⟨pre,r,post⟩,⟨zp0 ho hx h,hp⟩,hk⟩
end
def zcB (args:List AV):Slots:=fun t=>args.getD t (.tup [])
theorem zp5 (a:AV) (l:List AV):zcB (a::l) 0=a:=rfl
theorem zp4 (a:AV) (l:List AV) (n:Nat):zcB (a::l) (n+1)=zcB l n:=rfl
theorem zrk (n:Nat):zcB [] n=.tup []:=rfl
def zgc (P:Program) (c:Cfg):ResultVar→Option AV
 | .tmp t=>some (c.s t)
 | .cell a t=>match c.s a with
  | .ptr i p q=>match zln c.σ i with
   | some (_,x,_)=>match x.get p with
    | some y=>if x.offs p=q∧zx P t=some (y.isAgg,y.sz) then some y else none
    | none=>none
   | none=>none
  | _=>none
def zdr (P:Program) (c:Cfg):List ResultVar→Option (List AV)
 | []=>some []
 | x::r=>match zgc P c x,zdr P c r with
  | some y,some ys=>some (y::ys)
  | _,_=>none
def kJ (P:Program) (c:Cfg) (rs:List ResultVar):Option AV:=
 match zdr P c rs with
 | some [x]=>some x
 | some xs=>some (.tup xs)
 | none=>none
def Ent.plain:Ent→Bool
 | .mark=>false
 | _=>true
def rn (n0 k:Nat) (fresh:Option Nat):Nat→Option Nat:=fun id=>if id < n0 then some id else if fresh=some id then some k else none
theorem zwB {n0 k id:Nat} {fresh:Option Nat} (h:n0≤id) (hne:fresh≠some id):rn n0 k fresh id=none:=by simp [rn,Nat.not_lt.2 h,hne]
def zfj (f:Nat→Option Nat) (ws:Foot):Foot:=ws.map fun q=>(q.1,q.2.ren f)
def ARet (P:Program) (rs:List ResultVar) (k:Nat) (σ0:Nat→Ent) (n0:Nat) (pre:Foot) (r:AV) (post:Foot) (c:Cfg):Prop:=
 ∃ (r0' r':AV) (ws:Foot) (fresh:Option Nat),kJ P c rs=some r0'∧AV.le r0' r'∧r=r'.ren (rn n0 k fresh)∧(∀ id,id < n0→c.σ id=wr σ0 ws id)∧(∀ q∈ws,∃ p∈pre,p.1=q.1) ∧
  (match fresh with
   | some r0=>n0≤r0∧post=zfj (rn n0 k (some r0)) ws++[(k,(c.σ r0).ren (rn n0 k (some r0)))]∧(c.σ r0).plain=true
   | none=>post=zfj (rn n0 k none) ws)
def aRet (P:Program) (rs:List ResultVar) (k:Nat) (σ0:Nat→Ent) (n0:Nat) (pre:Foot) (r:AV) (post:Foot):AExit→Cfg→Prop
 | .exit _,_=>False
 | _,c=>ARet P rs k σ0 n0 pre r post c
def znk (a:Act):ResultVar→Sem Value
 | .tmp t=>pure (a.tmps.getD t undef)
 | .cell b t=>do loadVar t (← asAddr (a.tmps.getD b undef))
theorem zqm (fn:Func) (a:Act):results fn a.tmps=(do let vs ← fn.results.mapM (znk a);pure (if h:vs.size=1 then vs[0] else .tuple vs)):=by
 unfold results
 have:(fun (x:ResultVar)=>(match x with
  | .tmp t=>pure (a.tmps.getD t undef)
  | .cell b t=>do loadVar t (← asAddr (a.tmps.getD b undef)):Sem Value))=znk a:=by
  funext x;cases x <;> rfl
 rw [← this]
 rfl
@[congr] theorem zu8 {c c':Cfg} (h:c=c') (P:Program) (rs:List ResultVar) (k:Nat) (σ0:Nat→Ent) (n0:Nat) (pre:Foot) (r:AV) (post:Foot) (e:AExit):aRet P rs k σ0 n0 pre r post e c=aRet P rs k σ0 n0 pre r post e c':=by rw [h]
theorem zkh {P:Program} {W0:World} {g:Ghost} {N:Nat} {c:Cfg} {a:Act} {w:World} (hS:SimA W0 g N c a w) {w2:World} (hh:∀ i b,g.loc i=some b→(c.σ i).plain=true→w2.heap[b]?=w.heap[b]?) {x:ResultVar} {y:AV} (h:zgc P c x=some y):
  ∃ u,Rep g y u∧(znk a x).run P w2=.ok u w2:=by
 cases x with
 | tmp t=>
  simp only [zgc,Option.some.injEq] at h
  subst h
  exact ⟨_,hS.slots t,rfl⟩
 | cell b t=>
  have hr:=hS.slots b
  simp only [zgc] at h
  split at h
  ·rename_i i p q hb
   rw [hb] at hr
   split at h
   ·rename_i bt x bb hbox
    split at h
    ·rename_i y' hy
     split at h
     ·rename_i hc
      cases h
      generalize hv:a.tmps.getD b undef=v at hr
      cases hr with
      | ptr _ _ _ blk hblk=>
       have key:∃ v,Rep g x v∧w2.heap[blk]?=some (.cells v.cells bt (0,0)):=by
        rcases zcg hbox with ⟨_,he⟩ | ⟨_,he⟩
        ·obtain ⟨b',v,h1,_,h3,h4,_⟩:=hS.sim.box i bt x he
         rw [hblk] at h1;cases h1;exact ⟨v,h3,(hh i blk hblk (by rw [he];rfl)).trans h4⟩
        ·obtain ⟨b',v,h1,_,h3,h4,_⟩:=hS.sim.fbox i bt x he
         rw [hblk] at h1;cases h1;exact ⟨v,h3,(hh i blk hblk (by rw [he];rfl)).trans h4⟩
       obtain ⟨v,hrep,hheap⟩:=key
       obtain ⟨u,hu,_,hcu⟩:=hrep.get hy
       refine ⟨u,hu,?_⟩
       have:=ze3 (P:=P) hu (kZ hc.2).1 (b:=blk) (off:=q) (w:=w2) fun j z hz=>by
        rw [cell_of_row w2 blk _ _ _ _ hheap,← Array.getElem?_toList,← hc.1]
        exact hcu j z hz
       simp only [Instr.loadAt,Instr.sureAddr,Sem.run_bind,Sem.run_pure,Result.andThen_ok] at this
       simp only [znk,hv,asAddr,Sem.run_bind,Sem.run_pure,Result.andThen_ok,this]
     ·cases h
    ·cases h
   ·cases h
  ·cases h
theorem zfg {P:Program} {W0:World} {g:Ghost} {N:Nat} {c:Cfg} {a:Act} {w:World} (hS:SimA W0 g N c a w) {w2:World} (hh:∀ i b,g.loc i=some b→(c.σ i).plain=true→w2.heap[b]?=w.heap[b]?):∀ {rs:List ResultVar} {ys:List AV},zdr P c rs=some ys →
  ∃ us:List Value,us.length=ys.length∧(∀ (i:Nat) (x:AV) (v:Value),ys[i]?=some x→us[i]?=some v→Rep g x v)∧(rs.mapM (znk a)).run P w2=.ok us w2
 | [],ys,h=>by simp [zdr] at h;subst h;exact ⟨[],rfl,fun i x v h _=>by simp at h,by simp⟩
 | x::r,ys,h=>by
  simp only [zdr] at h
  split at h
  ·rename_i y ys' h1 h2
   cases h
   obtain ⟨u,hu,hrun⟩:=zkh hS hh h1
   obtain ⟨us,k1,k2,k3⟩:=zfg hS hh h2
   refine ⟨u::us,by simp [k1],fun i x v hx hv=>?_,?_⟩
   ·cases i with
    | zero=>simp at hx hv;subst hx;subst hv;exact hu
    | succ i=>exact k2 i x v (by simpa using hx) (by simpa using hv)
   ·simp only [List.mapM_cons,Sem.run_bind,Sem.run_pure]
    rw [hrun]
    simp only [Result.andThen_ok]
    rw [k3]
    rfl
  ·cases h
theorem zki {P:Program} {W0:World} {g:Ghost} {N:Nat} {c:Cfg} {a:Act} {w:World} (hS:SimA W0 g N c a w) {w2:World} (hh:∀ i b,g.loc i=some b→(c.σ i).plain=true→w2.heap[b]?=w.heap[b]?) {fn:Func} {y:AV} (h:kJ P c fn.results.toList=some y):
  ∃ u,Rep g y u∧(results fn a.tmps).run P w2=.ok u w2:=by
 unfold kJ at h
 have key:∀ ys,zdr P c fn.results.toList=some ys→∃ us:List Value,us.length=ys.length∧(∀ (i:Nat) (x:AV) (v:Value),ys[i]?=some x→us[i]?=some v→Rep g x v) ∧
   (results fn a.tmps).run P w2=.ok (if h:us.toArray.size=1 then us.toArray[0] else .tuple us.toArray) w2:=by
  intro ys hys
  obtain ⟨us,k1,k2,k3⟩:=zfg hS hh hys
  refine ⟨us,k1,k2,?_⟩
  rw [zqm,Sem.run_bind,Array.mapM_eq_mapM_toList]
  simp only [Sem.run_map,k3,Result.andThen_ok,Sem.run_pure]
 split at h
 ·rename_i x hx
  cases h
  obtain ⟨us,k1,k2,k3⟩:=key _ hx
  match us,k1 with
  | [u],_=>exact ⟨u,k2 0 _ _ rfl rfl,by simpa using k3⟩
 ·rename_i xs hne hx
  cases h
  obtain ⟨us,k1,k2,k3⟩:=key _ hx
  have hl:us.length≠1:=by
   intro he
   rw [k1] at he
   match xs,he with
   | [x],_=>exact hne x rfl
  refine ⟨.tuple us.toArray,.tup xs us k1 k2,?_⟩
  rw [k3,dif_neg (by simpa using hl)]
 ·cases h
theorem zsd (i:Nat):∀ ws:Foot,((∀ σ:Nat→Ent,wr σ ws i=σ i)∧(∀ f (σ:Nat→Ent),wr σ (zfj f ws) i=σ i)∧∀ q∈ws,q.1≠i) ∨
  (∃ q∈ws,q.1=i∧(∀ σ:Nat→Ent,wr σ ws i=q.2)∧∀ f (σ:Nat→Ent),wr σ (zfj f ws) i=q.2.ren f)
 | []=>.inl ⟨fun _=>rfl,fun _ _=>rfl,fun q hq=>(by cases hq)⟩
 | p::r=>by
  have e1:∀ σ:Nat→Ent,wr σ (p::r)=wr (upd σ p.1 p.2) r:=fun _=>rfl
  have e2:∀ f (σ:Nat→Ent),wr σ (zfj f (p::r))=wr (upd σ p.1 (p.2.ren f)) (zfj f r):=fun _ _=>rfl
  rcases zsd i r with ⟨h1,h2,h3⟩ | ⟨q,hq,h1,h2,h3⟩
  ·by_cases hp:p.1=i
   ·refine .inr ⟨p,List.mem_cons_self ..,hp,fun σ=>by rw [e1,h1,hp,zr],fun f σ=>by rw [e2,h2,hp,zr]⟩
   ·refine .inl ⟨fun σ=>by rw [e1,h1,zg _ _ _ _ (Ne.symm hp)],fun f σ=>by rw [e2,h2,zg _ _ _ _ (Ne.symm hp)],fun q hq=>?_⟩
    rcases List.mem_cons.1 hq with rfl | hq
    ·exact hp
    ·exact h3 q hq
  ·exact .inr ⟨q,List.mem_cons_of_mem _ hq,h1,fun σ=>by rw [e1,h2],fun f σ=>by rw [e2,h3]⟩
theorem znz (σ:Nat→Ent) (p q:Foot):wr σ (p++q)=wr (wr σ p) q:=by simp [wr,List.foldl_append]
theorem Sim.leave {W0:World} {g g':Ghost} {σ0 σ':Nat→Ent} {n0 n' k:Nat} {w w':World} (hS:Sim W0 g σ0 n0 w) (hS':Sim W0 g' σ' n' w') (hle:g.le g') (hk:σ0 k=.none) (hkn:k < n0) {ws post:Foot} {fresh:Option Nat}
  (hag:∀ id,id < n0→σ' id=wr σ0 ws id) (hws:∀ q∈ws,σ0 q.1≠.none)
  (hpost:match fresh with
   | some r0=>n0≤r0∧post=zfj (rn n0 k (some r0)) ws++[(k,(σ' r0).ren (rn n0 k (some r0)))]
   | none=>post=zfj (rn n0 k none) ws):
  ∃ g2,g.le g2∧Sim W0 g2 (wr σ0 post) n0 w'∧(∀ x v,Rep g' x v→Rep g2 (x.ren (rn n0 k fresh)) v)∧g2.G=g'.G∧(∀ id b,g2.blk id=some b→∃ i0,rn n0 k fresh i0=some id∧g'.blk i0=some b)∧∀ x v,Rep g x v→x.ren (rn n0 k fresh)=x:=by
 let f:=rn n0 k fresh
 have hfdef:f=rn n0 k fresh:=rfl
 let pick:{α:Type}→(Nat→Option α)→Nat→Option α:=fun F id=>if id=k then fresh.bind F else if id < n0 then F id else none
 let g2:Ghost:={ G:=g'.G,loc:=pick g'.loc,row:=pick g'.row,own:=pick g'.own,mr:=pick g'.mr }
 have hlive:∀ id,σ0 id≠.none→id < n0∧id≠k:=fun id hid=>by
  refine ⟨?_,fun e=>hid (e ▸ hk)⟩
  rcases Nat.lt_or_ge id n0 with h | h
  ·exact h
  ·exact absurd (hS.bound id h) hid
 have hloc0:∀ id b,g.loc id=some b→σ0 id≠.none:=fun id b hb hn=>by rw [(hS.free id hn).1] at hb;cases hb
 have hrow0:∀ id u,g.row id=some u→σ0 id≠.none:=fun id u hu hn=>by rw [(hS.free id hn).2.1] at hu;cases hu
 have hmr0:∀ id u,g.mr id=some u→σ0 id≠.none:=fun id u hu hn=>by rw [(hS.free id hn).2.2.2] at hu;cases hu
 have hk':σ' k=.none:=by
  rw [hag k hkn]
  rcases zsd k ws with ⟨h1,_⟩ | ⟨q,hq,h1,_⟩
  ·rw [h1];exact hk
  ·exact absurd (h1 ▸ hk) (hws q hq)
 obtain ⟨kl,kr,ko,km⟩:=hS'.free k hk'
 have hfresh_ge:∀ r0,fresh=some r0→n0≤r0:=fun r0 hr=>by subst hr;exact hpost.1
 have f_old:∀ id,id < n0→f id=some id:=fun id h=>by simp [f,rn,h]
 have f_fresh:∀ r0,fresh=some r0→f r0=some k:=fun r0 hr=>by simp only [f,rn,if_neg (Nat.not_lt.2 (hfresh_ge r0 hr)),hr,if_true]
 have f_inv:∀ id j,f id=some j→(id < n0∧j=id)∨(fresh=some id∧j=k):=by
  intro id j hj
  simp only [f,rn] at hj
  split at hj
  ·rename_i h;cases hj;exact .inl ⟨h,rfl⟩
  ·split at hj
   ·rename_i h;cases hj;exact .inr ⟨h,rfl⟩
   ·cases hj
 have pick_old:∀ {α:Type} (F:Nat→Option α) id,id < n0→id≠k→pick F id=F id:=fun F id h1 h2=>by simp only [pick,if_neg h2,if_pos h1]
 have pick_fresh:∀ {α:Type} (F:Nat→Option α) r0,fresh=some r0→pick F k=F r0:=fun F r0 hr=>by simp [pick,hr]
 have pick_hi:∀ {α:Type} (F:Nat→Option α) id,n0≤id→pick F id=none:=fun F id h=>by simp only [pick,if_neg (show id≠k by omega),if_neg (Nat.not_lt.2 h)]
 have pick_none:∀ {α:Type} (F:Nat→Option α),fresh=none→pick F k=none:=fun F h=>by simp [pick,h]
 have carry:∀ {α:Type} (F:Nat→Option α),F k=none→∀ id j,f id=some j→∀ b,F id=some b→pick F j=some b:=by
  intro α F hFk id j hj b hb
  rcases f_inv id j hj with ⟨h1,rfl⟩ | ⟨h1,rfl⟩
  ·have hne:j≠k:=fun e=>by rw [e,hFk] at hb;cases hb
   rw [pick_old F j h1 hne];exact hb
  ·rw [pick_fresh F id h1];exact hb
 have rep2:∀ x v,Rep g' x v→Rep g2 (x.ren f) v:=fun x v h=>Rep.ren (g:=g') (g2:=g2) (fun b o u h=>h) (carry _ kl) (carry _ kr) (carry _ km) h
 have rep_id:∀ x v,Rep g x v→x.ren f=x:=fun x v h=>Rep.ren_id (fun id b hb=>f_old id (hlive id (hloc0 id b hb)).1) (fun id u hu=>f_old id (hlive id (hrow0 id u hu)).1) (fun id u hu=>f_old id (hlive id (hmr0 id u hu)).1) h
 have hle2:g.le g2:=by
  refine ⟨fun b o v h=>hle.G b o v h,fun id b hb=>?_,fun id u hu=>?_,fun id u hu=>?_⟩
  ·obtain ⟨h1,h2⟩:=hlive id (hloc0 id b hb)
   exact (pick_old g'.loc id h1 h2).trans (hle.loc id b hb)
  ·obtain ⟨h1,h2⟩:=hlive id (hrow0 id u hu)
   obtain ⟨u',k1,k2⟩:=hle.row id u hu
   exact ⟨u',(pick_old g'.row id h1 h2).trans k1,k2⟩
  ·obtain ⟨h1,h2⟩:=hlive id (hmr0 id u hu)
   obtain ⟨u',k1,k2⟩:=hle.mr id u hu
   exact ⟨u',(pick_old g'.mr id h1 h2).trans k1,k2⟩
 have at_k:fresh=none→wr σ0 post k=.none:=by
  intro hfr
  subst hfr
  have hp:post=zfj (rn n0 k none) ws:=hpost
  rw [hp]
  rcases zsd k ws with ⟨_,h2,_⟩ | ⟨q,hq,h1,_⟩
  ·rw [h2];exact hk
  ·exact absurd (h1 ▸ hk) (hws q hq)
 have at_ks:∀ r0,fresh=some r0→wr σ0 post k=(σ' r0).ren f:=by
  intro r0 hfr
  subst hfr
  rw [hpost.2,znz]
  simp [wr,zr,hfdef]
 have at_old:∀ id,id < n0→id≠k→wr σ0 post id=(σ' id).ren f:=by
  intro id hid hne
  have base:wr σ0 post id=wr σ0 (zfj f ws) id:=by
   cases fresh with
   | none=>simp only at hpost;rw [hpost]
   | some r0=>rw [hpost.2,znz];simp [wr,zg _ _ _ _ hne,hfdef]
  rcases zsd id ws with ⟨h1,h2,_⟩ | ⟨q,hq,h1,h2,h3⟩
  ·rw [base,h2,hag id hid,h1,(hS.ents id).ren_id rep_id]
  ·rw [base,h3,hag id hid,h2]
 have at_hi:∀ id,n0≤id→wr σ0 post id=.none:=by
  intro id hid
  rw [zbU]
  ·exact hS.bound id hid
  ·intro q hq e
   have hws':∀ q∈zfj f ws,q.1 < n0:=fun q hq=>by
    obtain ⟨p,hp,rfl⟩:=List.mem_map.1 hq
    exact (hlive p.1 (hws p hp)).1
   cases fresh with
   | none=>simp only at hpost;rw [hpost] at hq;have:=hws' q hq;omega
   | some r0=>
    rw [hpost.2] at hq
    rcases List.mem_append.1 hq with hq | hq
    ·have:=hws' q hq;omega
    ·simp at hq;subst hq;simp at e;omega
 have blk2:∀ id b,g2.blk id=some b→∃ i0,f i0=some id∧g'.blk i0=some b:=by
  intro id b hb
  by_cases hik:id=k
  ·subst hik
   cases hfr:fresh with
   | none=>simp [Ghost.blk,g2,pick_none _ hfr] at hb
   | some r0=>
    refine ⟨r0,f_fresh r0 hfr,?_⟩
    simpa only [Ghost.blk,g2,pick_fresh _ r0 hfr] using hb
  ·by_cases hid:id < n0
   ·refine ⟨id,f_old id hid,?_⟩
    simpa only [Ghost.blk,g2,pick_old _ id hid hik] using hb
   ·simp [Ghost.blk,g2,pick_hi _ id (Nat.not_lt.1 hid)] at hb
 refine ⟨g2,hle2,⟨hS'.below,hS'.imm,at_hi,fun id=>?_,fun i j b hi hj=>?_,fun i b hi=>?_⟩,rep2,rfl,blk2,rep_id⟩
 ·rcases Nat.lt_or_ge id n0 with hid | hid
  ·by_cases hik:id=k
   ·subst hik
    cases hfr:fresh with
    | none=>rw [at_k hfr];exact ⟨pick_none _ hfr,pick_none _ hfr,pick_none _ hfr,pick_none _ hfr⟩
    | some r0=>rw [at_ks r0 hfr];exact (hS'.ents r0).ren rfl (pick_fresh _ r0 hfr) (pick_fresh _ r0 hfr) (pick_fresh _ r0 hfr) (pick_fresh _ r0 hfr) rep2
   ·rw [at_old id hid hik];exact (hS'.ents id).ren rfl (pick_old _ id hid hik) (pick_old _ id hid hik) (pick_old _ id hid hik) (pick_old _ id hid hik) rep2
  ·rw [at_hi id hid];exact ⟨pick_hi _ id hid,pick_hi _ id hid,pick_hi _ id hid,pick_hi _ id hid⟩
 ·obtain ⟨i0,a1,a2⟩:=blk2 i b hi
  obtain ⟨j0,b1,b2⟩:=blk2 j b hj
  have:=hS'.sep i0 j0 b a2 b2
  subst this
  rw [a1] at b1;injection b1
 ·obtain ⟨i0,a1,a2⟩:=blk2 i b hi
  exact hS'.fresh i0 b a2
theorem Sim.putObj {W0:World} {g:Ghost} {σ:Nat→Ent} {n:Nat} {w:World} (h:Sim W0 g σ n w) {r:Nat} {o:Obj} (h1:W0.heap.size≤r) (h2:∀ i,g.blk i≠some r) (h3:∀ o,g.G r o=none):Sim W0 g σ n (w.putObj r o) where
 below:=⟨h.below.os,h.below.tape,h.below.output,by simpa using h.below.size,fun b hb=>by rw [World.putObj_heap_other oo];exact h.below.block b hb⟩
 imm:=fun b o' v hv=>by
  have hb:b≠r:=fun e=>by rw [e,h3] at hv;cases hv
  have:=h.imm b o' v hv
  unfold World.cell? at this ⊢
  simp only [World.putObj_heap_other hb]
  exact this
 bound:=h.bound
 ents:=fun id=>(h.ents id).same g.le_refl rfl rfl rfl rfl fun b hb=>⟨World.putObj_heap_other (fun e=>h2 id (e ▸ hb)),fun _=>rfl⟩
 sep:=h.sep
 fresh:=fun i b hb=>by simpa using h.fresh i b hb
theorem zh0 {P:Program} {fn:Func} {tmps:Array Value} {R:Ending→World→Prop} {W0:World} {g:Ghost} {σ:Nat→Ent} {n:Nat}:∀ (L:List (Nat × Nat)) (w:World),(L.map (·.2)).Nodup→(∀ p∈L,w.heap[p.2]?=some (.deferred (some [])))→Sim W0 g σ n w →
  (∀ p∈L,W0.heap.size≤p.2∧(∀ i,g.blk i≠some p.2)∧∀ o,g.G p.2 o=none) →
  (∀ w2,Sim W0 g σ n w2→(∀ b,b ∉ L.map (·.2)→w2.heap[b]?=w.heap[b]?)→∃ v,(results fn tmps).run P w2=.ok v w2∧R (.returned v) w2) →
  LeavesInM Fence.wide 0 P fn tmps R (L.map zrz) .returning w
 | [],w,_,_,hS,_,h=>h w hS fun _ _=>rfl
 | p::L,w,hn,ho,hS,hf,h=>by
  obtain ⟨f1,f2,f3⟩:=hf p (List.mem_cons_self ..)
  simp only [List.map_cons,List.nodup_cons] at hn
  refine ⟨by simp,.inl ⟨p.2,w.putObj p.2 (.deferred none),rfl,run_takeDeferred (ho p (List.mem_cons_self ..)),?_⟩⟩
  refine zh0 L _ hn.2 (fun q hq=>?_) (hS.putObj f1 f2 f3) (fun q hq=>hf q (List.mem_cons_of_mem _ hq)) fun w2 hS2 hw2=>?_
  ·rw [World.putObj_heap_other fun e=>hn.1 (List.mem_map.2 ⟨q,hq,e⟩)]
   exact ho q (List.mem_cons_of_mem _ hq)
  ·refine h w2 hS2 fun b hb=>?_
   simp only [List.map_cons,List.mem_cons,not_or] at hb
   rw [hw2 b hb.2,World.putObj_heap_other hb.1]
theorem ACall.of_body {P:Program} {f:FuncId} {fn:Func} {body:Code} {args:List AV} {k:Nat} {pre post:Foot} {r:AV} (hmix:P.follows .mixedOrders=true) (hf:P.funcs[f]?=some fn) (hb:fn.body=some body)
  (hname : (fn.name == "runtime.NumGoroutine") = false) {N : Nat} (hN : fn.ntmps = N) (hok : wJ N body = true) {rs : List ResultVar} (hrs : fn.results.toList = rs) (hargs : args.length ≤ N) (hpre : ∀ p ∈ pre, p.2 ≠ .none) (hpost : ∀ q ∈ post, q.1 = k ∨ ∃ p ∈ pre, p.1 = q.1)
  (h:∀ (σ:Nat→Ent) (n:Nat),(∀ p∈pre,σ p.1=p.2)→(∀ p∈pre,p.1 < n)→σ k=.none→k < n→(∀ id,n≤id→σ id=.none)→aw P N body (aRet P rs k σ n pre r post) ⟨zcB args,σ,n⟩):
  ACall P f args k pre r post:=by
 refine ⟨by simp [qV,hf,hb,hname],hpre,hpost,fun W0 g σ n w vals hS hl hv hk hkn hp=>?_⟩
 have hpn:∀ p∈pre,p.1 < n:=fun p hpm=>by
  rcases Nat.lt_or_ge p.1 n with h' | h'
  ·exact h'
  ·exact absurd ((hp p hpm).symm.trans (hS.bound p.1 h')) (hpre p hpm)
 have haw:=h σ n hp hpn hk hkn hS.bound
 subst hN
 let a:Act:={ tmps:=vals.toArray++Array.replicate (fn.ntmps - vals.toArray.size) undef,defers:=[] }
 have hSA:SimA W0 g fn.ntmps ⟨zcB args,σ,n⟩ a w:=by
  refine ⟨hS,by simp [a];omega,fun t=>?_⟩
  show Rep g (args.getD t (.tup [])) (a.tmps.getD t undef)
  by_cases ht:t < args.length
  ·have ht':t < vals.length:=by omega
   have:=hv t args[t] vals[t] (List.getElem?_eq_getElem ht) (List.getElem?_eq_getElem ht')
   have e1:args.getD t (.tup [])=args[t]:=by simp [List.getD,List.getElem?_eq_getElem ht]
   have e2:a.tmps.getD t undef=vals[t]:=by simp [a,Array.getElem?_append,ht']
   rw [e1,e2];exact this
  ·have e1:args.getD t (.tup [])=.tup []:=by simp [List.getD,List.getElem?_eq_none (Nat.not_lt.1 ht)]
   have e2:a.tmps.getD t undef=undef:=by
    simp only [a]
    rw [Array.getD_eq_getD_getElem?,Array.getElem?_append]
    rw [if_neg (by simp;omega),Array.getElem?_replicate]
    split <;> rfl
   rw [e1,e2]
   exact .tup [] [] rfl fun i x v h _=>by simp at h
 refine callsIn_wide.1 (callsIn_of_wp_marks (n:=0) hf hb trivial (wpIn_mono (haw hok hmix none (.inl rfl) W0 g a w hSA) fun e a' w' hq=>?_))
 obtain ⟨c',g',hle,hS',hM,hq⟩:=hq
 have fin:ARet P rs k σ n pre r post c'→LeavesInM Fence.wide 0 P fn a'.tmps (fun e w'=>∃ u,e=.returned u∧∃ g',g.le g'∧Sim W0 g' (wr σ post) n w'∧Rep g' r u) a'.defers .returning w':=by
  rintro ⟨r0',r',ws,fresh,h1,hrle,h2,h3,h4,h5⟩
  obtain ⟨M,hM1,hMn,hM2⟩:=hM
  have hD:a'.defers=M.map zrz:=by rw [hM1];simp [a]
  have hws:∀ q∈ws,σ q.1≠.none:=fun q hq=>by obtain ⟨p,hp1,hp2⟩:=h4 q hq;rw [← hp2,hp p hp1];exact hpre p hp1
  obtain ⟨g2,hle2,hS2,hrep,hG2,hblk,_⟩:=hS.leave hS'.sim hle hk hkn h3 hws (post:=post) (fresh:=fresh) (by
   cases fresh with
   | none=>exact h5
   | some r0=>exact ⟨h5.1,h5.2.1⟩)
  have hmk:∀ p∈M,n≤p.1∧fresh≠some p.1:=by
   intro p hpM
   obtain ⟨hj3,hj1,hj2⟩:=hM2 p hpM
   have hsj:=hS'.sim.is_mark hj1 hj2
   refine ⟨?_,fun hf=>?_⟩
   ·rcases Nat.lt_or_ge p.1 n with hjn | hjn
    ·exfalso
     have:=h3 p.1 hjn
     rw [hsj] at this
     rcases zsd p.1 ws with ⟨k1,_⟩ | ⟨q,hq,k1,_⟩
     ·rw [k1] at this
      exact hj3 (hS.has (by rw [← this];simp))
     ·exact hj3 (hS.has (by rw [← k1];exact hws q hq))
    ·exact hjn
   ·subst hf
    have:=h5.2.2
    rw [hsj] at this
    cases this
  have hM3:∀ p∈M,w'.heap[p.2]?=some (.deferred (some []))∧∀ o,g'.G p.2 o=none:=fun p hpM=>by
   obtain ⟨_,hj1,hj2⟩:=hM2 p hpM
   exact hS'.sim.mark_at hj1 (hS'.sim.is_mark hj1 hj2)
  have hMr:(M.map (·.2)).Nodup:=by
   have:∀ L:List (Nat × Nat),(∀ p∈L,g'.loc p.1=some p.2)→(L.map (·.1)).Nodup→(L.map (·.2)).Nodup:=by
    intro L
    induction L with
    | nil=>intro _ _;exact List.nodup_nil
    | cons p L ih=>
     intro hl hn
     simp only [List.map_cons,List.nodup_cons] at hn ⊢
     refine ⟨fun hm=>hn.1 ?_,ih (fun q hq=>hl q (List.mem_cons_of_mem _ hq)) hn.2⟩
     obtain ⟨q,hq,he⟩:=List.mem_map.1 hm
     have h1:=hl p (List.mem_cons_self ..)
     have h2:=hl q (List.mem_cons_of_mem _ hq)
     rw [he] at h2
     have:=hS'.sim.sep p.1 q.1 p.2 (Ghost.blk_loc h1) (Ghost.blk_loc h2)
     rw [this];exact List.mem_map_of_mem hq
   exact this M (fun p hpM=>(hM2 p hpM).2.1) hMn
  rw [hD]
  refine zh0 M w' hMr (fun p hpM=>(hM3 p hpM).1) hS2 (fun p hpM=>?_) fun w2 hSw hw2=>?_
  ·obtain ⟨_,hj1,hj2⟩:=hM2 p hpM
   refine ⟨(hS'.sim.fresh p.1 p.2 (Ghost.blk_loc hj1)).1,fun i hi=>?_,fun o=>by rw [hG2];exact (hM3 p hpM).2 o⟩
   obtain ⟨i0,e1,e2⟩:=hblk i p.2 hi
   have:=hS'.sim.sep i0 p.1 p.2 e2 (Ghost.blk_loc hj1)
   subst this
   obtain ⟨m1,m2⟩:=hmk p hpM
   rw [zwB m1 m2] at e1
   cases e1
  ·obtain ⟨u,hu,hrun⟩:=zki (fn:=fn) hS' (w2:=w2) (fun i b hb hpl=>hw2 b fun hm=>by
    obtain ⟨p,hpM,rfl⟩:=List.mem_map.1 hm
    obtain ⟨_,hj1,hj2⟩:=hM2 p hpM
    have:=hS'.sim.sep i p.1 p.2 (Ghost.blk_loc hb) (Ghost.blk_loc hj1)
    subst this
    rw [hS'.sim.is_mark hj1 hj2] at hpl
    cases hpl) (by rw [hrs];exact h1)
   exact ⟨u,hrun,u,rfl,g2,hle2,hSw,by rw [h2];exact hrep _ _ (hrle _ _ hu)⟩
 cases e with
 | normal=>exact fin hq
 | ret=>exact fin hq
 | exit id=>exact hq.elim
 | goto=>exact hq.elim
 | panic=>exact hq.elim
 | outgrown=>exact hq.elim
theorem AV.le_nils:AV.le .nils (.slice none []):=fun g v h=>by
 cases h
 exact .slice none [] [] none 0 0 rfl (Nat.le_refl _) (by unfold maxLen;omega) (fun i x v h _=>by simp at h) (fun v hv=>by simp at hv) (.inl rfl) (fun id hid=>by cases hid)
theorem AV.le_own (o:Option Nat) (xs:List AV):AV.le (.slice o xs) (.slice none xs):=fun g v h=>by
 cases h with
 | slice own xs vs A c size hvl hc hm hr hs hcell hown=>exact .slice none xs vs A c size hvl hc hm hr hs hcell (fun id hid=>by cases hid)
inductive ALe:List AV→List AV→Prop where
 | nil:ALe [] []
 | cons {x y:AV} {xs ys:List AV}:AV.le x y→ALe xs ys→ALe (x::xs) (y::ys)
theorem ALe.at {xs ys:List AV} (h:ALe xs ys):xs.length=ys.length∧∀ (i:Nat) (y:AV),ys[i]?=some y→∃ x,xs[i]?=some x∧AV.le x y:=by
 induction h with
 | nil=>exact ⟨rfl,fun i y hy=>by simp at hy⟩
 | cons h _ ih=>
  refine ⟨by simp [ih.1],fun i y hy=>?_⟩
  cases i with
  | zero=>simp at hy;subst hy;exact ⟨_,rfl,h⟩
  | succ i=>simpa using ih.2 i y (by simpa using hy)
theorem AV.sub_tup {xs ys:List AV} (h:ALe xs ys):AV.le (.tup xs) (.tup ys):=fun g v hr=>by
 cases hr with
 | tup _ vs hvl hvr=>
  obtain ⟨h1,h2⟩:=h.at
  exact .tup ys vs (by rw [hvl,h1]) fun i y v hy hv=>by obtain ⟨x,hx,hxy⟩:=h2 i y hy;exact hxy g v (hvr i x v hx hv)
section
variable {P:Program} {f:FuncId} {args args':List AV} {k:Nat} {pre post:Foot} {r r':AV}
theorem ACall.weaken (h:ACall P f args' k pre r post) (hle:ALe args args'):ACall P f args k pre r post:=by
 obtain ⟨h1,h2,h3,h4⟩:=h
 obtain ⟨hl,hle⟩:=hle.at
 refine ⟨h1,h2,h3,fun W0 g σ n w vals hS hv hr hf hn hpre=>h4 W0 g σ n w vals hS (by rw [hv,hl]) (fun i y v hy hv'=>?_) hf hn hpre⟩
 obtain ⟨x,hx,hxy⟩:=hle i y hy
 exact hxy g v (hr i x v hx hv')
theorem ACall.result (h:ACall P f args k pre r post) (hle:AV.le r r'):ACall P f args k pre r' post:=by
 obtain ⟨h1,h2,h3,h4⟩:=h
 refine ⟨h1,h2,h3,fun W0 g σ n w vals hS hv hr hf hn hpre=>(h4 W0 g σ n w vals hS hv hr hf hn hpre).mono ?_⟩
 rintro e w' ⟨u,rfl,g',hg,hS',hu⟩
 exact ⟨u,rfl,g',hg,hS',hle _ _ hu⟩
theorem ACall.nilrow {e:TypeId} {size:Nat} (h:ACall P f args k [] .nils []):ACall P f args k [] (.slice (some k) []) [(k,.row e size 0)]:=by
 obtain ⟨h1,h2,h3,h4⟩:=h
 refine ⟨h1,h2,fun q hq=>by simp at hq;subst hq;exact .inl rfl,fun W0 g σ n w vals hS hv hr hf hn hpre=>(h4 W0 g σ n w vals hS hv hr hf hn hpre).mono ?_⟩
 rintro e' w' ⟨u,rfl,g',hg,hS',hu⟩
 cases hu
 obtain ⟨g1,hle1,hS1,hrow1,_⟩:=hS'.addRow (k:=k) (e:=e) (size:=size) (m:=0) (u:=.slice none 0 0) (cells:=[]) hf hn (kz w' _ e size) rfl (fun b hb=>by simp [Value.ownBlock] at hb) (fun b hb=>by simp [Value.ownBlock] at hb)
 refine ⟨.slice none 0 0,rfl,g1,hg.trans hle1,hS1,?_⟩
 exact .slice (some k) [] [] none 0 0 rfl (Nat.le_refl _) (by unfold maxLen;omega) (fun i x v h _=>by simp at h) (fun v hv=>by simp at hv) (.inl rfl) (fun id hid=>by cases hid;exact ⟨_,hrow1,Nat.le_refl _,fun _=>rfl⟩)
theorem ACall.empty {own:Option Nat} (h:∀ A c,ACall P f [.lit (.slice A 0 c)] k pre r post):ACall P f [.slice own []] k pre r post:=by
 obtain ⟨h1,h2,h3,_⟩:=h none 0
 refine ⟨h1,h2,h3,fun W0 g σ n w vals hS hv hr hf hn hpre=>?_⟩
 match vals,hv with
 | [v],_=>
  have:=hr 0 _ v rfl rfl
  cases this with
  | slice _ _ vs A c size hvl hc hm _ hs hcell hown=>
   exact (h A c).2.2.2 W0 g σ n w [.slice A 0 c] hS rfl (fun i x v hx hv=>by
    cases i with
    | zero=>simp at hx hv;subst hx;subst hv;exact .lit _ rfl
    | succ i=>simp at hx) hf hn hpre
end
theorem wrap_i64 {x:Int} (h1:-9223372036854775808≤x) (h2:x≤9223372036854775807):IntKind.i64.wrap x=x:=by rw [IntKind.wrap_i64];omega
@[go_sem low] theorem zus:type_of% @evBuild.eq_def:=@evBuild.eq_def
@[go_sem low] theorem zq5 (place:Nat→Option (Nat × Nat)) (zs:List AV):zdU place zs []=some zs:=by cases zs <;> rfl
@[go_sem low] theorem zpW (place:Nat→Option (Nat × Nat)) (zs:List AV) (i:Nat) (z:AV) (r:List (Nat × AV)):zdU place zs ((i,z)::r)=match zs[i]? with
  | some y=>if y.sz == z.sz && place i == some (AV.szl (zs.take i),z.sz) then zdU place (zs.set i z) r else none
  | none=>none:=by cases zs <;> rfl
@[go_sem low] theorem zwb:type_of% @evBin.eq_def:=@evBin.eq_def
attribute [go_sem] zac zq4 zi6 zhp zho zi9 zqe zbD zyn zgr zn6 zfE zkP zja zn5 zdz zei zlr zfF zut zuv zuu zeW zch zkN zln zdR zhq zeh zkO zi4 zfB zmE eqA zpT za3 zec zlg zl zkS zrr zsN zrs zm5 zr zg znB bnd zp5 zp4 zrk wrap_i64 yi zF addT kJ zdr zgc
def zpk:Op→Bool
 | .move _ | .assign _ | .pick .. | .extract .. | .nilCheck _ | .makeFunc .. | .binOp .. | .unOp .. | .convert .. | .index .. | .fieldAddr .. | .indexAddr .. | .build .. | .slice .. | .makeInterface .. | .typeAssert ..=>true
 | .call { callee:=.builtin .len,.. } | .call { callee:=.builtin .min,.. } | .call { callee:=.builtin .max,.. }=>true
 | _=>false
def zyr:Op→Bool
 | .box .. | .alloc _ | .buildSlice .. | .makeSlice ..=>true
 | _=>false
section
variable {P:Program} {ops:Array Oper} {m i n:Nat} {T:Trace} {k:Cfg→Trace→Prop} {op:Op} {ty:TypeId} {pos:String} {after:Array Edge} {r:List Oper} {s:Slots} {σ:Nat→Ent} {gd:Option (Nat × Bool)} {d:Option Tmp}
theorem zdD {t:Tmp} {v:AV} (_hp:zpk op=true) (he:zac P op s σ (m+i)=some ⟨[],v,[]⟩) (h:aops P ops m r (i+1) T k ⟨upd s t v,σ,n⟩):aops P ops m (⟨some t,op,ty,pos,after,none⟩::r) i T k ⟨s,σ,n⟩:=by
 rw [vp,yY,xl];exact ⟨_,vj he,h⟩
theorem zoc {t:Tmp} {v:AV} {x:Operand} (he:zl s x=v) (h:aops P ops m r (i+1) T k ⟨upd s t v,σ,n⟩):aops P ops m (⟨some t,.move x,ty,pos,after,none⟩::r) i T k ⟨s,σ,n⟩:=by
 subst he;exact zdD rfl rfl h
theorem zjf {t:Tmp} {v:AV} {x:Operand} (he:zl s x=v) (h:aops P ops m r (i+1) T k ⟨upd s t v,σ,n⟩):aops P ops m (⟨some t,.assign x,ty,pos,after,none⟩::r) i T k ⟨s,σ,n⟩:=by
 subst he;exact zdD rfl rfl h
theorem zob {t:Tmp} {t':TypeId} {x:Operand} {v:AV} {p:Nat × Ent} (he:zkP P σ t' (zl s x)=some ⟨[p],v,[]⟩) (h:aops P ops m r (i+1) ((i,[p],[])::T) k ⟨upd s t v,σ,n⟩):aops P ops m (⟨some t,.load t' x,ty,pos,after,none⟩::r) i T k ⟨s,σ,n⟩:=by
 have he':zac P (.load t' x) s σ (m+i)=some ⟨[p],v,[]⟩:=he
 rw [vp,yY,xl];exact ⟨_,vj he',h⟩
theorem zlz {t:Tmp} {t':TypeId} {x:Operand} {v:AV} (he:zkP P σ t' (zl s x)=some ⟨[],v,[]⟩) (h:aops P ops m r (i+1) T k ⟨upd s t v,σ,n⟩):aops P ops m (⟨some t,.load t' x,ty,pos,after,none⟩::r) i T k ⟨s,σ,n⟩:=by
 have he':zac P (.load t' x) s σ (m+i)=some ⟨[],v,[]⟩:=he
 rw [vp,yY,xl];exact ⟨_,vj he',h⟩
theorem zjk {t:Tmp} {v:AV} {q:Nat × Ent} (_hp:zyr op=true) (he:zac P op s σ (m+i)=some ⟨[],v,[q]⟩) (h:aops P ops m r (i+1) ((i,[],[q])::T) k ⟨upd s t v,upd σ q.1 q.2,n⟩):aops P ops m (⟨some t,op,ty,pos,after,none⟩::r) i T k ⟨s,σ,n⟩:=by
 rw [vp,yY,xl];exact ⟨_,vj he,h⟩
theorem zlB {t:Tmp} {v:AV} {p:Nat × Ent} (_hp:zpk op=true) (he:zac P op s σ (m+i)=some ⟨[p],v,[]⟩) (h:aops P ops m r (i+1) ((i,[p],[])::T) k ⟨upd s t v,σ,n⟩):aops P ops m (⟨some t,op,ty,pos,after,none⟩::r) i T k ⟨s,σ,n⟩:=by
 rw [vp,yY,xl];exact ⟨_,vj he,h⟩
theorem zrf {t:Tmp} {v:AV} {p q:Nat × Ent} (_hp:zpk op=true) (he:zac P op s σ (m+i)=some ⟨[p],v,[q]⟩) (h:aops P ops m r (i+1) ((i,[p],[q])::T) k ⟨upd s t v,upd σ q.1 q.2,n⟩):aops P ops m (⟨some t,op,ty,pos,after,none⟩::r) i T k ⟨s,σ,n⟩:=by
 rw [vp,yY,xl];exact ⟨_,vj he,h⟩
theorem zoe {t:Tmp} {v:AV} {q:Nat × Ent} (_hp:zpk op=true) (he:zac P op s σ (m+i)=some ⟨[],v,[q]⟩) (h:aops P ops m r (i+1) ((i,[],[q])::T) k ⟨upd s t v,upd σ q.1 q.2,n⟩):aops P ops m (⟨some t,op,ty,pos,after,none⟩::r) i T k ⟨s,σ,n⟩:=by
 rw [vp,yY,xl];exact ⟨_,vj he,h⟩
theorem zhx {t:Tmp} {x y:Operand} {t' tn:TypeId} {v:AV} {p q:Nat × Ent} (hne:(t' == tn)=false) (he:zeh P σ t' tn (zl s x) (zl s y)=some ⟨[p],v,[q]⟩) (h:aops P ops m r (i+1) ((i,[p],[q])::T) k ⟨upd s t v,upd σ q.1 q.2,n⟩):
  aops P ops m (⟨some t,.call { callee:=.builtin .append,args:=#[x,y],argTypes:=#[t',tn] },ty,pos,after,none⟩::r) i T k ⟨s,σ,n⟩:=by
 have he':zac P (.call { callee:=.builtin .append,args:=#[x,y],argTypes:=#[t',tn] }) s σ (m+i)=some ⟨[p],v,[q]⟩:=by
  have:t'≠tn:=by simpa using hne
  simp only [zac,zkN,zch,if_neg this];exact he
 rw [vp,yY,xl];exact ⟨_,vj he',h⟩
theorem zn9 {t:Tmp} {x y:Operand} {t1 t2:TypeId} {v:AV} {p q:Nat × Ent} (he:zkO P σ t1 (zl s x) (zl s y)=some ⟨[p],v,[q]⟩) (h:aops P ops m r (i+1) ((i,[p],[q])::T) k ⟨upd s t v,upd σ q.1 q.2,n⟩):
  aops P ops m (⟨some t,.call { callee:=.builtin .copy,args:=#[x,y],argTypes:=#[t1,t2] },ty,pos,after,none⟩::r) i T k ⟨s,σ,n⟩:=by
 have he':zac P (.call { callee:=.builtin .copy,args:=#[x,y],argTypes:=#[t1,t2] }) s σ (m+i)=some ⟨[p],v,[q]⟩:=he
 rw [vp,yY,xl];exact ⟨_,vj he',h⟩
theorem zlx {x y:Operand} {t1 t2:TypeId} {v:AV} {p q:Nat × Ent} (he:zkO P σ t1 (zl s x) (zl s y)=some ⟨[p],v,[q]⟩) (h:aops P ops m r (i+1) ((i,[p],[q])::T) k ⟨s,upd σ q.1 q.2,n⟩):
  aops P ops m (⟨none,.call { callee:=.builtin .copy,args:=#[x,y],argTypes:=#[t1,t2] },ty,pos,after,none⟩::r) i T k ⟨s,σ,n⟩:=by
 have he':zac P (.call { callee:=.builtin .copy,args:=#[x,y],argTypes:=#[t1,t2] }) s σ (m+i)=some ⟨[p],v,[q]⟩:=he
 rw [vp,yY,xl];exact ⟨_,vj he',h⟩
theorem zjh {x:Operand} {t1:TypeId} {v:AV} {p q:Nat × Ent} (he:zi4 P σ t1 (zl s x)=some ⟨[p],v,[q]⟩) (h:aops P ops m r (i+1) ((i,[p],[q])::T) k ⟨s,upd σ q.1 q.2,n⟩):
  aops P ops m (⟨none,.call { callee:=.builtin .clear,args:=#[x],argTypes:=#[t1] },ty,pos,after,none⟩::r) i T k ⟨s,σ,n⟩:=by
 have he':zac P (.call { callee:=.builtin .clear,args:=#[x],argTypes:=#[t1] }) s σ (m+i)=some ⟨[p],v,[q]⟩:=he
 rw [vp,yY,xl];exact ⟨_,vj he',h⟩
theorem kS {t:Tmp} {st:Step} (hg:∀ o:Oper,o.op=op→Gives P o s σ (m+i) st) (h:aops P ops m r (i+1) (addT i st T) k ⟨upd s t st.v,wr σ st.post,n⟩):aops P ops m (⟨some t,op,ty,pos,after,none⟩::r) i T k ⟨s,σ,n⟩:=by
 rw [vp,yY,xl];exact ⟨_,hg _ rfl,h⟩
theorem zlC {t':TypeId} {x y:Operand} {p q:Nat × Ent} (he:zja P σ t' (zl s x) (zl s y)=some ⟨[p],.tup [],[q]⟩) (h:aops P ops m r (i+1) ((i,[p],[q])::T) k ⟨s,upd σ q.1 q.2,n⟩):aops P ops m (⟨none,.store t' x y,ty,pos,after,none⟩::r) i T k ⟨s,σ,n⟩:=by
 have he':zac P (.store t' x y) s σ (m+i)=some ⟨[p],.tup [],[q]⟩:=he
 rw [vp,yY,xl];exact ⟨_,vj he',h⟩
theorem zje {t:Tmp} {x y:Operand} {t':TypeId} {v:AV} {p q:Nat × Ent} (he:zeW P σ (m+i) t' (zl s x) (zl s y)=some ⟨[p],v,[q]⟩) (h:aops P ops m r (i+1) ((i,[p],[q])::T) k ⟨upd s t v,upd σ q.1 q.2,n⟩):
  aops P ops m (⟨some t,.call { callee:=.builtin .append,args:=#[x,y],argTypes:=#[t',t'] },ty,pos,after,none⟩::r) i T k ⟨s,σ,n⟩:=by
 have he':zac P (.call { callee:=.builtin .append,args:=#[x,y],argTypes:=#[t',t'] }) s σ (m+i)=some ⟨[p],v,[q]⟩:=by
  simp only [zac,zkN,zch,if_true];exact he
 rw [vp,yY,xl];exact ⟨_,vj he',h⟩
theorem zhw {t:Tmp} {x y:Operand} {t':TypeId} {v:AV} {q:Nat × Ent} (he:zeW P σ (m+i) t' (zl s x) (zl s y)=some ⟨[],v,[q]⟩) (h:aops P ops m r (i+1) ((i,[],[q])::T) k ⟨upd s t v,upd σ q.1 q.2,n⟩):
  aops P ops m (⟨some t,.call { callee:=.builtin .append,args:=#[x,y],argTypes:=#[t',t'] },ty,pos,after,none⟩::r) i T k ⟨s,σ,n⟩:=by
 have he':zac P (.call { callee:=.builtin .append,args:=#[x,y],argTypes:=#[t',t'] }) s σ (m+i)=some ⟨[],v,[q]⟩:=by
  simp only [zac,zkN,zch,if_true];exact he
 rw [vp,yY,xl];exact ⟨_,vj he',h⟩
theorem zrc {g:Nat × Bool} (hw:zeP ops (some g) s=some true) (h:aops P ops m (⟨d,op,ty,pos,after,none⟩::r) i T k ⟨s,σ,n⟩):aops P ops m (⟨d,op,ty,pos,after,some g⟩::r) i T k ⟨s,σ,n⟩:=by
 rw [vp] at h ⊢
 rw [yY,xl] at h
 rw [hw,xl]
 exact h
theorem zmJ {g:Nat × Bool} {t:Tmp} (hw:zeP ops (some g) s=some false) (h:aops P ops m r (i+1) T k ⟨upd s t (.tup []),σ,n⟩):aops P ops m (⟨some t,op,ty,pos,after,some g⟩::r) i T k ⟨s,σ,n⟩:=by
 rw [vp,hw,zms];exact h
theorem zh8 {j t:Nat} {want b:Bool} (hd:(ops[j]?).bind (·.dst)=some t) (hs:s t=.lit (.bool b)):zeP ops (some (j,want)) s=some (b == want):=by
 simp [zeP,hd,hs]
theorem zoS {j t:Nat} {want:Bool} (hd:(ops[j]?).bind (·.dst)=some t) (hs:s t=.tup []):zeP ops (some (j,want)) s=some false:=by
 simp [zeP,hd,hs]
theorem zfI {j g:Nat} {want:Bool} {t:Tmp} (hd:(ops[j]?).bind (·.dst)=some g) (hs:s g=.lit (.bool want)) (h1:aops P ops m (⟨some t,op,ty,pos,after,none⟩::r) i T k ⟨s,σ,n⟩):
  aops P ops m (⟨some t,op,ty,pos,after,some (j,want)⟩::r) i T k ⟨s,σ,n⟩:=zrc (by rw [zh8 hd hs];simp) h1
theorem zmK {j g:Nat} {want b:Bool} {t:Tmp} (hd:(ops[j]?).bind (·.dst)=some g) (hs:s g=.lit (.bool b)) (hb:b=!want) (h2:aops P ops m r (i+1) T k ⟨upd s t (.tup []),σ,n⟩):
  aops P ops m (⟨some t,op,ty,pos,after,some (j,want)⟩::r) i T k ⟨s,σ,n⟩:=zmJ (by rw [zh8 hd hs,hb];simp) h2
theorem zfJ {j g:Nat} {want:Bool} {t:Tmp} (hd:(ops[j]?).bind (·.dst)=some g) (hs:s g=.tup []) (h2:aops P ops m r (i+1) T k ⟨upd s t (.tup []),σ,n⟩):
  aops P ops m (⟨some t,op,ty,pos,after,some (j,want)⟩::r) i T k ⟨s,σ,n⟩:=zmJ (zoS hd hs) h2
theorem zux {t:Tmp} {x:Operand} {args:Array Operand} {ts:Array TypeId} {f:FuncId} {caps:List AV} {pre post:Foot} {v:AV} (hx:zl s x=.fn f caps) (hc:ACall P f (args.toList.map (zl s)++caps) (m+i) pre v post) (hp:∀ p∈pre,σ p.1=p.2)
  (h:aops P ops m r (i+1) (addT i ⟨pre,v,post⟩ T) k ⟨upd s t v,wr σ post,n⟩):aops P ops m (⟨some t,.call { callee:=.value x,args:=args,argTypes:=ts },ty,pos,after,none⟩::r) i T k ⟨s,σ,n⟩:=by
 rw [vp,yY,xl]
 exact znN (c:=⟨s,σ,n⟩) rfl hx hc hp h
theorem zmL {c:Cfg} (h:k c T):aops P ops m [] i T k c:=h
end
section
variable {P:Program} {N:Nat} {Q:AExit→Cfg→Prop} {c:Cfg}
theorem zek {next:Cfg→Prop} (h:next c):aThen next Q .normal c:=h
theorem zbg {next:Cfg→Prop} {id:Nat} (h:Q (.exit id) c):aThen next Q (.exit id) c:=h
theorem zcn {next:Cfg→Prop} (h:Q .ret c):aThen next Q .ret c:=h
theorem zmI {id:Nat} (h:Q .normal c):aBlk id Q .normal c:=h
theorem zdb {id:Nat} (h:Q .ret c):aBlk id Q .ret c:=h
theorem kP {id:Nat} (h:Q .normal c):aBlk id Q (.exit id) c:=by simp [aBlk];exact h
theorem zbe {id id':Nat} (hne:(id' == id)=false) (h:Q (.exit id') c):aBlk id Q (.exit id') c:=by
 simp at hne
 simp [aBlk,hne];exact h
theorem zjj {ops:Array Oper} {T:Trace} (h:Q .normal c):kReg ops false Q c T:=by rw [zp6];exact h
theorem zgz {ops:Array Oper} (h:Q .normal c):kReg ops true Q c []:=by rw [zjy];exact ⟨trivial,h⟩
theorem zgA {ops:Array Oper} {x:Nat × Foot × Foot} (h:Q .normal c):kReg ops true Q c [x]:=by rw [zjy,zvF];exact ⟨trivial,h⟩
theorem zgB {ops:Array Oper} {T:Trace} (hT:CF ops T) (h:Q .normal c):kReg ops true Q c T:=by rw [zjy];exact ⟨hT,h⟩
end
theorem zmM {P:Program} {rs:List ResultVar} {k:Nat} {σ0:Nat→Ent} {n0:Nat} {pre:Foot} {r r':AV} {c:Cfg} (h1:kJ P c rs=some r') (h2:r'.ren (rn n0 k none)=r) (h3:∀ id,id < n0→c.σ id=σ0 id):aRet P rs k σ0 n0 pre r [] .ret c:=
 ⟨r',r',[],none,h1,AV.le_refl _,h2.symm,h3,(fun q hq=>(by cases hq)),rfl⟩
theorem zpZ {P:Program} {rs:List ResultVar} {k:Nat} {σ0:Nat→Ent} {n0:Nat} {pre:Foot} {r r0 r':AV} {c:Cfg} (h1:kJ P c rs=some r0) (hle:AV.le r0 r') (h2:r'.ren (rn n0 k none)=r) (h3:∀ id,id < n0→c.σ id=σ0 id):aRet P rs k σ0 n0 pre r [] .ret c:=
 ⟨r0,r',[],none,h1,hle,h2.symm,h3,(fun q hq=>(by cases hq)),rfl⟩
theorem zQ {P:Program} {rs:List ResultVar} {k r0:Nat} {σ0:Nat→Ent} {n0:Nat} {pre:Foot} {r r':AV} {E E':Ent} {c:Cfg} (h1:kJ P c rs=some r') (h0:n0≤r0) (h2:r'.ren (rn n0 k (some r0))=r) (h3:∀ id,id < n0→c.σ id=σ0 id)
  (h4:c.σ r0=E') (h5:E'.ren (rn n0 k (some r0))=E) (h6:E'.plain=true:=by rfl):aRet P rs k σ0 n0 pre r [(k,E)] .ret c:=
 ⟨r',r',[],some r0,h1,AV.le_refl _,h2.symm,h3,(fun q hq=>(by cases hq)),h0,by rw [h4,h5];rfl,by rw [h4];exact h6⟩
theorem yd {P:Program} {rs:List ResultVar} {k:Nat} {σ0:Nat→Ent} {n0:Nat} {pre post:Foot} {r r':AV} {c:Cfg} (ws:Foot) (h1:kJ P c rs=some r') (h2:r'.ren (rn n0 k none)=r) (h3:∀ id,id < n0→c.σ id=wr σ0 ws id)
  (h4:∀ q∈ws,∃ p∈pre,p.1=q.1) (h5:zfj (rn n0 k none) ws=post):aRet P rs k σ0 n0 pre r post .ret c:=
 ⟨r',r',ws,none,h1,AV.le_refl _,h2.symm,h3,h4,h5.symm⟩
theorem zqk (f:Nat→Option Nat) (b:UInt8):(za b).ren f=za b:=rfl
theorem xr (f:Nat→Option Nat) (bs:List UInt8):AV.renl f (bs.map za)=bs.map za:=by
 rw [AV.renl_map,List.map_map];rfl
theorem zoD (f:Nat→Option Nat) (xs ys:List AV):AV.renl f (xs++ys)=AV.renl f xs++AV.renl f ys:=by simp only [AV.renl_map,List.map_append]
@[go_sem] theorem ziZ (f:Nat→Option Nat) (t:TypeId) (x:AV):(Ent.box t x).ren f=.box t (x.ren f):=rfl
@[go_sem] theorem ztK (f:Nat→Option Nat) (t:TypeId) (x:AV):(Ent.fbox t x).ren f=.fbox t (x.ren f):=rfl
@[go_sem] theorem zur (f:Nat→Option Nat) (e:TypeId) (size n:Nat):(Ent.row e size n).ren f=.row e size n:=rfl
@[go_sem] theorem ztL (f:Nat→Option Nat) (h:Nat) (x:AV):(Ent.glob h x).ren f=.glob h (x.ren f):=rfl
@[go_sem] theorem zeg (f:Nat→Option Nat) (ver:Nat) (e:TypeId) (size:Nat) (xs:List AV):(Ent.mrow ver e size xs).ren f=.mrow ver e size (AV.renl f xs):=rfl
theorem zkB {n0 k id:Nat} {fresh:Option Nat} (h:id < n0):rn n0 k fresh id=some id:=by simp [rn,h]
theorem ztg {n0 k id:Nat} (h:n0≤id):rn n0 k (some id) id=some k:=by simp [rn,Nat.not_lt.2 h]
@[go_sem] theorem zwl (xs:List AV):(AV.agg xs).isAgg=true:=rfl
@[go_sem] theorem zwm:AV.any.isAgg=false:=rfl
@[go_sem] theorem zwn (v:Value):(AV.lit v).isAgg=false:=rfl
@[go_sem] theorem zvq:AV.nils.isAgg=false:=rfl
@[go_sem] theorem zuB (o:Option Nat) (xs:List AV):(AV.slice o xs).isAgg=false:=rfl
@[go_sem] theorem zwo (i:Nat) (p:List Nat) (q:Nat):(AV.ptr i p q).isAgg=false:=rfl
@[go_sem] theorem zvr (x:AV):(AV.view x).isAgg=false:=rfl
@[go_sem] theorem zxy (f:FuncId) (xs:List AV):(AV.fn f xs).isAgg=false:=rfl
@[go_sem] theorem zwp (xs:List AV):(AV.tup xs).isAgg=false:=rfl
@[go_sem] theorem zvp (xs:List AV):(AV.clip xs).isAgg=false:=rfl
@[go_sem] theorem zxA (a b c d e:Nat):(AV.ms a b c d e).isAgg=false:=rfl
@[go_sem] theorem zxz (a b:Nat) (p:List Nat) (q:Nat):(AV.mp a b p q).isAgg=false:=rfl
@[go_sem] theorem zxx (a:Nat) (p:List Nat) (b c d:Nat):(AV.bs a p b c d).isAgg=false:=rfl
@[go_sem] theorem zuA (t:TypeId) (x:AV):(AV.iface t x).isAgg=false:=rfl
attribute [go_sem] AV.get AV.offs AV.put zln AV.sz AV.szl AV.cell AV.celll zmx znR if_pos AV.elems AV.ren xr zoD AV.renl zkB ztg zfj
theorem qI (bs:List UInt8):(bs.map za).all (fun x=>x.sz == 1)=true:=by
 rw [List.all_eq_true];intro x hx;obtain ⟨b,_,rfl⟩:=List.mem_map.1 hx;rfl
theorem zpN (bs:List UInt8):(bs.map za).all (fun x=>x.sz == 1 && x.cell)=true:=by
 rw [List.all_eq_true];intro x hx;obtain ⟨b,_,rfl⟩:=List.mem_map.1 hx;rfl
theorem SimA.at_eq {W0:World} {g:Ghost} {N:Nat} {s:Slots} {σ:Nat→Ent} {n:Nat} {a:Act} {w:World} (h:SimA W0 g N ⟨s,σ,n⟩ a w) {t:Tmp} {x:AV} (ht:s t=x):Rep g x (a.tmps.getD t undef):=by
 have:=h.slots t
 simp only at this
 rw [ht] at this;exact this
theorem SimA.turnSlot {W0:World} {g g':Ghost} {N:Nat} {s:Slots} {σ σ':Nat→Ent} {n n':Nat} {a:Act} {w:World} (h:SimA W0 g N ⟨s,σ,n⟩ a w) (hle:g.le g') (hS:Sim W0 g' σ' n' w) {t:Tmp} {y:AV} (hy:Rep g' y (a.tmps.getD t undef)):SimA W0 g' N ⟨upd s t y,σ',n'⟩ a w:=by
 refine ⟨hS,h.size,fun t'=>?_⟩
 by_cases htt:t'=t
 ·subst htt;simp only [zr];exact hy
 ·simp only [zg _ _ _ _ htt];exact (h.slots t').mono hle
theorem ALoop.nilrow {P:Program} {N:Nat} {b:Code} {Q:AExit→Cfg→Prop} {s:Slots} {σ:Nat→Ent} {n:Nat} (t:Tmp) (e:TypeId) (size:Nat) (ht:s t=.nils)
  (h:aw P N b Q ⟨upd s t (.slice (some n) []),upd σ n (.row e size 0),n+1⟩):aw P N b Q ⟨s,σ,n⟩:=by
 refine qF (fun W0 g a w hS=>?_) h
 have hf:σ n=.none:=hS.sim.bound n (Nat.le_refl _)
 obtain ⟨g1,hle1,hS1,hrow1,_⟩:=(hS.sim.more (n':=n+1) (Nat.le_succ n)).addRow (k:=n) (e:=e) (size:=size) (m:=0) (u:=.slice none 0 0) (cells:=[]) hf (Nat.lt_succ_self n) (kz w _ e size) rfl (fun b hb=>by simp [Value.ownBlock] at hb) (fun b hb=>by simp [Value.ownBlock] at hb)
 refine ⟨g1,hle1,hS.turnSlot hle1 hS1 ?_⟩
 have hr:=hS.at_eq ht
 generalize a.tmps.getD t undef=v at hr
 cases hr
 exact .slice (some n) [] [] none 0 0 rfl (Nat.le_refl _) (by unfold maxLen;omega) (fun i x v h _=>by simp at h) (fun v hv=>by simp at hv) (.inl rfl) (fun id hid=>by cases hid;exact ⟨_,hrow1,Nat.le_refl _,fun _=>rfl⟩)
theorem qJ {P:Program} {N:Nat} {b:Code} {Q:AExit→Cfg→Prop} {s:Slots} {σ:Nat→Ent} {n:Nat} (t:Tmp) {id ver size:Nat} {e:TypeId} {xs:List AV} {k:Nat} (hσ:σ id=.mrow ver e size xs) (ht:s t=.ms id ver size 0 k) (hk:k=xs.length)
  (h:aw P N b Q ⟨upd s t (.slice (some id) xs),upd σ id (.row e size xs.length),n⟩):aw P N b Q ⟨s,σ,n⟩:=by
 refine qF (fun W0 g a w hS=>?_) h
 subst hk
 obtain ⟨g2,hle2,hS2,u2,vs,k1,k2,k3,k4,k5,k6,k7,k8⟩:=hS.sim.freezeM hσ
 exact ⟨g2,hle2,hS.turnSlot hle2 hS2 ((hS.at_eq ht).msFrozen hle2 k1 k3 k2 k4 k5 k6 k8)⟩
theorem jB {P:Program} {N:Nat} {b:Code} {Q:AExit→Cfg→Prop} {s:Slots} {σ:Nat→Ent} {n:Nat} (t:Tmp) {x y:AV} (ht:s t=x) (hxy:AV.le x y) (h:aw P N b Q ⟨upd s t y,σ,n⟩):aw P N b Q ⟨s,σ,n⟩:=
 qF (fun _W0 g _a _w hS=>⟨g,g.le_refl,hS.turnSlot g.le_refl hS.sim (hxy _ _ (hS.at_eq ht))⟩) h
theorem zL {P:Program} {N:Nat} {b:Code} {Q:AExit→Cfg→Prop} {s:Slots} {σ:Nat→Ent} {n:Nat} (id:Nat) (path:List Nat) (e:TypeId) (size:Nat) {bt:TypeId} {c:AV} {xs:List AV} (hσ:σ id=.box bt c) (hc:c.get path=some (.clip xs)) (hsx:xs.all (fun x=>x.sz == size)=true)
  (h:aw P N b Q ⟨s,upd (upd σ n (.row e size xs.length)) id (.box bt (c.put path (.slice (some n) xs))),n+1⟩):aw P N b Q ⟨s,σ,n⟩:=by
 refine qF (fun W0 g a w hS=>?_) h
 have hf:σ n=.none:=hS.sim.bound n (Nat.le_refl _)
 have hidn:id≠n:=by rintro rfl;rw [hf] at hσ;cases hσ
 obtain ⟨b0,v,hb0,_,hrep,hheap,hG⟩:=hS.sim.box id bt c hσ
 obtain ⟨u,hu,hub,huc⟩:=hrep.get hc
 cases hu with
 | clip _ A m hcl=>
  obtain ⟨g',h1,h2,h3,h4⟩:=(hS.sim.more (n':=n+1) (Nat.le_succ n)).ofClip (k:=n) (e:=e) (size:=size) hf (Nat.lt_succ_self n) hcl hsx
  obtain ⟨v',hv',hvc⟩:=(hrep.mono h1).put hc h4 rfl
  have hcells:v'.cells=v.cells:=by
   have hU:(Value.slice A m m).cells.toList=[Value.slice A m m]:=rfl
   have hUs:(Value.slice A m m).cells.size=1:=rfl
   apply Array.ext'
   rw [hvc,hU,hUs]
   have hk:=huc 0 (Value.slice A m m) (by rw [hU];rfl)
   rw [Nat.add_zero] at hk
   have hlt:c.offs path < v.cells.toList.length:=(List.getElem?_eq_some_iff.1 hk).1
   have l1:(v.cells.toList.take (c.offs path)).length=c.offs path:=by rw [List.length_take];omega
   have l2:(v.cells.toList.take (c.offs path)++[Value.slice A m m]).length=c.offs path+1:=by rw [List.length_append,l1];rfl
   apply List.ext_getElem?
   intro j
   by_cases h1':j < c.offs path
   ·rw [List.getElem?_append_left oo,List.getElem?_append_left oo,List.getElem?_take,if_pos h1']
   ·by_cases h2':j=c.offs path
    ·subst h2'
     rw [List.getElem?_append_left oo,List.getElem?_append_right oo,l1,Nat.sub_self,hk]
     rfl
    ·rw [List.getElem?_append_right oo,l2,List.getElem?_drop]
     congr 1
     omega
  have hE:EntOK W0 g' w id (upd σ n (.row e size xs.length) id):=h2.ents id
  rw [zg _ _ _ _ hidn,hσ] at hE
  obtain ⟨e1,e2,e3,b1,v1,e4,e5,e6,e7⟩:=hE
  have hb1:b1=b0:=by
   have:=h1.loc id b0 hb0
   rw [e4] at this;injection this
  subst hb1
  refine ⟨g',h1,⟨?_,hS.size,fun t=>(hS.slots t).mono h1⟩⟩
  have hlt:id < n+1:=by
   rcases Nat.lt_or_ge id n with h' | h'
   ·omega
   ·have:=hS.sim.bound id h';simp only at this;rw [hσ] at this;cases this
  refine h2.change hlt g'.le_refl h2.below h2.imm (fun _ _=>⟨rfl,rfl,rfl,rfl⟩) (fun i hi b' hb'=>⟨⟨rfl,fun _=>rfl⟩,fun e=>hi (h2.sep i id b' hb' e)⟩) ⟨e1,e2,e3,b1,v',e4,hv',by rw [hcells];exact hheap,e7⟩ (fun b' hb'=>h2.fresh id b' hb') (Nat.le_refl _)
theorem ALoop.less {P:Program} {N:Nat} {b:Code} {Q:AExit→Cfg→Prop} {s:Slots} {σ:Nat→Ent} {n:Nat} (t:Tmp) {x y:AV} (ht:s t=x) (hxy:AV.le x y) (h:aw P N b Q ⟨upd s t y,σ,n⟩):aw P N b Q ⟨s,σ,n⟩:=jB t ht hxy h
theorem zo4 {P:Program} {N:Nat} {b:Code} {Q:AExit→Cfg→Prop} {next:Cfg→Prop} {c:Cfg} {id:Nat} (I:Cfg→Prop) (h1:aw P N b (aBlk id (aThen I Q)) c) (h2:∀ c,I c→next c):aw P N b (aBlk id (aThen next Q)) c:=by
 refine zhZ h1 fun e c' hq=>?_
 cases e with
 | normal=>exact h2 _ hq
 | ret=>exact hq
 | exit id'=>
  simp only [aBlk] at hq ⊢
  split at hq
  ·rename_i h;rw [if_pos h];exact h2 _ hq
  ·rename_i h;rw [if_neg h];exact hq
section
variable {P:Program} {ops:Array Oper} {m i n:Nat} {T:Trace} {k:Cfg→Trace→Prop} {op:Op} {ty:TypeId} {pos:String} {after:Array Edge} {r:List Oper} {s:Slots} {σ:Nat→Ent} {gd:Option (Nat × Bool)} {d:Option Tmp}
theorem zej {j g:Nat} {want:Bool} {t:Tmp} (hd:(ops[j]?).bind (·.dst)=some g) (hs:s g=.lit (.bool (!want))) (h2:aops P ops m r (i+1) T k ⟨upd s t (.tup []),σ,n⟩):
  aops P ops m (⟨some t,op,ty,pos,after,some (j,want)⟩::r) i T k ⟨s,σ,n⟩:=zmK hd hs rfl h2
theorem jN {t:Tmp} {x:Operand} {args:Array Operand} {ts:Array TypeId} {f:FuncId} {caps:List AV} {pre post:Foot} {v:AV} {as0:List AV} (hc:ACall P f as0 (m+i) pre v post) (hx:zl s x=.fn f caps) (hle:ALe (args.toList.map (zl s)++caps) as0) (hp:∀ p∈pre,σ p.1=p.2)
  (h:aops P ops m r (i+1) (addT i ⟨pre,v,post⟩ T) k ⟨upd s t v,wr σ post,n⟩):aops P ops m (⟨some t,.call { callee:=.value x,args:=args,argTypes:=ts },ty,pos,after,none⟩::r) i T k ⟨s,σ,n⟩:=
 zux hx (hc.weaken hle) hp h
end
@[go_sem] theorem getz (a:AV) (l:List AV):(a::l)[0]?=some a:=rfl
@[go_sem] theorem zum (b:UInt8):(za b).isAgg=false:=rfl
theorem zbX (x:Int) (h0:0≤x) (h1:x≤9223372036854775807):bits .and .i64 x 127=x % 128:=
 bits_mask .i64 63 (by decide) (fun n a b=>wrap_i64 oo oo) 7 (by decide) x h0 oo
theorem zde (x:Int) (h0:0≤x) (h1:x < 128):bits .or .i64 x 128=x+128:=by
 have h:bits .or .i64 128 x=128+x:=bits_join .i64 63 (by decide) (fun n a b=>wrap_i64 oo oo) 7 128 x (by decide) (by decide) (by decide) h0 oo oo
 have c:bits .or .i64 x 128=bits .or .i64 128 x:=by simp [bits,BitVec.or_comm]
 rw [c,h];omega
inductive Mut (id:Nat):Prop where
 | mk
def zq3 (P:Program) (s:Slots) (id:Nat):Op→Option Step
 | .buildSlice t len parts=>match zH P t with
  | some (e,size,_,z)=>match zdU (fun i=>some (i * size,size)) (List.replicate len z) (parts.toList.map fun p=>(p.1,zl s p.2)) with
   | some ys=>if len * size≤16777216∧ys.length=len∧ys.all (fun x=>x.sz == size)=true then some ⟨[],.ms id 0 size 0 len,[(id,.mrow 0 e size ys)]⟩ else none
   | none=>none
  | none=>none
 | .makeSlice t x y=>match zH P t,zl s x,zl s y with
  | some (e,size,bytes,z),.lit (.int _ n),.lit (.int _ c)=>if 0≤n∧n≤c∧c≤140737488355328∧bytes * c≤140737488355328 then some ⟨[],.ms id 0 size 0 n.toNat,[(id,.mrow 0 e size (List.replicate n.toNat z))]⟩ else none
  | _,_,_=>none
 | .convert src dst x=>match zl s x,zT P dst with
  | .lit (.string b),some e=>if zM P src=true∧zq P e=true∧xL P e 1=true∧b.size≤9223372036854775807 then some ⟨[],.ms id 0 1 0 b.size,[(id,.mrow 0 e 1 (b.data.toList.map za))]⟩ else none
  | _,_=>none
 | .slice t x lo hi none=>match zl s x,zbE P t with
  | .ptr i p q,some (n,_,size)=>match bnd s 0 lo,bnd s n hi with
   | some l,some h=>if l≤h∧h≤n∧(l=0∨l < n)∧n≤9223372036854775807 then some ⟨[],.bs i p l (q+l * size) (h - l),[]⟩ else none
   | _,_=>none
  | _,_=>none
 | _=>none
theorem zi8 {P:Program} {s:Slots} {σ:Nat→Ent} {id:Nat} {o:Oper} {st:Step} (h:zq3 P s id o.op=some st):Gives P o s σ id st:=by
 cases ho:o.op <;> rw [ho] at h <;> simp only [zq3] at h <;> try (cases h;done)
 case buildSlice t len parts=>
  split at h
  ·rename_i ht
   split at h
   ·rename_i hf
    split at h
    ·rename_i hc
     cases h
     obtain ⟨k1,k2,k3,k4,k5,k6⟩:=zI ht
     exact .mk0 (zhC ho k1 k2 k4 k6 k5 hc.1 hf hc.2.1 hc.2.2)
    ·cases h
   ·cases h
  ·cases h
 case makeSlice t x y=>
  split at h
  ·rename_i ht hx hy
   split at h
   ·rename_i hc
    cases h
    obtain ⟨k1,k2,k3,k4,k5,k6⟩:=zI ht
    exact .mk0 (zij ho k1 k2 k3 k4 k5 k6 hx hy hc.1 hc.2.1 hc.2.2.1 hc.2.2.2)
   ·cases h
  ·cases h
 case convert src dst x=>
  split at h
  ·rename_i hx hd
   split at h
   ·rename_i hc
    cases h
    exact .mk0 (zaE ho hc.1 hd hc.2.1 hc.2.2.1 hx (by unfold maxLen;omega))
   ·cases h
  ·cases h
 case slice t x lo hi mx=>
  cases mx with
  | some m=>cases h
  | none=>
   simp only at h
   split at h
   ·rename_i hx ht
    split at h
    ·rename_i hl hh
     split at h
     ·rename_i hc
      cases h
      exact .mk0 (zjv ho ht hx hl hh hc.1 hc.2.1 hc.2.2.1 (by unfold maxLen;omega))
     ·cases h
    ·cases h
   ·cases h
attribute [go_sem] zq3
section
variable {P:Program} {ops:Array Oper} {m i n:Nat} {T:Trace} {k:Cfg→Trace→Prop} {op:Op} {ty:TypeId} {pos:String} {after:Array Edge} {r:List Oper} {s:Slots} {σ:Nat→Ent}
theorem zre {t:Tmp} {v:AV} {q:Nat × Ent} (_hM:Mut (m+i)) (he:zq3 P s (m+i) op=some ⟨[],v,[q]⟩) (h:aops P ops m r (i+1) ((i,[],[q])::T) k ⟨upd s t v,upd σ q.1 q.2,n⟩):aops P ops m (⟨some t,op,ty,pos,after,none⟩::r) i T k ⟨s,σ,n⟩:=
 kS (st:=⟨[],v,[q]⟩) (fun o ho=>zi8 (by rw [ho];exact he)) h
theorem zod {t:Tmp} {v:AV} (_hM:Mut (m+i)) (he:zq3 P s (m+i) op=some ⟨[],v,[]⟩) (h:aops P ops m r (i+1) T k ⟨upd s t v,σ,n⟩):aops P ops m (⟨some t,op,ty,pos,after,none⟩::r) i T k ⟨s,σ,n⟩:=
 kS (st:=⟨[],v,[]⟩) (fun o ho=>zi8 (by rw [ho];exact he)) h
end
theorem vn {P:Program} {rs:List ResultVar} {k:Nat} {σ0:Nat→Ent} {n0:Nat} {pre:Foot} {r r0:AV} {c:Cfg} (h1:kJ P c rs=some r0) (hle:AV.le r0 r) (h2:r.ren (rn n0 k none)=r) (h3:∀ id,id < n0→c.σ id=σ0 id):aRet P rs k σ0 n0 pre r [] .ret c:=
 zpZ h1 hle h2 h3
theorem zfK {P:Program} {rs:List ResultVar} {k:Nat} {σ0:Nat→Ent} {n0:Nat} {pre post:Foot} {r r0:AV} {c:Cfg} (ws:Foot) (h1:kJ P c rs=some r0) (hle:AV.le r0 r) (h2:r.ren (rn n0 k none)=r) (h3:∀ id,id < n0→c.σ id=wr σ0 ws id)
  (h4:∀ q∈ws,∃ p∈pre,p.1=q.1) (h5:zfj (rn n0 k none) ws=post):aRet P rs k σ0 n0 pre r post .ret c:=
 ⟨r0,r,ws,none,h1,hle,h2.symm,h3,h4,h5.symm⟩
theorem AV.le_slices {o:Option Nat} {xs ys:List AV} (h:xs=ys):AV.le (.slice o xs) (.slice none ys):=by subst h;exact AV.le_own _ _
theorem AV.le_nilsE {ys:List AV} (h:ys=[]):AV.le .nils (.slice none ys):=by subst h;exact AV.le_nils0
theorem AV.le_clipE {xs ys:List AV} (h:xs=ys):AV.le (.clip xs) (.slice none ys):=by subst h;exact AV.le_clip _
@[go_sem] theorem zcx (bs:List UInt8):AV.szl (bs.map za)=bs.length:=by
 rw [AV.szl_uniform _ 1 fun x hx=>by obtain ⟨b,_,rfl⟩:=List.mem_map.1 hx;rfl];simp
@[go_sem] theorem zkD (bs:List UInt8) (i:Nat):AV.szl ((bs.map za).take i)=min i bs.length:=by rw [← List.map_take,zcx,List.length_take]
attribute [go_sem] AV.szl_append
@[go_sem] theorem ztV {α β:Type} (f:α→β) (l:List α):(l.map f).take l.length=l.map f:=List.take_of_length_le (by simp)
theorem zbn (bs:List UInt8) (i:Nat) (b:UInt8):(bs.map za).set i (za b)=(bs.set i b).map za:=by rw [List.map_set]
def g0 (w:World):Ghost:={ G:=fun b o=>if b < w.heap.size then w.cell? ⟨b,o,none⟩ else none,loc:=fun _=>none,row:=fun _=>none,own:=fun _=>none,mr:=fun _=>none }
theorem zyz (w:World):Sim w (g0 w) (fun _=>.none) 1 w where
 below:=Below.refl _ _
 imm:=fun b o v h=>by
  simp only [g0] at h
  split at h
  ·exact h
  ·cases h
 bound:=fun _ _=>rfl
 ents:=fun _=>⟨rfl,rfl,rfl,rfl⟩
 sep:=fun i j b h _=>by simp [g0,Ghost.blk] at h
 fresh:=fun i b h=>by simp [g0,Ghost.blk] at h
theorem ACall.walk {P:Program} {f:FuncId} {args:List AV} {v:Value} (h:ACall P f args 0 [] (.lit v) []) (w:World) (vals:List Value) (hl:vals.length=args.length)
  (hr:∀ (i:Nat) (x:AV) (u:Value),args[i]?=some x→vals[i]?=some u→Rep (g0 w) x u):Calls P f vals.toArray w fun e w'=>e=.returned v∧Below w.heap.size w w':=by
 refine (h.2.2.2 w (g0 w) _ 1 w vals (zyz w) hl hr rfl oo (fun p hp=>by cases hp)).mono ?_
 rintro e w' ⟨u,rfl,g',_,hS,hu⟩
 rw [zN hu]
 exact ⟨rfl,hS.below⟩
inductive Reps (g:Ghost):List AV→List Value→Prop where
 | nil:Reps g [] []
 | cons {x:AV} {v:Value} {xs:List AV} {vs:List Value}:Rep g x v→Reps g xs vs→Reps g (x::xs) (v::vs)
theorem Reps.at {g:Ghost} {xs:List AV} {vs:List Value} (h:Reps g xs vs):vs.length=xs.length∧∀ (i:Nat) (x:AV) (u:Value),xs[i]?=some x→vs[i]?=some u→Rep g x u:=by
 induction h with
 | nil=>exact ⟨rfl,fun i x u h _=>by simp at h⟩
 | cons h _ ih=>
  refine ⟨by simp [ih.1],fun i x u hx hu=>?_⟩
  cases i with
  | zero=>simp at hx hu;subst hx;subst hu;exact h
  | succ i=>exact ih.2 i x u (by simpa using hx) (by simpa using hu)
theorem ze1 {w:World} {k:IntKind} {a:Option Addr} {len cap:Nat} {zs:List Int} (h:(a=none∧len=0∧cap=0∧zs=[])∨∃ x,a=some x∧len≤cap∧cap≤maxLen∧zs.length=cap∧∀ i,i < zs.length→w.cell? (x.add i)=some (.int k (zs.getD i 0))):
  Rep (g0 w) (.slice none ((zs.take len).map fun z=>.lit (.int k z))) (.slice a len cap):=by
 rcases h with ⟨rfl,rfl,rfl,rfl⟩ | ⟨x,rfl,h1,h2,h3,h4⟩
 ·exact .slice none [] [] none 0 1 rfl (by simp) (by unfold maxLen;omega) (fun i x v h _=>by simp at h) (fun v hv=>by simp at hv) (.inl rfl) (fun id hid=>by cases hid)
 ·have hlen:((zs.take len).map fun z=>AV.lit (.int k z)).length=len:=by simp;omega
  have:=Rep.slice (g:=g0 w) none ((zs.take len).map fun z=>AV.lit (.int k z)) ((zs.take len).map fun z=>Value.int k z) (some x) cap 1 (by simp) (by rw [hlen];exact h1) h2
   (fun i y v hy hv=>by
    rw [List.getElem?_map] at hy hv
    cases hz:(zs.take len)[i]? with
    | none=>rw [hz] at hy;cases hy
    | some z=>rw [hz] at hy hv;cases hy;cases hv;exact .lit _ rfl) (fun v hv=>by obtain ⟨z,_,rfl⟩:=List.mem_map.1 hv;rfl)
   (by
    by_cases h0:len=0
    ·exact .inl (by rw [hlen,h0])
    ·right
     obtain ⟨b,off,spot⟩:=x
     have hc:=h4 0 oo
     have hspot:spot=none:=by simpa [Addr.add] using World.cell?_spot hc
     subst hspot
     have hb:b < w.heap.size:=by
      have hc0:w.cell? ⟨b,off,none⟩=some (.int k (zs.getD 0 0)):=by simpa [Addr.add] using hc
      rcases Nat.lt_or_ge b w.heap.size with h | h
      ·exact h
      ·exfalso
       simp [World.cell?,Array.getElem?_eq_none h] at hc0
     refine ⟨b,off,rfl,fun j u hu=>?_⟩
     have hfl:yG ((zs.take len).map fun z=>Value.int k z)=(zs.take len).map fun z=>Value.int k z:=by
      generalize zs.take len=l
      induction l with
      | nil=>rfl
      | cons z r ih=>rw [List.map_cons,xX,ih];rfl
     rw [hfl,List.getElem?_map] at hu
     cases hz:(zs.take len)[j]? with
     | none=>rw [hz] at hu;cases hu
     | some z=>
      rw [hz] at hu;cases hu
      have hj:j < zs.length:=by
       have:=(List.getElem?_eq_some_iff.1 hz).1
       simp at this;omega
      have hzz:zs.getD j 0=z:=by
       rw [List.getElem?_take] at hz
       split at hz
       ·simp [List.getD,hz]
       ·cases hz
      simp only [g0,if_pos hb]
      have:=h4 j hj
      rw [hzz] at this
      rw [Addr.add_lit] at this
      exact this) (fun id hid=>by cases hid)
  rw [hlen] at this
  exact this
theorem zhP {w:World} {k:IntKind} {a:Option Addr} {len cap:Nat} {zs:List Int} (h:(a=none∧len=0∧cap=0∧zs=[])∨∃ x,a=some x∧len≤cap∧cap≤maxLen∧zs.length=cap∧∀ i,i < zs.length→w.cell? (x.add i)=some (.int k (zs.getD i 0))):
  (zs.take len).length≤9223372036854775807:=by
 rcases h with ⟨_,_,_,rfl⟩ | ⟨x,_,h1,h2,h3,_⟩
 ·simp
 ·unfold maxLen at h2
  rw [List.length_take];omega
end Go.Ab
namespace Go.Proofs.YtglmjglbobhbbaaGreatDoor
open _root_.Go.Proofs.Tryz
open Go.Ab
theorem zi:prog.follows .mixedOrders=true:=by kernel_rfl
@[go_sem] theorem zt1:zK prog 1=some (.lit .nilFunc):=by kernel_rfl
@[go_sem] theorem tq1:zx prog 1=some (false,1)∧zq prog 1=false∧Program.concrete prog 1=true∧zM prog 1=false∧zz prog 1=3:=by and_intros <;> kernel_rfl
@[go_sem] theorem it2:zbL prog 2=some .i64:=by kernel_rfl
@[go_sem] theorem zt2:zK prog 2=some (.lit (.int .i64 0)):=by kernel_rfl
@[go_sem] theorem tq2:zx prog 2=some (false,1)∧zq prog 2=false∧Program.concrete prog 2=true∧zM prog 2=false:=by and_intros <;> kernel_rfl
@[go_sem] theorem it3:zbL prog 3=some .i64:=by kernel_rfl
@[go_sem] theorem zt3:zK prog 3=some (.lit (.int .i64 0)):=by kernel_rfl
@[go_sem] theorem tq3:zx prog 3=some (false,1)∧zq prog 3=false∧Program.concrete prog 3=true∧zM prog 3=false:=by and_intros <;> kernel_rfl
@[go_sem] theorem bt4:zgf prog 4=true:=by kernel_rfl
@[go_sem] theorem zt4:zK prog 4=some (.lit (.bool false)):=by kernel_rfl
@[go_sem] theorem tq4:zx prog 4=some (false,1)∧zq prog 4=false∧Program.concrete prog 4=true∧zM prog 4=false:=by and_intros <;> kernel_rfl
@[go_sem] theorem it5:zbL prog 5=some .u8:=by kernel_rfl
@[go_sem] theorem by5:zq prog 5=true:=by kernel_rfl
@[go_sem] theorem sz1_5:xL prog 5 1=true:=by kernel_rfl
@[go_sem] theorem zt5:zK prog 5=some (.lit (.int .u8 0)):=by kernel_rfl
@[go_sem] theorem tq5:zx prog 5=some (false,1)∧Program.concrete prog 5=true∧zM prog 5=false:=by and_intros <;> kernel_rfl
@[go_sem] theorem st9:zM prog 9=true:=by kernel_rfl
@[go_sem] theorem zt9:zK prog 9=some (.lit (.string ByteArray.empty)):=by kernel_rfl
@[go_sem] theorem tq9:zx prog 9=some (false,1)∧zq prog 9=false∧Program.concrete prog 9=true:=by and_intros <;> kernel_rfl
@[go_sem] theorem it12:zbL prog 12=some .u64:=by kernel_rfl
@[go_sem] theorem zt12:zK prog 12=some (.lit (.int .u64 0)):=by kernel_rfl
@[go_sem] theorem tq12:zx prog 12=some (false,1)∧zq prog 12=false∧Program.concrete prog 12=true∧zM prog 12=false:=by and_intros <;> kernel_rfl
@[go_sem] theorem zt20:zK prog 20=some (.lit .nilIface):=by kernel_rfl
@[go_sem] theorem tq20:zx prog 20=some (false,1)∧zq prog 20=false∧zM prog 20=false:=by and_intros <;> kernel_rfl
@[go_sem] theorem sl22:zT prog 22=some 30:=by kernel_rfl
@[go_sem] theorem si22:zH prog 22=some (30,35,72,(.agg [(.lit (.int .i64 0)),(.lit (.int .i64 0)),.nils,(.agg ((List.replicate 32 (0:UInt8)).map za))])):=by kernel_rfl
@[go_sem] theorem zt22:zK prog 22=some .nils:=by kernel_rfl
@[go_sem] theorem tq22:zx prog 22=some (false,1)∧zq prog 22=false∧Program.concrete prog 22=true∧zM prog 22=false∧zz prog 22=1:=by and_intros <;> kernel_rfl
@[go_sem] theorem sl23:zT prog 23=some 34:=by kernel_rfl
@[go_sem] theorem si23:zH prog 23=some (34,34,80,(.agg [.nils,.nils,(.agg ((List.replicate 32 (0:UInt8)).map za))])):=by kernel_rfl
@[go_sem] theorem zt23:zK prog 23=some .nils:=by kernel_rfl
@[go_sem] theorem tq23:zx prog 23=some (false,1)∧zq prog 23=false∧Program.concrete prog 23=true∧zM prog 23=false∧zz prog 23=1:=by and_intros <;> kernel_rfl
@[go_sem] theorem zt25:zK prog 25=some (.agg [.nils,.nils]):=by kernel_rfl
@[go_sem] theorem tq25:zx prog 25=some (true,2)∧zq prog 25=false∧Program.concrete prog 25=true∧zM prog 25=false∧yO prog 25=some [(0,1),(1,1)]∧zf prog 25 0=some 0∧zf prog 25 1=some 1:=by and_intros <;> kernel_rfl
@[go_sem] theorem zwG:zT prog 26=some 140:=by kernel_rfl
@[go_sem] theorem si26:zH prog 26=some (140,10,120,(.agg [(.lit (.bool false)),(.agg [(.lit (.int .i64 0)),(.lit (.int .u64 0)),(.lit (.int .i64 0)),(.lit (.int .i64 0)),(.lit (.string ByteArray.empty)),(.lit (.int .i64 0))]),(.lit (.int .i64 0)),.nils,.nils])):=by kernel_rfl
@[go_sem] theorem zt26:zK prog 26=some .nils:=by kernel_rfl
@[go_sem] theorem tq26:zx prog 26=some (false,1)∧zq prog 26=false∧Program.concrete prog 26=true∧zM prog 26=false∧zz prog 26=1:=by and_intros <;> kernel_rfl
@[go_sem] theorem eq28:zkm prog 28=some (.bytes 32):=by kernel_rfl
@[go_sem] theorem zwu:zbE prog 28=some (32,5,1):=by kernel_rfl
@[go_sem] theorem zqx:w7 prog 28=some (32,5,1):=by kernel_rfl
@[go_sem] theorem sp28:yO prog 28=none:=by kernel_rfl
@[go_sem] theorem zt28:zK prog 28=some (.agg ((List.replicate 32 (0:UInt8)).map za)):=by kernel_rfl
@[go_sem] theorem tq28:zx prog 28=some (true,32)∧zq prog 28=false∧Program.concrete prog 28=true∧zM prog 28=false:=by and_intros <;> kernel_rfl
@[go_sem] theorem zt30:zK prog 30=some (.agg [(.lit (.int .i64 0)),(.lit (.int .i64 0)),.nils,(.agg ((List.replicate 32 (0:UInt8)).map za))]):=by kernel_rfl
@[go_sem] theorem tq30:zx prog 30=some (true,35)∧zq prog 30=false∧Program.concrete prog 30=true∧zM prog 30=false∧yO prog 30=some [(0,1),(1,1),(2,1),(3,32)]∧zf prog 30 0=some 0∧zf prog 30 1=some 1∧zf prog 30 2=some 2∧zf prog 30 3=some 3:=by and_intros <;> kernel_rfl
@[go_sem] theorem ztk:zT prog 31=some 5:=by kernel_rfl
@[go_sem] theorem zwE:zH prog 31=some (5,1,1,(.lit (.int .u8 0))):=by kernel_rfl
@[go_sem] theorem zt31:zK prog 31=some .nils:=by kernel_rfl
@[go_sem] theorem tq31:zx prog 31=some (false,1)∧zq prog 31=false∧Program.concrete prog 31=true∧zM prog 31=false∧zz prog 31=1:=by and_intros <;> kernel_rfl
@[go_sem] theorem zwH:zT prog 32=some 138:=by kernel_rfl
@[go_sem] theorem si32:zH prog 32=some (138,6,56,(.agg [(.lit (.int .i64 0)),(.lit (.int .u64 0)),(.lit (.int .i64 0)),(.lit (.int .i64 0)),(.lit (.string ByteArray.empty)),(.lit (.int .i64 0))])):=by kernel_rfl
@[go_sem] theorem zt32:zK prog 32=some .nils:=by kernel_rfl
@[go_sem] theorem tq32:zx prog 32=some (false,1)∧zq prog 32=false∧Program.concrete prog 32=true∧zM prog 32=false∧zz prog 32=1:=by and_intros <;> kernel_rfl
@[go_sem] theorem zt34:zK prog 34=some (.agg [.nils,.nils,(.agg ((List.replicate 32 (0:UInt8)).map za))]):=by kernel_rfl
@[go_sem] theorem tq34:zx prog 34=some (true,34)∧zq prog 34=false∧Program.concrete prog 34=true∧zM prog 34=false∧yO prog 34=some [(0,1),(1,1),(2,32)]∧zf prog 34 0=some 0∧zf prog 34 1=some 1∧zf prog 34 2=some 2:=by and_intros <;> kernel_rfl
@[go_sem] theorem sl35:zT prog 35=some 3:=by kernel_rfl
@[go_sem] theorem si35:zH prog 35=some (3,1,8,(.lit (.int .i64 0))):=by kernel_rfl
@[go_sem] theorem zt35:zK prog 35=some .nils:=by kernel_rfl
@[go_sem] theorem tq35:zx prog 35=some (false,1)∧zq prog 35=false∧Program.concrete prog 35=true∧zM prog 35=false∧zz prog 35=1:=by and_intros <;> kernel_rfl
@[go_sem] theorem sl38:zT prog 38=some 190:=by kernel_rfl
@[go_sem] theorem si38:zH prog 38=some (190,65,88,(.agg [(.agg ((List.replicate 32 (0:UInt8)).map za)),.nils,(.agg ((List.replicate 32 (0:UInt8)).map za))])):=by kernel_rfl
@[go_sem] theorem zt38:zK prog 38=some .nils:=by kernel_rfl
@[go_sem] theorem tq38:zx prog 38=some (false,1)∧zq prog 38=false∧Program.concrete prog 38=true∧zM prog 38=false∧zz prog 38=1:=by and_intros <;> kernel_rfl
@[go_sem] theorem sl39:zT prog 39=some 192:=by kernel_rfl
@[go_sem] theorem si39:zH prog 39=some (192,35,88,(.agg [(.agg ((List.replicate 32 (0:UInt8)).map za)),(.lit (.int .i64 0)),.nils,.nils])):=by kernel_rfl
@[go_sem] theorem zt39:zK prog 39=some .nils:=by kernel_rfl
@[go_sem] theorem tq39:zx prog 39=some (false,1)∧zq prog 39=false∧Program.concrete prog 39=true∧zM prog 39=false∧zz prog 39=1:=by and_intros <;> kernel_rfl
@[go_sem] theorem zt41:zK prog 41=some (.agg [(.lit (.bool false)),(.agg ((List.replicate 32 (0:UInt8)).map za)),(.lit (.int .i64 0)),.nils,.nils]):=by kernel_rfl
@[go_sem] theorem tq41:zx prog 41=some (true,36)∧zq prog 41=false∧Program.concrete prog 41=true∧zM prog 41=false∧yO prog 41=some [(0,1),(1,32),(33,1),(34,1),(35,1)]∧zf prog 41 0=some 0∧zf prog 41 1=some 1∧zf prog 41 2=some 33∧zf prog 41 3=some 34∧zf prog 41 4=some 35:=by and_intros <;> kernel_rfl
@[go_sem] theorem sl42:zT prog 42=some 81:=by kernel_rfl
@[go_sem] theorem si42:zH prog 42=some (81,33,40,(.agg [(.lit (.int .i64 0)),(.agg ((List.replicate 32 (0:UInt8)).map za))])):=by kernel_rfl
@[go_sem] theorem zt42:zK prog 42=some .nils:=by kernel_rfl
@[go_sem] theorem tq42:zx prog 42=some (false,1)∧zq prog 42=false∧Program.concrete prog 42=true∧zM prog 42=false∧zz prog 42=1:=by and_intros <;> kernel_rfl
@[go_sem] theorem zt44:zK prog 44=some (.agg [.nils,(.lit (.int .i64 0))]):=by kernel_rfl
@[go_sem] theorem tq44:zx prog 44=some (true,2)∧zq prog 44=false∧Program.concrete prog 44=true∧zM prog 44=false∧yO prog 44=some [(0,1),(1,1)]∧zf prog 44 0=some 0∧zf prog 44 1=some 1:=by and_intros <;> kernel_rfl
@[go_sem] theorem sl45:zT prog 45=some 147:=by kernel_rfl
@[go_sem] theorem si45:zH prog 45=some (147,2,24,(.agg [(.lit (.string ByteArray.empty)),(.lit (.int .i64 0))])):=by kernel_rfl
@[go_sem] theorem zt45:zK prog 45=some .nils:=by kernel_rfl
@[go_sem] theorem tq45:zx prog 45=some (false,1)∧zq prog 45=false∧Program.concrete prog 45=true∧zM prog 45=false∧zz prog 45=1:=by and_intros <;> kernel_rfl
@[go_sem] theorem zt47:zK prog 47=some (.agg [(.lit (.int .i64 0)),(.agg ((List.replicate 32 (0:UInt8)).map za)),.nils]):=by kernel_rfl
@[go_sem] theorem tq47:zx prog 47=some (true,34)∧zq prog 47=false∧Program.concrete prog 47=true∧zM prog 47=false∧yO prog 47=some [(0,1),(1,32),(33,1)]∧zf prog 47 0=some 0∧zf prog 47 1=some 1∧zf prog 47 2=some 33:=by and_intros <;> kernel_rfl
@[go_sem] theorem eq49:zkm prog 49=some (.agg [.int,.int]):=by kernel_rfl
@[go_sem] theorem zt49:zK prog 49=some (.agg [(.lit (.int .i64 0)),(.lit (.int .i64 0))]):=by kernel_rfl
@[go_sem] theorem tq49:zx prog 49=some (true,2)∧zq prog 49=false∧Program.concrete prog 49=true∧zM prog 49=false∧yO prog 49=some [(0,1),(1,1)]∧zf prog 49 0=some 0∧zf prog 49 1=some 1:=by and_intros <;> kernel_rfl
@[go_sem] theorem zt51:zK prog 51=some (.agg [(.agg [(.lit (.bool false)),(.agg ((List.replicate 32 (0:UInt8)).map za)),(.lit (.int .i64 0)),.nils,.nils]),(.agg [.nils,(.lit (.int .i64 0))]),(.agg [(.lit (.int .i64 0)),(.agg ((List.replicate 32 (0:UInt8)).map za)),.nils]),(.agg [(.lit (.int .i64 0)),(.lit (.int .i64 0)),.nils,(.agg ((List.replicate 32 (0:UInt8)).map za))]),.nils,(.agg [(.lit (.int .i64 0)),(.lit (.int .i64 0))]),(.lit (.string ByteArray.empty)),(.lit (.int .i64 0))]):=by kernel_rfl
@[go_sem] theorem tq51:zx prog 51=some (true,112)∧zq prog 51=false∧Program.concrete prog 51=true∧zM prog 51=false∧yO prog 51=some [(0,36),(36,2),(38,34),(72,35),(107,1),(108,2),(110,1),(111,1)]∧zf prog 51 0=some 0∧zf prog 51 1=some 36∧zf prog 51 2=some 38∧zf prog 51 3=some 72∧zf prog 51 4=some 107∧zf prog 51 5=some 108∧zf prog 51 6=some 110∧zf prog 51 7=some 111:=by and_intros <;> kernel_rfl
@[go_sem] theorem zt52:zK prog 52=some (.lit (.pointer none)):=by kernel_rfl
@[go_sem] theorem tq52:zx prog 52=some (false,1)∧zq prog 52=false∧Program.concrete prog 52=true∧zM prog 52=false∧zz prog 52=2:=by and_intros <;> kernel_rfl
@[go_sem] theorem it58:zbL prog 58=some .i64:=by kernel_rfl
@[go_sem] theorem zt58:zK prog 58=some (.lit (.int .i64 0)):=by kernel_rfl
@[go_sem] theorem tq58:zx prog 58=some (false,1)∧zq prog 58=false∧Program.concrete prog 58=true∧zM prog 58=false:=by and_intros <;> kernel_rfl
@[go_sem] theorem eq81:zkm prog 81=some (.agg [.int,(.bytes 32)]):=by kernel_rfl
@[go_sem] theorem zt81:zK prog 81=some (.agg [(.lit (.int .i64 0)),(.agg ((List.replicate 32 (0:UInt8)).map za))]):=by kernel_rfl
@[go_sem] theorem tq81:zx prog 81=some (true,33)∧zq prog 81=false∧Program.concrete prog 81=true∧zM prog 81=false∧yO prog 81=some [(0,1),(1,32)]∧zf prog 81 0=some 0∧zf prog 81 1=some 1:=by and_intros <;> kernel_rfl
@[go_sem] theorem zt96:zK prog 96=some (.agg [(.lit (.int .i64 0)),(.agg ((List.replicate 32 (0:UInt8)).map za)),.nils]):=by kernel_rfl
@[go_sem] theorem tq96:zx prog 96=some (true,34)∧zq prog 96=false∧Program.concrete prog 96=true∧zM prog 96=false∧yO prog 96=some [(0,1),(1,32),(33,1)]∧zf prog 96 0=some 0∧zf prog 96 1=some 1∧zf prog 96 2=some 33:=by and_intros <;> kernel_rfl
@[go_sem] theorem zt98:zK prog 98=some (.lit .nilFunc):=by kernel_rfl
@[go_sem] theorem tq98:zx prog 98=some (false,1)∧zq prog 98=false∧Program.concrete prog 98=true∧zM prog 98=false∧zz prog 98=3:=by and_intros <;> kernel_rfl
@[go_sem] theorem zt99:zK prog 99=some (.agg [(.lit (.int .i64 0)),(.lit (.int .i64 0))]):=by kernel_rfl
@[go_sem] theorem tq99:zx prog 99=some (true,2)∧zq prog 99=false∧Program.concrete prog 99=true∧zM prog 99=false∧yO prog 99=some [(0,1),(1,1)]∧zf prog 99 0=some 0∧zf prog 99 1=some 1:=by and_intros <;> kernel_rfl
@[go_sem] theorem eq100:zkm prog 100=some (.agg [.int,.int]):=by kernel_rfl
@[go_sem] theorem zt100:zK prog 100=some (.agg [(.lit (.int .i64 0)),(.lit (.int .i64 0))]):=by kernel_rfl
@[go_sem] theorem tq100:zx prog 100=some (true,2)∧zq prog 100=false∧Program.concrete prog 100=true∧zM prog 100=false∧yO prog 100=some [(0,1),(1,1)]∧zf prog 100 0=some 0∧zf prog 100 1=some 1:=by and_intros <;> kernel_rfl
@[go_sem] theorem sl102:zT prog 102=some 32:=by kernel_rfl
@[go_sem] theorem si102:zH prog 102=some (32,1,24,.nils):=by kernel_rfl
@[go_sem] theorem zt102:zK prog 102=some .nils:=by kernel_rfl
@[go_sem] theorem tq102:zx prog 102=some (false,1)∧zq prog 102=false∧Program.concrete prog 102=true∧zM prog 102=false∧zz prog 102=1:=by and_intros <;> kernel_rfl
@[go_sem] theorem sl108:zT prog 108=some 49:=by kernel_rfl
@[go_sem] theorem si108:zH prog 108=some (49,2,16,(.agg [(.lit (.int .i64 0)),(.lit (.int .i64 0))])):=by kernel_rfl
@[go_sem] theorem zt108:zK prog 108=some .nils:=by kernel_rfl
@[go_sem] theorem tq108:zx prog 108=some (false,1)∧zq prog 108=false∧Program.concrete prog 108=true∧zM prog 108=false∧zz prog 108=1:=by and_intros <;> kernel_rfl
@[go_sem] theorem zt115:zK prog 115=some (.agg [.nils,(.agg ((List.replicate 32 (0:UInt8)).map za))]):=by kernel_rfl
@[go_sem] theorem tq115:zx prog 115=some (true,33)∧zq prog 115=false∧Program.concrete prog 115=true∧zM prog 115=false∧yO prog 115=some [(0,1),(1,32)]∧zf prog 115 0=some 0∧zf prog 115 1=some 1:=by and_intros <;> kernel_rfl
@[go_sem] theorem zt122:zK prog 122=some (.agg [.nils,(.lit (.int .i64 0))]):=by kernel_rfl
@[go_sem] theorem tq122:zx prog 122=some (true,2)∧zq prog 122=false∧Program.concrete prog 122=true∧zM prog 122=false∧yO prog 122=some [(0,1),(1,1)]∧zf prog 122 0=some 0∧zf prog 122 1=some 1:=by and_intros <;> kernel_rfl
@[go_sem] theorem zsI:zbL prog 136=some .u64:=by kernel_rfl
@[go_sem] theorem zt136:zK prog 136=some (.lit (.int .u64 0)):=by kernel_rfl
@[go_sem] theorem tq136:zx prog 136=some (false,1)∧zq prog 136=false∧Program.concrete prog 136=true∧zM prog 136=false:=by and_intros <;> kernel_rfl
@[go_sem] theorem zwa:zkm prog 138=some (.agg [.int,.int,.int,.int,.str,.int]):=by kernel_rfl
@[go_sem] theorem zt138:zK prog 138=some (.agg [(.lit (.int .i64 0)),(.lit (.int .u64 0)),(.lit (.int .i64 0)),(.lit (.int .i64 0)),(.lit (.string ByteArray.empty)),(.lit (.int .i64 0))]):=by kernel_rfl
@[go_sem] theorem tq138:zx prog 138=some (true,6)∧zq prog 138=false∧Program.concrete prog 138=true∧zM prog 138=false∧yO prog 138=some [(0,1),(1,1),(2,1),(3,1),(4,1),(5,1)]∧zf prog 138 0=some 0∧zf prog 138 1=some 1∧zf prog 138 2=some 2∧zf prog 138 3=some 3∧zf prog 138 4=some 4∧zf prog 138 5=some 5:=by and_intros <;> kernel_rfl
@[go_sem] theorem zt140:zK prog 140=some (.agg [(.lit (.bool false)),(.agg [(.lit (.int .i64 0)),(.lit (.int .u64 0)),(.lit (.int .i64 0)),(.lit (.int .i64 0)),(.lit (.string ByteArray.empty)),(.lit (.int .i64 0))]),(.lit (.int .i64 0)),.nils,.nils]):=by kernel_rfl
@[go_sem] theorem tq140:zx prog 140=some (true,10)∧zq prog 140=false∧Program.concrete prog 140=true∧zM prog 140=false∧yO prog 140=some [(0,1),(1,6),(7,1),(8,1),(9,1)]∧zf prog 140 0=some 0∧zf prog 140 1=some 1∧zf prog 140 2=some 7∧zf prog 140 3=some 8∧zf prog 140 4=some 9:=by and_intros <;> kernel_rfl
@[go_sem] theorem eq147:zkm prog 147=some (.agg [.str,.int]):=by kernel_rfl
@[go_sem] theorem zt147:zK prog 147=some (.agg [(.lit (.string ByteArray.empty)),(.lit (.int .i64 0))]):=by kernel_rfl
@[go_sem] theorem tq147:zx prog 147=some (true,2)∧zq prog 147=false∧Program.concrete prog 147=true∧zM prog 147=false∧yO prog 147=some [(0,1),(1,1)]∧zf prog 147 0=some 0∧zf prog 147 1=some 1:=by and_intros <;> kernel_rfl
@[go_sem] theorem zt184:zK prog 184=some (.lit (.pointer none)):=by kernel_rfl
@[go_sem] theorem tq184:zx prog 184=some (false,1)∧zq prog 184=false∧Program.concrete prog 184=true∧zM prog 184=false∧zz prog 184=2:=by and_intros <;> kernel_rfl
@[go_sem] theorem zt190:zK prog 190=some (.agg [(.agg ((List.replicate 32 (0:UInt8)).map za)),.nils,(.agg ((List.replicate 32 (0:UInt8)).map za))]):=by kernel_rfl
@[go_sem] theorem tq190:zx prog 190=some (true,65)∧zq prog 190=false∧Program.concrete prog 190=true∧zM prog 190=false∧yO prog 190=some [(0,32),(32,1),(33,32)]∧zf prog 190 0=some 0∧zf prog 190 1=some 32∧zf prog 190 2=some 33:=by and_intros <;> kernel_rfl
@[go_sem] theorem zt192:zK prog 192=some (.agg [(.agg ((List.replicate 32 (0:UInt8)).map za)),(.lit (.int .i64 0)),.nils,.nils]):=by kernel_rfl
@[go_sem] theorem tq192:zx prog 192=some (true,35)∧zq prog 192=false∧Program.concrete prog 192=true∧zM prog 192=false∧yO prog 192=some [(0,32),(32,1),(33,1),(34,1)]∧zf prog 192 0=some 0∧zf prog 192 1=some 32∧zf prog 192 2=some 33∧zf prog 192 3=some 34:=by and_intros <;> kernel_rfl
@[go_sem] theorem zt236:zK prog 236=some (.lit .nilFunc):=by kernel_rfl
@[go_sem] theorem tq236:zx prog 236=some (false,1)∧zq prog 236=false∧Program.concrete prog 236=true∧zM prog 236=false∧zz prog 236=3:=by and_intros <;> kernel_rfl
@[go_sem] theorem zt249:zK prog 249=some (.agg [(.agg [(.lit (.bool false)),(.agg ((List.replicate 32 (0:UInt8)).map za)),(.lit (.int .i64 0)),.nils,.nils]),(.lit (.int .i64 0))]):=by kernel_rfl
@[go_sem] theorem tq249:zx prog 249=some (true,37)∧zq prog 249=false∧Program.concrete prog 249=true∧zM prog 249=false∧yO prog 249=some [(0,36),(36,1)]∧zf prog 249 0=some 0∧zf prog 249 1=some 36:=by and_intros <;> kernel_rfl
@[go_sem] theorem sl260:zT prog 260=some 31:=by kernel_rfl
@[go_sem] theorem si260:zH prog 260=some (31,1,24,.nils):=by kernel_rfl
@[go_sem] theorem zt260:zK prog 260=some .nils:=by kernel_rfl
@[go_sem] theorem tq260:zx prog 260=some (false,1)∧zq prog 260=false∧Program.concrete prog 260=true∧zM prog 260=false∧zz prog 260=1:=by and_intros <;> kernel_rfl
@[go_sem] theorem it268:zbL prog 268=some .u64:=by kernel_rfl
@[go_sem] theorem zt268:zK prog 268=some (.lit (.int .u64 0)):=by kernel_rfl
@[go_sem] theorem tq268:zx prog 268=some (false,1)∧zq prog 268=false∧Program.concrete prog 268=true∧zM prog 268=false:=by and_intros <;> kernel_rfl
@[go_sem] theorem sl269:zT prog 269=some 9:=by kernel_rfl
@[go_sem] theorem si269:zH prog 269=some (9,1,16,(.lit (.string ByteArray.empty))):=by kernel_rfl
@[go_sem] theorem zt269:zK prog 269=some .nils:=by kernel_rfl
@[go_sem] theorem tq269:zx prog 269=some (false,1)∧zq prog 269=false∧Program.concrete prog 269=true∧zM prog 269=false∧zz prog 269=1:=by and_intros <;> kernel_rfl
@[go_sem] theorem zt271:zK prog 271=some (.lit (.pointer none)):=by kernel_rfl
@[go_sem] theorem tq271:zx prog 271=some (false,1)∧zq prog 271=false∧Program.concrete prog 271=true∧zM prog 271=false∧zz prog 271=2:=by and_intros <;> kernel_rfl
@[go_sem] theorem zt273:zK prog 273=some (.agg [.nils,(.lit (.int .i64 0)),(.lit (.int .i64 0))]):=by kernel_rfl
@[go_sem] theorem tq273:zx prog 273=some (true,3)∧zq prog 273=false∧Program.concrete prog 273=true∧zM prog 273=false∧yO prog 273=some [(0,1),(1,1),(2,1)]∧zf prog 273 0=some 0∧zf prog 273 1=some 1∧zf prog 273 2=some 2:=by and_intros <;> kernel_rfl
@[go_sem] theorem pa292:zbE prog 292=some (2,31,1):=by kernel_rfl
@[go_sem] theorem ar292:w7 prog 292=some (2,31,1):=by kernel_rfl
@[go_sem] theorem sp292:yO prog 292=none:=by kernel_rfl
@[go_sem] theorem zt292:zK prog 292=some (.agg (List.replicate 2 .nils)):=by kernel_rfl
@[go_sem] theorem tq292:zx prog 292=some (true,2)∧zq prog 292=false∧Program.concrete prog 292=true∧zM prog 292=false:=by and_intros <;> kernel_rfl
@[go_sem] theorem it296:zbL prog 296=some .u32:=by kernel_rfl
@[go_sem] theorem zt296:zK prog 296=some (.lit (.int .u32 0)):=by kernel_rfl
@[go_sem] theorem tq296:zx prog 296=some (false,1)∧zq prog 296=false∧Program.concrete prog 296=true∧zM prog 296=false:=by and_intros <;> kernel_rfl
@[go_sem] theorem pa297:zbE prog 297=some (8,296,1):=by kernel_rfl
@[go_sem] theorem ar297:w7 prog 297=some (8,296,1):=by kernel_rfl
@[go_sem] theorem sp297:yO prog 297=none:=by kernel_rfl
@[go_sem] theorem zt297:zK prog 297=some (.agg (List.replicate 8 (.lit (.int .u32 0)))):=by kernel_rfl
@[go_sem] theorem tq297:zx prog 297=some (true,8)∧zq prog 297=false∧Program.concrete prog 297=true∧zM prog 297=false:=by and_intros <;> kernel_rfl
@[go_sem] theorem zt301:zK prog 301=some (.lit .nilFunc):=by kernel_rfl
@[go_sem] theorem tq301:zx prog 301=some (false,1)∧zq prog 301=false∧Program.concrete prog 301=true∧zM prog 301=false∧zz prog 301=3:=by and_intros <;> kernel_rfl
@[go_sem] theorem zt304:zK prog 304=some (.agg [(.agg (List.replicate 8 (.lit (.int .u32 0)))),.nils,(.lit (.int .i64 0))]):=by kernel_rfl
@[go_sem] theorem tq304:zx prog 304=some (true,10)∧zq prog 304=false∧Program.concrete prog 304=true∧zM prog 304=false∧yO prog 304=some [(0,8),(8,1),(9,1)]∧zf prog 304 0=some 0∧zf prog 304 1=some 8∧zf prog 304 2=some 9:=by and_intros <;> kernel_rfl
@[go_sem] theorem pa315:zbE prog 315=some (64,296,1):=by kernel_rfl
@[go_sem] theorem ar315:w7 prog 315=some (64,296,1):=by kernel_rfl
@[go_sem] theorem sp315:yO prog 315=none:=by kernel_rfl
@[go_sem] theorem zt315:zK prog 315=some (.agg (List.replicate 64 (.lit (.int .u32 0)))):=by kernel_rfl
@[go_sem] theorem tq315:zx prog 315=some (true,64)∧zq prog 315=false∧Program.concrete prog 315=true∧zM prog 315=false:=by and_intros <;> kernel_rfl
@[go_sem] theorem pa321:zbE prog 321=some (8,3,1):=by kernel_rfl
@[go_sem] theorem ar321:w7 prog 321=some (8,3,1):=by kernel_rfl
@[go_sem] theorem sp321:yO prog 321=none:=by kernel_rfl
@[go_sem] theorem zt321:zK prog 321=some (.agg (List.replicate 8 (.lit (.int .i64 0)))):=by kernel_rfl
@[go_sem] theorem tq321:zx prog 321=some (true,8)∧zq prog 321=false∧Program.concrete prog 321=true∧zM prog 321=false:=by and_intros <;> kernel_rfl
end Go.Proofs.YtglmjglbobhbbaaGreatDoor
