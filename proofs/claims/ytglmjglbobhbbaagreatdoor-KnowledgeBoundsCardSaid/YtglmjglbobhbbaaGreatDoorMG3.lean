/- Texts P13p, P12p, P16, U19, P24, C17, W16, P27, P28, W6, P30, P17, P25, P29, P31, P33, joined. -/
import Derived.Test.YtglmjglbobhbbaaGreatDoorMG2
namespace Go.Proofs.YtglmjglbobhbbaaGreatDoor
open _root_.Go.Proofs.Tryz
open Go.Ab
attribute [local irreducible] Go.Ab.tyAV Go.Ab.aw Go.Ab.aops Go.Ab.kReg Go.Ab.aThen Go.Ab.aBlk Go.Ab.acond Go.Ab.aguard Go.Ab.astep Go.Ab.AStepX Go.Ab.aRet
attribute [local irreducible] yE
section
variable [W:W32]
def al31:Alg:=⟨true,zeroTag,0,L2,[]⟩
def pa31:Pa:=⟨1,1,[],vW 109 1⟩
theorem zh1:zdF aF 1 zeroTag 1=(al31,pa31,0):=ziM
def r31:Pr:=⟨7,0,0,0,[],3⟩
theorem zae:zY al31 0 pa31 (zR r31)=(⟨true,zeroTag,0,L4 (yP 3),[]⟩,0,⟨1,1,[yP 3],vW 109 3⟩):=by
 have h:=zau al31 pa31 (zR r31)
 have h2:zba al31 pa31 (zR r31)=(⟨true,zeroTag,0,L4 (yP 3),[]⟩,⟨1,1,[yP 3],vW 109 3⟩,0):=zmt
 rw [h2] at h
 generalize zY al31 0 pa31 (zR r31)=X at *
 obtain ⟨x1,x2,x3⟩:=X
 simp only at h
 by_cases h0:x2=0
 ·rw [if_pos h0] at h
  simp only [Prod.mk.injEq] at h
  rw [h0,← h.1,← h.2.1]
 ·rw [if_neg h0] at h
  simp only [Prod.mk.injEq] at h
  exact absurd h.2.2.symm h0
def zpd:Pa:=⟨1,1,[yP 3],vW 109 3⟩
omit W in
theorem zqU:yZ (zE zpd [] ⟨0,1⟩)=0:=by kernel_rfl
theorem zaa (g h:Nat) (hgh:g≠h) (k:Nat):ACall prog 25 [] k [(g,yE),(h,zS)] (.lit (.bool true)) []:=by
 have hin:AlgIn al31 2:=by have:=zix zld 1 zeroTag 1;rw [zh1] at this;exact this
 have hc3:wY (yP 3):=⟨by simp [yP,zR],by simp [yP,zR]⟩
 have hP3:PrOk (yP 3).first:=⟨by decide,by decide,by decide⟩
 have hb:BuIn (zE zpd [] ⟨0,1⟩):=⟨by simp [zE,zpd],by simp [zE],fun c hc=>by
  simp only [zE,zpd,List.mem_singleton] at hc
  rw [hc];exact hP3,fun d hd=>by simp [zE] at hd⟩
 have hin3:AlgIn (zY al31 0 pa31 (zR r31)).1 (2+2):=zdE hin _ _ _
 have hbx:(zV (zY al31 0 pa31 (zR r31)).1 (zY al31 0 pa31 (zR r31)).2.2 [] ⟨0,1⟩).1.boxes=al31.boxes:=by
  rw [vo hin3 _ _ (by decide) (by simp),zae];rfl
 have c3:=zck al31 2 hin (by decide) pa31 (by simp [pa31]) (fun x hx=>by simp [pa31] at hx) r31 hP3 ⟨0,1⟩ (by rw [zae]) hin3 (by rw [zae];exact hb) (by rw [zae];exact zqU) (by rw [zae];intro c hc;simp only [List.mem_singleton] at hc;rw [hc];exact hc3) hbx g h
 have hB:(zV (zY al31 0 pa31 (zR r31)).1 (zY al31 0 pa31 (zR r31)).2.2 [] ⟨0,1⟩).2=⟨⟨0,1⟩,1,1,[yP 3],(zV (zY al31 0 pa31 (zR r31)).1 (zY al31 0 pa31 (zR r31)).2.2 [] ⟨0,1⟩).2.proof,[]⟩:=by
  rw [zae];rfl
 rw [hB] at c3
 generalize (zV (zY al31 0 pa31 (zR r31)).1 (zY al31 0 pa31 (zR r31)).2.2 [] ⟨0,1⟩).2.proof=T at *
 generalize (zV (zY al31 0 pa31 (zR r31)).1 (zY al31 0 pa31 (zR r31)).2.2 [] ⟨0,1⟩).1=A9 at *
 have c1:=zcO aF 0 zld (by decide) 1 1 zeroTag
 rw [zh1] at c1
 have c2:=zco pa31 ⟨by simp [pa31],fun x hx=>by simp [pa31] at hx⟩
 have c4:=zbH ⟨[pa31],[],[],[]⟩ ⟨by simp,fun x hx=>by rw [List.mem_singleton.1 hx];exact ⟨by simp [pa31],fun c hc=>by simp [pa31] at hc⟩,by simp,fun d hd=>(by cases hd),by simp,fun b hb=>(by cases hb),by simp,fun b hb=>(by cases hb)⟩ pa31.tag
 have hh:zka ⟨[pa31],[],[],[]⟩ pa31.tag=true:=by unfold zka;simp
 rw [hh] at c4
 unfold zdZ at c1
 have e0:((0:Nat):Int)=0:=rfl
 simp only [ziJ,e0] at c1
 have hpA:zG pa31=.agg [.lit (.int .i64 1),.lit (.int .i64 1),.slice none [],zd pa31.tag]:=rfl
 have hkA:xT ⟨[],[],[],[]⟩=.agg [.slice none [],.slice none [],.slice none [],.slice none []]:=rfl
 have hbA:ye ⟨⟨0,1⟩,1,1,[yP 3],T,[]⟩=.agg [.agg [.lit (.int .i64 0),.lit (.int .i64 1)],.lit (.int .i64 1),.lit (.int .i64 1),.slice none [z8 (yP 3)],zd T,.slice none []]:=rfl
 have hrA:yD ⟨0,1⟩=.agg [.lit (.int .i64 0),.lit (.int .i64 1)]:=rfl
 have h3A:zU r31=.agg [.lit (.int .i64 7),.lit (.int .u64 0),.lit (.int .i64 0),.lit (.int .i64 0),.lit (.string ⟨#[]⟩),.lit (.int .i64 3)]:=rfl
 have hkp:xT ⟨[pa31],[],[],[]⟩=.agg [.slice none [.agg [.lit (.int .i64 1),.lit (.int .i64 1),.slice none [],zd pa31.tag]],.slice none [],.slice none [],.slice none []]:=rfl
 have c3:=fun k=>c3 k hgh
 rw [hpA] at c1
 rw [hkA,hpA,hkp] at c2
 rw [hkp,h3A,hrA,hbA] at c3
 rw [hkp] at c4
 clear hin hc3 hP3 hb hin3 hbx hB hh hpA hkA hbA hrA h3A hkp e0
 generalize pa31.tag=TP at *
 generalize al31=A3 at *
 generalize z8 (yP 3)=C3 at *
 refine Bd func25 ntmps25 fun σ N hp hpn hk hkn hfree=>?_
 simp only [List.mem_cons,List.not_mem_nil,or_false,forall_eq_or_imp,forall_eq] at hp hpn;obtain ⟨hd1,hd2⟩:=hp;obtain ⟨hdn1,hdn2⟩:=hpn
 have hcs:=And.intro c1 (And.intro c2 (And.intro c3 (And.intro c4 True.intro)))
 clear c1 c2 c3 c4
 exact W0
end
section
variable [W:W32]
theorem zas (s:Sc) (m:Nat) (ha:AlgIn s.alg m) (hm:m≤50000) (hg:s.grants.length≤100) (hb:BuIn (zE s.pass s.grants s.req)) (h0:yZ (zE s.pass s.grants s.req)=0) (d k:Nat):ACall prog 27 [.ptr d [] 0] k [(d,.box 51 (zbS s))] (ye (zV s.alg s.pass s.grants s.req).2) [(d,.box 51 (zbS { s with alg:=(zV s.alg s.pass s.grants s.req).1 }))]:=by
 have c1:=qt s.alg m ha s.pass s.grants s.req hg hm hb h0
 clear ha hb h0
 generalize zV s.alg s.pass s.grants s.req=B at *
 obtain ⟨A',b⟩:=B
 obtain ⟨A,rg,con,p,gs,r,hol,mi⟩:=s
 have hdS:zbS ⟨A,rg,con,p,gs,r,hol,mi⟩=.agg [zA A,zbF rg,xW con,zG p,.slice none (gs.map zw),yD r,.lit (.string ⟨hol.toArray⟩),.lit (.int .i64 mi)]:=rfl
 have hdS':zbS ⟨A',rg,con,p,gs,r,hol,mi⟩=.agg [zA A',zbF rg,xW con,zG p,.slice none (gs.map zw),yD r,.lit (.string ⟨hol.toArray⟩),.lit (.int .i64 mi)]:=rfl
 simp only at c1 ⊢
 rw [hdS,hdS']
 clear hdS hdS'
 refine Bd func27 ntmps27 fun σ N hp hpn hk hkn hfree=>?_
 obtain ⟨hd,hdn⟩:=HD0 hp hpn;clear hp hpn
 have hcs:=And.intro c1 True.intro
 clear c1
 refine Wk ?_
 clear hcs
 exact RW (d) (.box 51 (.agg [zA A',zbF rg,xW con,zG p,.slice none (gs.map zw),yD r,.lit (.string ⟨hol.toArray⟩),.lit (.int .i64 mi)]))
theorem zeL {s:Sc} (hs:ScV s) {r:Rq} (hr:rqB r=true):BuIn (zE s.pass s.grants r)∧yZ (zE s.pass s.grants r)=0:=by
 obtain ⟨se,hG,s1,s2⟩:=hs.good
 obtain ⟨A,rg,con,⟨ep,sr,L,tg⟩,gs,r0,hol,mi⟩:=s
 obtain rfl:ep=2:=hG.ep
 obtain rfl:sr=se:=hG.es
 have hbl:∀ i (hi:i < gs.length) (hj:i < (gs.map zu).length),((gs.map zu)[i]).ticket=(gs[i]).ticket∧((gs.map zu)[i]).conds=(gs[i]).conds:=fun i hi hj=>by rw [List.getElem_map];exact ⟨rfl,rfl⟩
 exact zg1 (tg:=zeroTag) hr s1 s2 hG.cl hG.cv hG.th hG.gl hG.gv hG.gd (gs.map zu) (by simp) hbl
end
structure Few (q:Kn):Prop where
 p:∀ x∈q.ps,x.cavs.length≤70
 b:∀ x∈q.bs,x.cavs.length≤70∧x.dis.length≤30
 pl:q.ps.length≤40
 dl:q.ds.length≤40
 bl:q.bs.length≤70
 il:q.its.length≤70
section
variable [W:W32]
def zaN (l:List Int) (s:Sc) (n:Nat) (X:Alg × Kn × Nat):Alg × Kn × Nat:=
 if (yl l X.2.2 3).1=0 then ((zV X.1 s.pass s.grants s.req).1,⟨X.2.1.ps,X.2.1.ds,xy X.2.1.bs (zV X.1 s.pass s.grants s.req).2,X.2.1.its⟩,(yl l X.2.2 3).2)
 else if (yl l X.2.2 3).1=1 then (X.1,⟨X.2.1.ps,X.2.1.ds,X.2.1.bs,xy X.2.1.its ⟨n,0,0,zeroTag,[],(zg5 l (yl l X.2.2 3).2).1⟩⟩,(zg5 l (yl l X.2.2 3).2).2)
 else (X.1,(if (v7 X.2.1 s.pass s.grants).2=0 then (v7 X.2.1 s.pass s.grants).1 else X.2.1),(yl l X.2.2 3).2)
def zno (l:List Int) (s:Sc):Nat→Alg × Kn × Nat→Alg × Kn × Nat
 | 0,X=>X
 | n+1,X=>zno l s n (zaN l s (n+1) X)
structure KB (s:Sc) (A:Alg) (q:Kn) (i:Nat):Prop where
 ain:AlgIn A (1000+6 * i)
 ok:AlgOk A
 fr:A.free=s.alg.free
 bx:A.boxes=s.alg.boxes
 sub:∀ e∈s.alg.macs,e∈A.macs
 kc:KnC q
 p0:∃ r,q.ps=s.pass::r
 d0:∃ r,q.ds=s.grants++r∧∀ d∈r,d∈s.grants
 pl:q.ps.length≤1+i
 bl:q.bs.length≤i
 il:q.its.length≤i
 dl:q.ds.length≤100
theorem yW {s:Sc} (hs:ScV s):PaC s.pass∧(∀ d∈s.grants,WdT d.ticket d.conds)∧s.grants.length≤5:=by
 obtain ⟨⟨se,hG,_⟩,_⟩:=hs
 have hgl:=hG.gl
 have hcl:=hG.cl
 have hgv:=hG.gv
 have hcv:=hG.cv
 simp only at hgl hcl hgv hcv
 refine ⟨⟨by omega,fun c hc=>?_⟩,fun d hd=>?_,hgl⟩
 ·have:=hcv c hc
  exact ⟨by omega,by omega⟩
 ·have hv:=hgv d hd
  have v1:=hv.t2
  have v2:=hv.cl
  exact ⟨by omega,by omega⟩
theorem zbQ {s:Sc} (hs:ScV s) {A:Alg} {m:Nat} (hin0:AlgIn A m) (hm:m≤10000):BuC (zV A s.pass s.grants s.req).2:=by
 have hr:=hs.rq
 obtain ⟨hp,hd,hgl⟩:=yW hs
 have hin:AlgIn (qa A s.pass s.req).1 (m+1):=yN hin0 _ _
 obtain ⟨_,b2⟩:=zaw (leaf:=s.pass.tag) hr s.grants s.grants 0 _ (s.grants.map zu) (m+1) hin oo rfl (by simp) (fun i hi hj=>by rw [List.getElem_map];exact ⟨rfl,rfl⟩)
 have hl:(zV A s.pass s.grants s.req).2.dis.length=s.grants.length:=by unfold zV;simp only;rw [xO];simp
 refine ⟨?_,fun c hc=>hp.2 c hc,by omega,fun d hd2=>?_⟩
 ·show s.pass.cavs.length≤100000;exact hp.1
 ·obtain ⟨i,hi,rfl⟩:=List.getElem_of_mem hd2
  have hi2:i < s.grants.length:=by rw [← hl];exact hi
  obtain ⟨t1,t2⟩:=b2 i hi2 hi
  have hv:=hd _ (List.getElem_mem hi2)
  show WdT ((zV A s.pass s.grants s.req).2.dis[i]).ticket ((zV A s.pass s.grants s.req).2.dis[i]).conds
  rw [show ((zV A s.pass s.grants s.req).2.dis[i]).ticket=(s.grants[i]).ticket from t1,show ((zV A s.pass s.grants s.req).2.dis[i]).conds=(s.grants[i]).conds from t2]
  exact hv
theorem KB.step {s:Sc} (hs:ScV s) {l:List Int} {n:Nat} {X:Alg × Kn × Nat} {i:Nat} (h:KB s X.1 X.2.1 i) (hi:i≤10):KB s (zaN l s n X).1 (zaN l s n X).2.1 (i+1):=by
 obtain ⟨A,q,j⟩:=X
 obtain ⟨hp,hd,hgl⟩:=yW hs
 have hbl:=h.bl
 have hil:=h.il
 have hpl:=h.pl
 simp only at h hbl hil hpl ⊢
 unfold zaN
 simp only
 by_cases h0:(yl l j 3).1=0
 ·rw [if_pos h0]
  obtain ⟨k1,k2,k3,k4,_⟩:=zeZ h.ain h.ok s.pass s.grants hs.rq oo
  have k5:=vo h.ain s.pass s.grants hs.rq oo
  have hb:=zbQ hs h.ain oo
  refine ⟨k2.more oo,k1,k3.trans h.fr,k5.trans h.bx,fun e he=>k4 e (h.sub e he),h.kc.see hb oo,h.p0,h.d0,by first | omega | (simp only;omega),?_,by first | omega | (simp only;omega),h.dl⟩
  have:=xu q.bs (zV A s.pass s.grants s.req).2
  simp only;omega
 ·rw [if_neg h0]
  by_cases h1:(yl l j 3).1=1
  ·rw [if_pos h1]
   refine ⟨h.ain.more oo,h.ok,h.fr,h.bx,h.sub,h.kc.watch (by simp) oo,h.p0,h.d0,by first | omega | (simp only;omega),by first | omega | (simp only;omega),?_,h.dl⟩
   have:=xu q.its (⟨n,0,0,zeroTag,[],(zg5 l (yl l j 3).2).1⟩:It)
   simp only;omega
  ·rw [if_neg h1]
   unfold v7
   by_cases hc:q.ps.length < 32∧q.ds.length+s.grants.length≤32
   ·rw [if_pos hc]
    simp only [↓reduceIte]
    obtain ⟨r,hr⟩:=h.p0
    obtain ⟨r2,hr2,hr3⟩:=h.d0
    refine ⟨h.ain.more oo,h.ok,h.fr,h.bx,h.sub,h.kc.learn hp hd oo oo,⟨r++[s.pass],by rw [hr];rfl⟩,⟨r2++s.grants,by rw [hr2,List.append_assoc],fun d hd=>?_⟩,?_,(show q.bs.length≤i+1 by omega),(show q.its.length≤i+1 by omega),by simp only [List.length_append];omega⟩
    ·rcases List.mem_append.1 hd with hd | hd
     ·exact hr3 d hd
     ·exact hd
    ·rw [List.length_append,List.length_singleton];omega
   ·rw [if_neg hc]
    simp only [show ¬ (2=0) by omega,if_false]
    exact ⟨h.ain.more oo,h.ok,h.fr,h.bx,h.sub,h.kc,h.p0,h.d0,by omega,by omega,by omega,h.dl⟩
theorem zg3 {l:List Int} {s:Sc} {n:Nat} {X:Alg × Kn × Nat} (h:Dk l X.2.2):Dk l (zaN l s n X).2.2:=by
 unfold zaN
 have h1:=yu 3 h
 split
 ·exact h1
 ·split
  ·exact zl5 h1
  ·exact h1
theorem zgZ {s:Sc} (hs:ScV s) {l:List Int}:∀ (n:Nat) (X:Alg × Kn × Nat) (i:Nat),KB s X.1 X.2.1 i→i+n≤10→Dk l X.2.2→KB s (zno l s n X).1 (zno l s n X).2.1 (i+n)∧Dk l (zno l s n X).2.2
 | 0,X,i,h,_,hd=>⟨h,hd⟩
 | n+1,X,i,h,hi,hd=>by
  have:=zgZ hs n (zaN l s (n+1) X) (i+1) (h.step hs oo) oo (zg3 hd)
  rw [show i+(n+1)=i+1+n by omega]
  exact this
theorem KB.first {s:Sc} (hs:ScV s):KB s s.alg ⟨[s.pass],s.grants,[],[]⟩ 0:=by
 obtain ⟨hp,hd,hgl⟩:=yW hs
 obtain ⟨⟨se,hG,_⟩,_⟩:=hs
 exact ⟨hG.ain,hG.ok,rfl,rfl,fun e he=>he,⟨by simp,fun x hx=>by rw [List.mem_singleton.1 hx];exact hp,by simp only;omega,hd,by simp,fun x hx=>(by cases hx),by simp,fun x hx=>(by cases hx)⟩,⟨[],rfl⟩,⟨[],by simp,fun d hd=>(by cases hd)⟩,by simp,by simp,by simp,by simp only;omega⟩
set_option maxHeartbeats 16000000 in
theorem zjA (l:List Int) (hl:l.length≤9223372036854775807):∃ (s:Sc) (A:Alg) (q:Kn) (i j:Nat),ScV s∧KB s A q i∧i≤4∧Dk l j ∧
  ∀ k,ACall prog 31 [.slice none (l.map jI)] k [] (.tup [zbS { s with alg:=A },xT q,.ptr k [] 0]) [(k,zy l j)]:=by
 obtain ⟨s,j0,hs,d0,c2⟩:=zeS l 0 ⟨hl,Nat.zero_le _⟩
 have c1:=zeR l
 have c4:=yV l j0 4 d0 oo oo
 have b4:=y7 l j0 4 oo
 have d4:=yu 4 d0
 generalize yl l j0 4=X at *
 obtain ⟨b,j4⟩:=X
 simp only at c4 b4 d4
 obtain ⟨hp,hd,hgl⟩:=yW hs
 have hK0:=KB.first hs
 have hall:=zgZ hs b (s.alg,⟨[s.pass],s.grants,[],[]⟩,j4) 0 hK0 oo d4
 obtain ⟨⟨Af,qf,jf⟩,hrun⟩:∃ R,zno l s b (s.alg,⟨[s.pass],s.grants,[],[]⟩,j4)=R:=⟨_,rfl⟩
 rw [hrun] at hall
 simp only at hall
 refine ⟨s,Af,qf,0+b,jf,hs,hall.1,by omega,hall.2,fun k=>?_⟩
 clear hall
 have c3:=zeC ⟨[],[],[],[]⟩ s.pass s.grants (by simp) (by simp only [List.length_nil];omega)
 simp only [List.nil_append] at c3
 have hsA:∀ A:Alg,zbS { s with alg:=A }=.agg [zA A,zbF s.ring,xW s.con,zG s.pass,.slice none (s.grants.map zw),yD s.req,.lit (.string ⟨s.holder.toArray⟩),.lit (.int .i64 s.minute)]:=fun A=>rfl
 have hs0:zbS s=.agg [zA s.alg,zbF s.ring,xW s.con,zG s.pass,.slice none (s.grants.map zw),yD s.req,.lit (.string ⟨s.holder.toArray⟩),.lit (.int .i64 s.minute)]:=rfl
 rw [hs0] at c2
 rw [hsA]
 have hKn0:xT ⟨[],[],[],[]⟩=.agg [.slice none [],.slice none [],.slice none [],.slice none []]:=rfl
 rw [hKn0] at c3
 clear hs0 hKn0
 refine Bd func31 ntmps31 fun σ N hp hpn hk hkn hfree=>?_
 have hcs:=And.intro c1 (And.intro (c2 (N+3+1)) (And.intro c3 (And.intro (c4 (N+3+1)) True.intro)))
 clear c1 c2 c3 c4
 refine Wk ?_
 clear hcs
 refine ze zi (by kernel_rfl) [9,10,11,27,28,29,30,31,32,33,34,35,36,37,38,39,40,41,42,43,44,45,46,47,48,49,50,51,52,53,54,55,56,57,58,59] [N+3+1,N+6+2,N+10+9] (fun m_ s_ σ_ n_=>∃ (n:Nat) (i:Nat) (A:Alg) (q:Kn) (j:Nat),m_=n∧s_ 9=.lit (.int .i64 n)∧σ_ (N+3+1)=zy l j∧σ_ (N+6+2)=.box 51 (.agg [zA A,zbF s.ring,xW s.con,zG s.pass,.slice none (s.grants.map zw),yD s.req,.lit (.string ⟨s.holder.toArray⟩),.lit (.int .i64 s.minute)])∧σ_ (N+10+9)=.box 71 (xT q)∧(n≤4)∧(i+n≤4)∧(KB s A q i)∧(Dk l j)∧(zno l s n (A,q,j)=(Af,qf,jf))) ⟨_,b,0,s.alg,⟨[s.pass],s.grants,[],[]⟩,j4,rfl,WF,WF,WF,WF,WC,WC,WC,WC,WC⟩ ?_
 intro m_3 s_3 σ_3 n_3 hs_3 hf_3 hn_3 hI_3
 obtain ⟨n,i,A,q,j,hm_3,h3_9,e3_0,e3_1,e3_2,hn,hi,hK,hj,hrun⟩:=hI_3
 have h3_2:=KS hs_3 2
 have h3_3:=KS hs_3 3
 have h3_4:=KS hs_3 4
 have h3_5:=KS hs_3 5
 have h3_6:=KS hs_3 6
 have h3_7:=KS hs_3 7
 have k3_0:=KE hf_3 (N)
 have k3_1:=KE hf_3 (N+1)
 have hlow:=KL (N:=N) (σ:=σ) hf_3
 cases n with
 | zero=>
  simp only [zno,Prod.mk.injEq] at hrun
  obtain ⟨rfl,rfl,rfl⟩:=hrun
  clear hK hs hK0
  refine Wk ?_
  refine zQ (r0:=N+3+1) (by simp (disch:=omega) [go_sem, *,-List.reduceReplicate];rfl) oo (by simp (disch:=omega) [go_sem];try rfl) (fun id hid=>by simp (disch:=omega) only [zg];try exact hlow id hid) (by simp (disch:=omega) [go_sem, *,-List.reduceReplicate];rfl) (by simp (disch:=omega) [go_sem])
 | succ n=>
  have h0n:(0:Int) < ((n+1:Nat):Int):=by omega
  have hnm:((n+1:Nat):Int) - 1=(n:Int):=by omega
  have hin:=hK.ain
  have hst:=hK.step hs (l:=l) (n:=n+1) (X:=(A,q,j)) oo
  have hdk:=zg3 (s:=s) (n:=n+1) (X:=(A,q,j)) hj
  have hbl:=hK.bl
  have hil:=hK.il
  have hpl:=hK.kc.pl
  have hdl:=hK.kc.dl
  have c5:=yV l j 3 hj oo oo
  have b5:=y7 l j 3 oo
  have d5:=yu 3 hj
  rw [zno] at hrun
  clear hK hK0 hj
  unfold zaN at hst hdk hrun
  simp only at hst hdk hrun
  generalize yl l j 3=Y at *
  obtain ⟨v,j5⟩:=Y
  simp only at c5 b5 d5 hst hdk hrun
  by_cases hv0:v=0
  ·subst hv0
   simp only [↓reduceIte] at hst hdk hrun
   obtain ⟨sb1,sb2⟩:=zeL hs hs.rq
   have c6:=zas { s with alg:=A } (1000+6 * i) hin oo (by simp only;omega) sb1 sb2
   have c7:=zeD q (zV A s.pass s.grants s.req).2 oo
   simp only at c6
   generalize zV A s.pass s.grants s.req=Z at *
   obtain ⟨A2,b2⟩:=Z
   simp only at c6 c7 hst hdk hrun
   rw [hsA,hsA] at c6
   clear hs sb1 sb2 hin
   have hcs:=And.intro (c5 (N+3+1)) (And.intro (c6 (N+6+2)) (And.intro c7 True.intro))
   clear c5 c6 c7
   refine Wk ?_
   clear hcs
   exact ⟨WS,WG,WN,_,(show (n) < m_3 by omega),n,i+1,A2,⟨q.ps,q.ds,xy q.bs b2,q.its⟩,j5,rfl,WF,WF,WF,WF,WC,WC,WC,WC,WC⟩
  ·rw [if_neg hv0] at hst hdk hrun
   have hv0i:((v:Int) == 0)=false:=by rw [beq_eq_false_iff_ne];omega
   by_cases hv1:v=1
   ·subst hv1
    simp only [↓reduceIte] at hst hdk hrun
    have c6:=zlc l j5 d5
    have c7:=zcu q ⟨((n+1:Nat):Int),0,0,zeroTag,[],(zg5 l j5).1⟩ oo
    have hitA:xm ⟨((n+1:Nat):Int),0,0,zeroTag,[],(zg5 l j5).1⟩=.agg [.lit (.int .i64 ((n+1:Nat):Int)),.lit (.int .i64 0),.lit (.int .i64 0),zd zeroTag,.slice none [],zd (zg5 l j5).1]:=rfl
    rw [hitA] at c7
    clear hitA
    generalize hT:zg5 l j5=T at *
    obtain ⟨t,j6⟩:=T
    simp only at c6 c7 hst hdk hrun
    clear hs hin
    have hcs:=And.intro (c5 (N+3+1)) (And.intro (c6 (N+3+1)) (And.intro c7 True.intro))
    clear c5 c6 c7
    refine Wk ?_
    clear hcs
    exact ⟨WS,WG,WN,_,(show (n) < m_3 by omega),n,i+1,A,⟨q.ps,q.ds,q.bs,xy q.its ⟨((n+1:Nat):Int),0,0,zeroTag,[],t⟩⟩,j6,rfl,WF,WF,WF,WF,WC,WC,WC,WC,WC⟩
   ·rw [if_neg hv1] at hst hdk hrun
    have hv1i:((v:Int) == 1)=false:=by rw [beq_eq_false_iff_ne];omega
    obtain rfl:v=2:=by omega
    have c7:=zct q oo oo s.pass s.grants oo
    generalize v7 q s.pass s.grants=Z at *
    obtain ⟨q2,e2⟩:=Z
    simp only at c7 hst hdk hrun
    clear hs hin
    by_cases he:e2=0
    ·subst he
     simp only [↓reduceIte] at hst hrun
     have hcs:=And.intro (c5 (N+3+1)) (And.intro c7 True.intro)
     clear c5 c7
     refine Wk ?_
     clear hcs
     exact ⟨WS,WG,WN,_,(show (n) < m_3 by omega),n,i+1,A,q2,j5,rfl,WF,WF,WF,WF,WC,WC,WC,WC,WC⟩
    ·rw [if_neg he] at hst hrun
     have he2:((e2:Int) == 0)=false:=by rw [beq_eq_false_iff_ne];omega
     have hcs:=And.intro (c5 (N+3+1)) (And.intro c7 True.intro)
     clear c5 c7
     refine Wk ?_
     clear hcs
     exact ⟨WS,WG,WN,_,(show (n) < m_3 by omega),n,i+1,A,q,j5,rfl,WF,WF,WF,WF,WC,WC,WC,WC,WC⟩
end
end Go.Proofs.YtglmjglbobhbbaaGreatDoor
namespace Go.Proofs.YtglmjglbobhbbaaGreatDoor
open _root_.Go.Proofs.Tryz
open Go.Ab
attribute [local irreducible] Go.Ab.tyAV Go.Ab.aw Go.Ab.aops Go.Ab.kReg Go.Ab.aThen Go.Ab.aBlk Go.Ab.acond Go.Ab.aguard Go.Ab.astep Go.Ab.AStepX Go.Ab.aRet
def zlO (l:List Int) (r:Bool):Nat→Nat→List Pr→(List Pr × Nat)→Prop
 | 0,j,acc,R=>R=(acc,j)
 | f+1,j,acc,R=>∃ p j1,PRD l j r p j1∧zlO l r f j1 (acc++[p]) R
theorem zcs {l:List Int} {r:Bool}:∀ (f j:Nat) (acc:List Pr),Dk l j→(∀ p∈acc,PrOk p∧yc p=true)→∃ R,zlO l r f j acc R∧Dk l R.2∧(∀ p∈R.1,PrOk p∧yc p=true)∧R.1.length=acc.length+f
 | 0,j,acc,h,ha=>⟨_,rfl,h,ha,rfl⟩
 | f+1,j,acc,h,ha=>by
  obtain ⟨p,j1,hp⟩:=zkG h r
  obtain ⟨R,hR,h1,h2,h3⟩:=zcs (r:=r) f j1 (acc++[p]) hp.2.2.2.1 (fun q hq=>by
   rcases List.mem_append.1 hq with hq | hq
   ·exact ha q hq
   ·rw [List.mem_singleton.1 hq];exact ⟨hp.2.1,hp.1⟩)
  exact ⟨R,⟨p,j1,hp,hR⟩,h1,h2,by rw [h3];simp;omega⟩
set_option maxHeartbeats 2000000 in
theorem zaV (l:List Int) (i:Nat) (h:Dk l i) (n:Nat) (hn:n≤1000) (r:Bool) (R:List Pr) (j:Nat) (hR:zlO l r (yl l i (n+1)).1 (yl l i (n+1)).2 [] (R,j)) (d k:Nat):
  ACall prog 40 [.ptr d [] 0,.lit (.int .i64 n),.lit (.bool r)] k [(d,zy l i)] (.slice none (R.map zU)) [(d,zy l j)]:=by
 have c1:=yV l i (n+1) h oo oo
 have h1:=yu (n+1) h
 have h2:=y7 l i (n+1) oo
 clear h
 generalize yl l i (n+1)=X at *
 obtain ⟨f0,j0⟩:=X
 simp only at *
 rw [show ((n+1:Nat):Int)=(n:Int)+1 by omega] at c1
 refine Bd func40 ntmps40 fun σ N hp hpn hk hkn hfree=>?_
 obtain ⟨hd,hdn⟩:=HD0 hp hpn;clear hp hpn
 have hcs:=And.intro (c1 d) True.intro
 clear c1
 refine Wk ?_
 clear hcs
 refine ALoop.nilrow 7 138 6 (by simp (disch:=omega) [go_sem, *,-List.reduceReplicate]) ?_
 refine yn (N) zi (by kernel_rfl) [7,8,13,14,15,16,17,18,19,20,21,22] [d] (fun m_ s_ σ_ n_=>∃ (f:Nat) (q:Nat) (acc:List Pr) (j':Nat),m_=f∧s_ 8=.lit (.int .i64 f)∧s_ 7=.slice (some q) (acc.map zU)∧σ_ (d)=zy l j'∧σ_ (q)=.row 138 6 acc.length∧(N≤q)∧(q < n_)∧(acc.length+f≤1000)∧(Dk l j')∧(zlO l r f j' acc (R,j))) ⟨_,f0,_,[],j0,rfl,WF,WF,WF,WF,WC,WC,WC,WC,WC⟩ ?_
 intro m_1 s_1 σ_1 n_1 hs_1 hf_1 hn_1 hI_1
 obtain ⟨f,q,acc,j',hm_1,h1_8,h1_7,e1_0,e1_1,hq,hqn,hal,hj,hrun⟩:=hI_1
 have h1_0:=KS hs_1 0
 have h1_2:=KS hs_1 2
 have h1_6:=KS hs_1 6
 have hlow:=KD (N:=N) (d:=d) (σ:=σ) hf_1
 clear hR
 cases f with
 | zero=>
  have hrun:(R,j)=(acc,j'):=hrun
  simp only [Prod.mk.injEq] at hrun
  obtain ⟨rfl,rfl⟩:=hrun
  clear hj
  refine Wk ?_
  exact RV (d) (zy l j)
 | succ f=>
  obtain ⟨p,j1,⟨p1,p2,p3,p4,p5⟩,hrun⟩:=hrun
  have hcs:=And.intro (p5 d) True.intro
  clear p5 p1 p2 p3 hj
  refine Wk ?_
  exact ⟨WS,WG,WN,_,(show (f) < m_1 by omega),f,q,acc++[p],j1,rfl,WF,WF,WF,WF,WC,WC,WC,WC,WC⟩
theorem zbI (l:List Int) (i:Nat) (h:Dk l i) (n:Nat) (hn:n≤1000) (r:Bool):∃ (R:List Pr) (j:Nat),R.length≤n∧(∀ p∈R,PrOk p∧yc p=true)∧Dk l j∧∀ d k,ACall prog 40 [.ptr d [] 0,.lit (.int .i64 n),.lit (.bool r)] k [(d,zy l i)] (.slice none (R.map zU)) [(d,zy l j)]:=by
 obtain ⟨⟨R,j⟩,hR,h1,h2,h3⟩:=zcs (r:=r) (yl l i (n+1)).1 (yl l i (n+1)).2 [] (yu _ h) (fun p hp=>by cases hp)
 have:=y7 l i (n+1) oo
 exact ⟨R,j,by simp only [List.length_nil] at h3;omega,h2,h1,fun d k=>zaV l i h n hn r R j hR d k⟩
attribute [local irreducible] yE
def zfZ:Nat→List Pa→List Pa
 | 0,l=>l
 | f+1,l=>zfZ f (l++[⟨0,l.length,[],zeroTag⟩])
def tkD (n:Nat):List UInt8:=[UInt8.ofNat (n % 256),77]
def zfY:Nat→List Di→List Di
 | 0,l=>l
 | f+1,l=>zfY f (l++[⟨tkD l.length,[],zeroTag⟩])
theorem kM {Q:Pa→Prop} (hq:∀ s,Q ⟨0,s,[],zeroTag⟩):∀ (f:Nat) (l:List Pa),(∀ p∈l,Q p)→(∀ p∈zfZ f l,Q p)∧(zfZ f l).length=l.length+f
 | 0,l,h=>⟨h,rfl⟩
 | f+1,l,h=>by
  obtain ⟨h1,h2⟩:=kM hq f (l++[⟨0,l.length,[],zeroTag⟩]) (fun p hp=>by
   rcases List.mem_append.1 hp with hp | hp
   ·exact h p hp
   ·rw [List.mem_singleton.1 hp];exact hq _)
  exact ⟨h1,by rw [zfZ,h2,List.length_append,List.length_singleton];omega⟩
theorem kL {Q:Di→Prop} (hq:∀ n,Q ⟨tkD n,[],zeroTag⟩):∀ (f:Nat) (l:List Di),(∀ p∈l,Q p)→(∀ p∈zfY f l,Q p)∧(zfY f l).length=l.length+f
 | 0,l,h=>⟨h,rfl⟩
 | f+1,l,h=>by
  obtain ⟨h1,h2⟩:=kL hq f (l++[⟨tkD l.length,[],zeroTag⟩]) (fun p hp=>by
   rcases List.mem_append.1 hp with hp | hp
   ·exact h p hp
   ·rw [List.mem_singleton.1 hp];exact hq _)
  exact ⟨h1,by rw [zfY,h2,List.length_append,List.length_singleton];omega⟩
def zcl (w:Wa) (n:Nat):Wa:=⟨zfZ (n - w.ps.length) w.ps,zfY (n - w.ds.length) w.ds⟩
section
variable [W:W32]
structure NarG (a:Alg) (m:Nat) (p:Pa) (l:List Pr) (R:Alg × Pa × Nat):Prop where
 e0:R.2.2=0
 ain:AlgIn R.1 (m+2 * l.length)
 ok:AlgOk R.1
 fr:R.1.free=a.free
 bx:R.1.boxes=a.boxes
 fs:R.1.fresh=a.fresh
 sub:∀ e∈a.macs,e∈R.1.macs
 cv:R.2.1.cavs=p.cavs++l.map zR
 ep:R.2.1.epoch=p.epoch
 se:R.2.1.serial=p.serial
 pt:∀ k M,pathIn a.macs k M p.tag→pathIn R.1.macs k (M++l.map (fun x=>y9 (zR x))) R.2.1.tag
theorem jP:∀ {l:List Pr} {a:Alg} {m:Nat} {p:Pa},AlgIn a m→AlgOk a→m+2 * l.length≤60000→p.cavs.length+l.length≤64→(∀ x∈l,yc x=true)→NarG a m p l (yT a p l)
 | [],a,m,p,h,ok,_,_,_=>by
  rw [show yT a p []=(a,p,0) from rfl]
  exact ⟨rfl,by simpa using h,ok,rfl,rfl,rfl,fun e he=>he,by simp,rfl,rfl,fun k M hp=>by simpa using hp⟩
 | x::r,a,m,p,h,ok,hm,hl,hv=>by
  simp only [List.length_cons] at hm hl
  have hcv:xz (zR x)=true:=(CV.first x (hv x (List.mem_cons_self ..))).ok
  have ha:=zds h oo (p:=p) (c:=zR x) hcv oo (fun hh=>by cases hh)
  have hk:=kV h oo p.tag (msg:=y9 (zR x)) (by have:=xP (zR x);omega)
  have hin:=zcN h p.tag (y9 (zR x))
  have hok:=ok.node h oo p.tag (msg:=y9 (zR x)) (by have:=xP (zR x);omega)
  obtain ⟨z1,z2⟩:=zcr h oo p.tag (msg:=y9 (zR x)) (by have:=xP (zR x);omega)
  have hn:yT a p (x::r)=yT (xS a p.tag (y9 (zR x))).1 ⟨p.epoch,p.serial,p.cavs++[zR x],(xS a p.tag (y9 (zR x))).2.1⟩ r:=by
   rw [yT,ha]
   exact if_pos rfl
  rw [hn]
  have g:=jP (l:=r) (p:=⟨p.epoch,p.serial,p.cavs++[zR x],(xS a p.tag (y9 (zR x))).2.1⟩) hin hok oo (by simp only [List.length_append,List.length_singleton];omega) (fun y hy=>hv y (List.mem_cons_of_mem _ hy))
  refine ⟨g.e0,by rw [List.length_cons,show m+2 * (r.length+1)=m+2+2 * r.length by omega];exact g.ain,g.ok,g.fr.trans hk.2.1,g.bx.trans hk.2.2.2,g.fs.trans hk.2.2.1,fun e he=>g.sub e (z2 e he),by rw [g.cv];simp,g.ep,g.se,fun k M hp=>?_⟩
  have:=g.pt k (M++[y9 (zR x)]) ((hp.sub z2).snoc z1)
  rw [List.map_cons,List.append_cons M]
  exact this
def jv (X:Alg × Wa × Nat) (P:List Pr) (j:Nat):Alg × Wa × Nat:=
 if (zbK X.1 X.2.1 0 P).2.2=0 then ((zbK X.1 X.2.1 0 P).1,(zbK X.1 X.2.1 0 P).2.1,j) else (X.1,X.2.1,j)
structure WB (s:Sc) (A:Alg) (w:Wa) (i:Nat):Prop where
 ain:AlgIn A (1000+4 * i)
 ok:AlgOk A
 fr:A.free=s.alg.free
 bx:A.boxes=s.alg.boxes
 sub:∀ e∈s.alg.macs,e∈A.macs
 wc:WaC w
 p0:∃ r,w.ps=s.pass::r
 dd:w.ds=s.grants
 pl:w.ps.length≤1+i
 pk:∀ p∈w.ps,p.cavs.length≤5+2 * i∧∀ c∈p.cavs,PrOk c.first∧wY c
theorem WB.att {s:Sc} {A:Alg} {w:Wa} {i:Nat} (h:WB s A w i) (hi:i≤10) {P:List Pr} (hP:P.length≤2) (hpk:∀ p∈P,PrOk p∧yc p=true):
  NarG A (1000+4 * i) s.pass P (yT A s.pass P)∧zbK A w 0 P=((yT A s.pass P).1,⟨w.ps++[(yT A s.pass P).2.1],w.ds⟩,0):=by
 obtain ⟨r,hr⟩:=h.p0
 have hz:yf w 0=(s.pass,true):=by unfold yf;rw [hr];simp
 have hsp:=h.pk s.pass (by rw [hr];exact List.mem_cons_self ..)
 have g:=jP h.ain h.ok (l:=P) (p:=s.pass) oo oo (fun x hx=>(hpk x hx).2)
 have ha:wW w (yT A s.pass P).2.1=(⟨w.ps++[(yT A s.pass P).2.1],w.ds⟩,0):=by unfold wW;rw [if_pos (by have:=h.pl;omega)]
 refine ⟨g,?_⟩
 unfold zbK
 rw [hz,if_pos rfl]
 simp only
 rw [if_pos g.e0,ha]
 rfl
theorem WB.step {s:Sc} {A:Alg} {w:Wa} {i j0:Nat} (h:WB s A w i) (hi:i≤10) {P:List Pr} (hP:P.length≤2) (hpk:∀ p∈P,PrOk p∧yc p=true) (j:Nat):
  WB s (jv (A,w,j0) P j).1 (jv (A,w,j0) P j).2.1 (i+1):=by
 obtain ⟨g,ha⟩:=h.att hi hP hpk
 have hsp:=h.pk s.pass (by obtain ⟨r,hr⟩:=h.p0;rw [hr];exact List.mem_cons_self ..)
 unfold jv
 simp only
 rw [ha]
 simp only [↓reduceIte]
 have hcv:=g.cv
 have hcl:(yT A s.pass P).2.1.cavs.length≤5+2 * (i+1):=by rw [hcv,List.length_append,List.length_map];omega
 have hcc:∀ c∈(yT A s.pass P).2.1.cavs,PrOk c.first∧wY c:=fun c hc=>by
  rw [hcv] at hc
  rcases List.mem_append.1 hc with hc | hc
  ·exact hsp.2 c hc
  ·obtain ⟨x,hx,rfl⟩:=List.mem_map.1 hc
   exact ⟨(hpk x hx).1,by simp [zR],by simp [zR]⟩
 refine ⟨g.ain.more oo,g.ok,g.fr.trans h.fr,g.bx.trans h.bx,fun e he=>g.sub e (h.sub e he),⟨?_,fun p hp=>?_,h.wc.dl,h.wc.dc⟩,?_,h.dd,?_,fun p hp=>?_⟩
 ·have:=h.pl;simp only [List.length_append,List.length_singleton];omega
 ·rcases List.mem_append.1 hp with hp | hp
  ·exact h.wc.pc p hp
  ·rw [List.mem_singleton.1 hp];exact ⟨by omega,fun c hc=>(hcc c hc).2⟩
 ·obtain ⟨r,hr⟩:=h.p0
  exact ⟨r++[(yT A s.pass P).2.1],by rw [hr];rfl⟩
 ·have:=h.pl;simp only [List.length_append,List.length_singleton];omega
 ·rcases List.mem_append.1 hp with hp | hp
  ·have:=h.pk p hp;exact ⟨by omega,this.2⟩
  ·rw [List.mem_singleton.1 hp];exact ⟨hcl,hcc⟩
theorem WB.first {s:Sc} (hs:ScV s):WB s s.alg ⟨[s.pass],s.grants⟩ 0:=by
 obtain ⟨hp,hd,hgl⟩:=yW hs
 obtain ⟨⟨se,hG,_⟩,_⟩:=hs
 have hcl:=hG.cl
 have hcv:=hG.cv
 simp only at hcl hcv
 exact ⟨hG.ain,hG.ok,rfl,rfl,fun e he=>he,⟨by simp,fun x hx=>by rw [List.mem_singleton.1 hx];exact hp,by simp only;omega,hd⟩,⟨[],rfl⟩,rfl,by simp,fun p hq=>by
  rw [List.mem_singleton.1 hq]
  exact ⟨by omega,fun c hc=>⟨(hcv c hc).2.1,hp.2 c hc⟩⟩⟩
end
end Go.Proofs.YtglmjglbobhbbaaGreatDoor
namespace Go.Ab
open Go
theorem zjo {P:Program} {o:Oper} {s:Slots} {id:Nat} {t e:TypeId} {x:Operand} {len:Nat} {xs:List AV} (ho:o.op=.sliceToArrayPointer t x) (ht:zie P t=some (len,e)) (hx:zl s x=.slice none xs) (hl:xs.length=len) (h0:0 < len):OpHolds P o s id [] (.view (.agg xs)) []:=
 yj fun g w a hr=>by
  have h1:=hr x (by simp [ho,Op.operands])
  rw [hx] at h1
  generalize hv:a.eval x=v at h1
  cases h1 with
  | slice _ _ vs A c size hl' hc hm h hsv hcell hown=>
   rcases hcell with h1 | ⟨b,o',hA,hG⟩
   ·omega
   ·refine ⟨.pointer A,?_,?_⟩
    ·simp [execOp,ho,hv,Instr.arrayAt,run_underlying (wP ht),hl]
    ·rw [hA]
     exact .view (.agg xs) (.agg (yG vs).toArray) b o' (.agg xs vs hl' h) fun j u hu=>hG j u (by simpa [vY] using hu)
theorem zq9 {P:Program} {ops:Array Oper} {m i n:Nat} {T:Trace} {k:Cfg→Trace→Prop} {ty:TypeId} {pos:String} {after:Array Edge} {r:List Oper} {s:Slots} {σ:Nat→Ent} {t:Tmp} {x:Operand} {t' e:TypeId} {len size:Nat} {xs:List AV} {y:AV}
  (he:zl s x=.slice none xs) (ht:w7 P t'=some (len,e,size)) (hl:xs.length=len) (h0:0 < len) (hy:AV.agg xs=y) (h:aops P ops m r (i+1) (addT i ⟨[],.view y,[]⟩ T) k ⟨upd s t (.view y),σ,n⟩):
  aops P ops m (⟨some t,.sliceToArrayPointer t' x,ty,pos,after,none⟩::r) i T k ⟨s,σ,n⟩:=by
 subst hy
 exact
 kS (st:=⟨[],.view (.agg xs),[]⟩) (fun o ho=>.mk0 (zjo ho (vH ht).1 he hl h0)) h
end Go.Ab
namespace Go.Proofs.YtglmjglbobhbbaaGreatDoor
open _root_.Go.Proofs.Tryz
open Go.Ab
attribute [local irreducible] Go.Ab.tyAV Go.Ab.aw Go.Ab.aops Go.Ab.kReg Go.Ab.aThen Go.Ab.aBlk Go.Ab.acond Go.Ab.aguard Go.Ab.astep Go.Ab.AStepX Go.Ab.aRet
attribute [local irreducible] yE
section
variable [W:W32]
def cO (a:Alg):Option Tg→List Pr→Option Tg
 | none,_=>none
 | some x,l=>zcd a x l
theorem zqS (a:Alg) (o:Option Tg):cO a o []=o:=by cases o <;> rfl
theorem znW (a:Alg) (x:Tg) (p:Pr) (r:List Pr):cO a (some x) (p::r)=if yc p=true∧p.kind≠7 then cO a (vq a x (qy p)) r else none:=by
 show zcd a x (p::r)=_
 rw [zcd]
 split
 ·cases vq a x (qy p) <;> rfl
 ·rfl
theorem zn2 (a:Alg) (key:Tg) (t:List UInt8) (l:List Pr):zhl a key t l=cO a (vq a key (vy t)) l:=by
 unfold zhl
 cases vq a key (vy t) <;> rfl
set_option maxHeartbeats 8000000 in
theorem ziV (a:Alg) (m:Nat) (ha:AlgIn a m) (hm:m≤60000) (key:Tg) (t:List UInt8) (ht:t.length≤100000) (l:List Pr) (hl:l.length≤100000) (hpr:∀ p∈l,PrOk p) (g h k:Nat):
  ACall prog 185 [zA a,zd key,.slice none (t.map za),.slice none (l.map zU)] k [(g,yE),(h,zS)] (vR (zhl a key t l)) []:=by
 have c1:=yH [103,114,97,110,116] t (by decide) oo
 have hgm:[103,114,97,110,116]++t=vy t:=rfl
 rw [hgm] at c1
 have c2:=wk a key (vy t) (by have:=ha.ml;omega) ha.mm (by simp [vy]) (by simp [vy];omega) g
 rw [zn2]
 clear hgm
 generalize vq a key (vy t)=o0 at *
 generalize vy t=gm at *
 obtain ⟨R,hR⟩:∃ R,cO a o0 l=R:=⟨_,rfl⟩
 rw [hR]
 unfold vR at *
 refine Bd func185 ntmps185 fun σ N hp hpn hk hkn hfree=>?_
 simp only [List.mem_cons,List.not_mem_nil,or_false,forall_eq_or_imp,forall_eq] at hp hpn;obtain ⟨hd1,hd2⟩:=hp;obtain ⟨hdn1,hdn2⟩:=hpn
 have hcs:=And.intro c1 (And.intro c2 True.intro)
 clear c1 c2
 refine Wk ?_
 clear hcs
 refine ze zi (by kernel_rfl) [9,11,13,14,15,26,27,28,29,30,31,32,33,34,35,36,37,38,39,40,41,42,43,44,45,46,47,48,49,50,51,52,53,54,55] [N+4+8] (fun m_ s_ σ_ n_=>∃ (u:Nat) (o:Option Tg),m_=l.length - u∧s_ 26=.lit (.int .i64 u)∧s_ 11=.lit (.bool o.isSome)∧σ_ (N+4+8)=.box 28 (zd (o.getD zeroTag))∧(u≤l.length)∧(cO a o (l.drop u)=R)) ⟨_,0,o0,rfl,WF,WF,WF,WC,WC⟩ ?_
 intro m_1 s_1 σ_1 n_1 hs_1 hf_1 hn_1 hI_1
 obtain ⟨u,o,hm_1,h1_26,h1_11,e1_0,hu,hO⟩:=hI_1
 have h1_4:=KS hs_1 4
 have h1_8:=KS hs_1 8
 have h1_10:=KS hs_1 10
 have h1_24:=KS hs_1 24
 have h1_25:=KS hs_1 25
 have k1_0:=KE hf_1 (N)
 have k1_1:=KE hf_1 (N+2)
 have k1_2:=KE hf_1 (g)
 have k1_3:=KE hf_1 (h)
 have hlow:=KL (N:=N) (σ:=σ) hf_1
 by_cases hul:u=l.length
 ·subst hul
  rw [List.drop_length,zqS] at hO
  subst hO
  have hcs:=True.intro
  exact W0
 ·have hu1:u < l.length:=by omega
  obtain ⟨p,hz⟩:∃ p,l[u]=p:=⟨_,rfl⟩
  have hzm:(l.map zU)[u]?=some (zU p):=by rw [List.getElem?_map,List.getElem?_eq_getElem hu1,hz];rfl
  have hpo:=hpr p (by rw [← hz];exact List.getElem_mem _)
  rw [List.drop_eq_getElem_cons hu1,hz] at hO
  have c3:=zhJ p hpo h
  have hEl:=zgo p
  have c4:=yH [99,111,110,100,105,116,105,111,110] (zaZ p).1 (by decide) oo
  have hM:[99,111,110,100,105,116,105,111,110]++(zaZ p).1=qy p:=rfl
  rw [hM] at c4
  have hMl:=ziU p
  have c5:=fun x=>wk a x (qy p) (by have:=ha.ml;omega) ha.mm (by simp [qy]) oo g
  have he:yc p=false→(zaZ p).2=5:=fun hq=>by unfold zaZ;rw [hq];rfl
  have he0:yc p=true→(zaZ p).2=0:=fun hq=>by unfold zaZ;rw [hq];rfl
  clear hM hpr hz hMl
  cases o with
  | none=>
   have hO:none=R:=hO
   subst hO
   simp only [Option.getD_none,Option.isSome_none] at *
   obtain ⟨pk,pm,pf,pt,pn,px⟩:=p
   have hpA:zU ⟨pk,pm,pf,pt,pn,px⟩=.agg [.lit (.int .i64 pk),.lit (.int .u64 pm),.lit (.int .i64 pf),.lit (.int .i64 pt),.lit (.string ⟨pn.toArray⟩),.lit (.int .i64 px)]:=rfl
   rw [hpA] at hzm c3
   unfold zbu at c3
   clear c4 c5 he he0 hpA hpo ha
   have hcs:=And.intro c3 True.intro
   clear c3
   exact W0
  | some x=>
   rw [znW] at hO
   have c5:=c5 x
   generalize vq a x (qy p)=o1 at *
   generalize qy p=cm at *
   unfold vR at c5
   obtain ⟨pk,pm,pf,pt,pn,px⟩:=p
   have hpA:zU ⟨pk,pm,pf,pt,pn,px⟩=.agg [.lit (.int .i64 pk),.lit (.int .u64 pm),.lit (.int .i64 pf),.lit (.int .i64 pt),.lit (.string ⟨pn.toArray⟩),.lit (.int .i64 px)]:=rfl
   rw [hpA] at hzm c3
   unfold zbu at c3
   simp only [Option.getD_some,Option.isSome_some] at *
   cases hpb:yc ⟨pk,pm,pf,pt,pn,px⟩ with
   | false=>
    rw [he hpb] at c3
    rw [hpb] at hO
    rw [if_neg (by simp)] at hO
    subst hO
    simp only [Option.getD_none,Option.isSome_none] at *
    generalize (zaZ ⟨pk,pm,pf,pt,pn,px⟩).1=E at *
    clear c4 c5 he he0 hpA hpo ha hpb
    have e05:((5:Nat):Int)=5:=rfl
    rw [e05] at c3
    have hcs:=And.intro c3 True.intro
    clear c3
    exact W0
   | true=>
    rw [he0 hpb] at c3
    rw [hpb] at hO
    have e00:((0:Nat):Int)=0:=rfl
    rw [e00] at c3
    generalize (zaZ ⟨pk,pm,pf,pt,pn,px⟩).1=E at *
    by_cases hk7:pk=7
    ·rw [if_neg (by simp [hk7])] at hO
     subst hO
     simp only [Option.getD_none,Option.isSome_none] at *
     clear c4 c5 he he0 hpA hpo hpb ha
     have hcs:=And.intro c3 True.intro
     clear c3
     exact W0
    ·rw [if_pos ⟨rfl,hk7⟩] at hO
     clear hpA he he0 hpo hpb
     have hcs:=And.intro c3 (And.intro c4 (And.intro c5 True.intro))
     clear c3 c4 c5
     refine Wk ?_
     exact ⟨WS,WG,WN,_,(show l.length - (u+1) < m_1 by omega),u+1,o1,rfl,WF,WF,WF,WC,WC⟩
end
theorem zhb (l:List Ep) (q:Ep→Bool) (f:FuncId) (a:Nat) (E:Ent) (hE:E≠.none) (hf:∀ x∈l,∀ k,ACall prog f [zi0 x,.ptr a [] 0] k [(a,E)] (.lit (.bool (q x))) []) (hl:l.length≤9223372036854775807) (k:Nat):
  ACall prog 108 [.slice none (l.map zi0),.fn f [.ptr a [] 0]] k [(a,E)] (.lit (.int .i64 (ixF q l 0))) []:=by
 obtain ⟨R,hR⟩:∃ R,ixF q l 0=R:=⟨_,rfl⟩
 rw [hR]
 have hdr:l.drop 0=l:=rfl
 refine Bd (hpre:=by simp [hE]) func108 ntmps108 fun σ N hp hpn hk hkn hfree=>?_
 obtain ⟨hd,hdn⟩:=HD0 hp hpn;clear hp hpn
 refine Wk ?_
 refine ze zi (by kernel_rfl) [4,5,8,9,10,11,12,13,14,15,16,17,18] [] (fun m_ s_ σ_ n_=>∃ (u:Nat),m_=l.length - u∧s_ 8=.lit (.int .i64 u)∧(u≤l.length)∧(ixF q (l.drop u) u=R)) ⟨_,0,rfl,WF,WC,WC⟩ ?_
 intro m_1 s_1 σ_1 n_1 hs_1 hf_1 hn_1 hI_1
 obtain ⟨u,hm_1,h1_8,hu,hno⟩:=hI_1
 have h1_0:=KS hs_1 0
 have h1_1:=KS hs_1 1
 have h1_7:=KS hs_1 7
 have k1_0:=KE hf_1 (a)
 have hlow:=KL (N:=N) (σ:=σ) hf_1
 clear hR hdr
 by_cases hul:u=l.length
 ·subst hul
  rw [List.drop_length] at hno
  simp only [ixF] at hno
  subst hno
  clear hf
  exact W0
 ·have hu1:u < l.length:=by omega
  rw [List.drop_eq_getElem_cons hu1,ixF] at hno
  have c1:=hf _ (List.getElem_mem hu1)
  obtain ⟨z,hz⟩:∃ z,l[u]=z:=⟨_,rfl⟩
  rw [hz] at hno c1
  cases hc:q z with
  | true=>
   rw [if_pos hc] at hno
   subst hno
   rw [hc] at c1
   have hcs:=And.intro c1 True.intro
   clear c1 hf hc
   exact W0
  | false=>
   rw [if_neg (by rw [hc];simp)] at hno
   rw [hc] at c1
   have hcs:=And.intro c1 True.intro
   clear c1 hf hc
   refine Wk ?_
   exact ⟨WS,WG,WN,_,(show l.length - (u+1) < m_1 by omega),u+1,rfl,WF,WC,WC⟩
theorem zd7 (b:Bu) (x:Ep) (a k:Nat):ACall prog 109 [zi0 x,.ptr a [] 0] k [(a,.box 75 (ye b))] (.lit (.bool (x.num == b.epoch))) []:=by
 obtain ⟨n,ky⟩:=x
 obtain ⟨rq,ep,se,ca,pf,di⟩:=b
 have hbA:ye ⟨rq,ep,se,ca,pf,di⟩=.agg [yD rq,.lit (.int .i64 ep),.lit (.int .i64 se),.slice none (ca.map z8),zd pf,.slice none (di.map zC)]:=rfl
 have heA:zi0 ⟨n,ky⟩=.agg [.lit (.int .i64 n),zd ky]:=rfl
 rw [hbA,heA]
 refine Bd func109 ntmps109 fun σ N hp hpn hk hkn hfree=>?_
 obtain ⟨hd,hdn⟩:=HD0 hp hpn;clear hp hpn
 exact W0
theorem zbs (c:Ca) (hc:c.ticket.length≤140737488351232) (x:Bo) (hx:x.ticket.length≤140737488351232) (a k:Nat):ACall prog 184 [zC x,.ptr a [] 0] k [(a,.box 140 (z8 c))] (.lit (.bool (decide (x.ticket=c.ticket)))) []:=by
 have c1:=xB x.ticket c.ticket hx hc
 obtain ⟨ti,co,pf⟩:=x
 obtain ⟨th,fi,pa,tk,bx⟩:=c
 have hbA:zC ⟨ti,co,pf⟩=.agg [.slice none (ti.map za),.slice none (co.map zU),zd pf]:=rfl
 have hcA:z8 ⟨th,fi,pa,tk,bx⟩=.agg [.lit (.bool th),zU fi,.lit (.int .i64 pa),.slice none (tk.map za),.slice none (bx.map za)]:=rfl
 rw [hbA,hcA]
 simp only at c1 ⊢
 refine Bd func184 ntmps184 fun σ N hp hpn hk hkn hfree=>?_
 obtain ⟨hd,hdn⟩:=HD0 hp hpn;clear hp hpn
 have hcs:=And.intro c1 True.intro
 clear c1
 exact W0
theorem zcz (t u:Tg) (ok:Bool) (k:Nat):ACall prog 113 [zd t,.lit (.bool ok),zd u] k [] (.lit (.bool (ok && decide (t=u)))) []:=by
 cases ok with
 | false=>
  rw [Bool.false_and]
  refine Bd func113 ntmps113 fun σ N hp hpn hk hkn hfree=>?_
  exact W0
 | true=>
  rw [Bool.true_and]
  refine Bd func113 ntmps113 fun σ N hp hpn hk hkn hfree=>?_
  exact W0
theorem zhr (b:Bu) (hcl:b.cavs.length≤1000000) (hdl:b.dis.length≤1000000) (hc:∀ c∈b.cavs,c.ticket.length≤140737488351232) (hd:∀ d∈b.dis,d.ticket.length≤140737488351232) (hex:∀ d∈b.dis,∃ c∈b.cavs,c.third=true∧c.ticket=d.ticket) (k:Nat):
  ACall prog 115 [ye b] k [] (.lit (.bool false)) []:=by
 obtain ⟨rq,ep,se,C,pf,D⟩:=b
 have hbA:ye ⟨rq,ep,se,C,pf,D⟩=.agg [yD rq,.lit (.int .i64 ep),.lit (.int .i64 se),.slice none (C.map z8),zd pf,.slice none (D.map zC)]:=rfl
 rw [hbA]
 clear hbA
 simp only at *
 refine Bd func115 ntmps115 fun σ N hp hpn hk hkn hfree=>?_
 refine Wk ?_
 refine ze zi (by kernel_rfl) [2,4,6,10,11,12,13,14,15,16,17,18,19,20,21,22,23,24,25,26,27,28,29,30,31] [] (fun m_ s_ σ_ n_=>∃ (u:Nat),m_=D.length - u∧s_ 10=.lit (.int .i64 u)∧(u≤D.length)) ⟨_,0,rfl,WF,WC⟩ ?_
 intro m_2 s_2 σ_2 n_2 hs_2 hf_2 hn_2 hI_2
 obtain ⟨u,hm_2,h2_10,hu⟩:=hI_2
 have h2_1:=KS hs_2 1
 have h2_8:=KS hs_2 8
 have h2_9:=KS hs_2 9
 have k2_0:=KE hf_2 (N)
 have hlow:=KL (N:=N) (σ:=σ) hf_2
 by_cases hul:u=D.length
 ·subst hul
  clear hc hd hex
  exact W0
 ·have hu1:u < D.length:=by omega
  obtain ⟨z,hz⟩:∃ z,D[u]=z:=⟨_,rfl⟩
  have hzD:z∈D:=by rw [← hz];exact List.getElem_mem _
  have hzd:=hd z hzD
  obtain ⟨c0,hc0,hc1,hc2⟩:=hex z hzD
  have hzm:(D.map zC)[u]?=some (.agg [.slice none (z.ticket.map za),.slice none (z.conds.map zU),zd z.proof]):=by rw [List.getElem?_map,List.getElem?_eq_getElem hu1,hz];rfl
  refine Wk ?_
  refine ze zi (by kernel_rfl) [6,17,18,19,20,21,22,23,24,25,26,27,28,29,30] [] (fun m_ s_ σ_ n_=>∃ (v:Nat),m_=C.length - v∧s_ 17=.lit (.int .i64 v)∧(v≤C.length)∧(∀ c∈C.take v,¬ (c.third=true∧c.ticket=z.ticket))) ⟨_,0,rfl,WF,WC,WC⟩ ?_
  intro m_3 s_3 σ_3 n_3 hs_3 hf_3 hn_3 hI_3
  obtain ⟨v,hm_3,h3_17,hv,hno⟩:=hI_3
  have h3_1:=KS hs_3 1
  have h3_2:=KS hs_3 2
  have h3_4:=KS hs_3 4
  have h3_8:=KS hs_3 8
  have h3_9:=KS hs_3 9
  have h3_10:=KS hs_3 10
  have h3_11:=KS hs_3 11
  have h3_12:=KS hs_3 12
  have h3_13:=KS hs_3 13
  have h3_14:=KS hs_3 14
  have h3_15:=KS hs_3 15
  have h3_16:=KS hs_3 16
  have k3_0:=KE hf_3 (N)
  have k3_1:=KE hf_3 (n_2+1+2)
  have hlow:=KL (N:=N) (σ:=σ) hf_3
  by_cases hvl:v=C.length
  ·subst hvl
   rw [List.take_length] at hno
   exact absurd ⟨hc1,hc2⟩ (hno c0 hc0)
  ·have hv1:v < C.length:=by omega
   obtain ⟨c,hce⟩:∃ c,C[v]=c:=⟨_,rfl⟩
   have hcd:=hc c (by rw [← hce];exact List.getElem_mem _)
   have hcm:(C.map z8)[v]?=some (.agg [.lit (.bool c.third),zU c.first,.lit (.int .i64 c.party),.slice none (c.ticket.map za),.slice none (c.box.map za)]):=by rw [List.getElem?_map,List.getElem?_eq_getElem hv1,hce];rfl
   have c1:=xB c.ticket z.ticket hcd hzd
   by_cases hy:c.third=true∧c.ticket=z.ticket
   ·rw [decide_eq_true hy.2] at c1
    rw [hy.1] at hcm
    clear hno hc hd hex hy
    have hcs:=And.intro c1 True.intro
    clear c1
    refine Wk ?_
    clear hcs
    exact ⟨WS,WG,WN,_,(show D.length - (u+1) < m_2 by omega),u+1,rfl,WF,WC⟩
   ·have hno2:∀ c∈C.take (v+1),¬ (c.third=true∧c.ticket=z.ticket):=fun x hx=>by
     rw [List.take_add_one,List.getElem?_eq_getElem hv1,hce] at hx
     rcases List.mem_append.1 hx with hx | hx
     ·exact hno x hx
     ·have hx2:x=c:=by simpa using hx
      rw [hx2];exact hy
    cases h3:c.third with
    | false=>
     rw [h3] at hcm
     clear hno hc hd hex hy c1
     refine Wk ?_
     exact ⟨WS,WG,WN,_,(show C.length - (v+1) < m_3 by omega),v+1,rfl,WF,WC,WC⟩
    | true=>
     have h4:¬ c.ticket=z.ticket:=fun h=>hy ⟨h3,h⟩
     rw [decide_eq_false h4] at c1
     rw [h3] at hcm
     clear hno hc hd hex hy h4
     have hcs:=And.intro c1 True.intro
     clear c1
     refine Wk ?_
     clear hcs
     exact ⟨WS,WG,WN,_,(show C.length - (v+1) < m_3 by omega),v+1,rfl,WF,WC,WC⟩
section
variable [W:W32]
structure ThF (a:Alg) (b:Bu) (leaf:Tg) (c:Ca) (t:Tg) (sk dk:Tg) (d:Bo) (j:Nat) (ft:Tg):Prop where
 lk:vq a t (xw c.ticket)=some sk
 op:x6 a sk c.box=(dk.1,0)
 ix:ixF (fun d=>decide (d.ticket=c.ticket)) b.dis 0=(j:Int)
 at_:b.dis[j]?=some d
 dt:zhl a dk d.ticket d.conds=some ft
 pf:zs2 a ft leaf b.req=some d.proof
set_option maxHeartbeats 8000000 in
theorem zdx (a:Alg) (m:Nat) (ha:AlgIn a m) (hm:m≤60000) (b:Bu) (hdl:b.dis.length≤1000000) (hdt:∀ d∈b.dis,d.ticket.length≤100000∧d.conds.length≤100000∧∀ p∈d.conds,PrOk p)
  (c:Ca) (hct:c.ticket.length≤100000) (hcb:c.box.length≤100000) (t leaf sk dk:Tg) (d:Bo) (j:Nat) (ft:Tg) (hF:ThF a b leaf c t sk dk d j ft) (g h k:Nat) (_hgh:g≠h):
  ACall prog 114 [zA a,ye b,z8 c,zd t,zd leaf] k [(g,yE),(h,zS)] (.lit (.int .i64 0)) []:=by
 have c1:=yH [115,101,97,108] c.ticket (by decide) oo
 have hM:[115,101,97,108]++c.ticket=xw c.ticket:=rfl
 rw [hM] at c1
 have c2:=wk a t (xw c.ticket) (by have:=ha.ml;omega) ha.mm (by simp [xw]) (by simp [xw];omega) g
 rw [hF.lk] at c2
 have c3:=zhM a m ha oo sk c.box hcb g
 rw [hF.op] at c3
 have c4:=fun q=>qG b.dis (fun x=>decide (x.ticket=c.ticket)) 184 q (.box 140 (z8 c)) (by simp) (fun x hx k=>zbs c oo x (by have:=(hdt x hx).1;omega) q k) oo
 rw [hF.ix] at c4
 have hjl:j < b.dis.length:=(List.getElem?_eq_some_iff.1 hF.at_).1
 have hdm:d∈b.dis:=List.mem_of_getElem? hF.at_
 have hjm:(b.dis.map zC)[j]?=some (.agg [.slice none (d.ticket.map za),.slice none (d.conds.map zU),zd d.proof]):=by rw [List.getElem?_map,hF.at_];rfl
 obtain ⟨hd1,hd2,hd3⟩:=hdt d hdm
 have c5:=ziV a m ha hm dk d.ticket hd1 d.conds hd2 hd3 g h
 rw [hF.dt] at c5
 have c6:=zfC a m ha hm ft leaf b.req g
 rw [hF.pf] at c6
 have c7:=zcz d.proof d.proof true
 rw [decide_eq_true rfl,Bool.and_self] at c7
 unfold vR at c2 c5 c6
 unfold zkC at c3
 simp only [Option.getD_some,Option.isSome_some] at c2 c5 c6 c3
 have hdkl:(dk.1.map za).length=32:=by rw [List.length_map];exact dk.2
 have hdl2:=dk.2
 have hdkA:AV.agg (dk.1.map za)=zd dk:=rfl
 clear ha hdt hF hdm hd3 hd1 hd2 hM
 obtain ⟨rq,ep,se,C,pf,D⟩:=b
 obtain ⟨th,fi,pa,tk,bx⟩:=c
 have hbA:ye ⟨rq,ep,se,C,pf,D⟩=.agg [yD rq,.lit (.int .i64 ep),.lit (.int .i64 se),.slice none (C.map z8),zd pf,.slice none (D.map zC)]:=rfl
 have hcA:z8 ⟨th,fi,pa,tk,bx⟩=.agg [.lit (.bool th),zU fi,.lit (.int .i64 pa),.slice none (tk.map za),.slice none (bx.map za)]:=rfl
 rw [hcA] at c4
 rw [hbA,hcA]
 simp only at *
 clear hbA hcA
 have e00:((0:Nat):Int)=0:=rfl
 rw [e00] at c3
 clear e00
 refine Bd func114 ntmps114 fun σ N hp hpn hk hkn hfree=>?_
 simp only [List.mem_cons,List.not_mem_nil,or_false,forall_eq_or_imp,forall_eq] at hp hpn;obtain ⟨hd1,hd2⟩:=hp;obtain ⟨hdn1,hdn2⟩:=hpn
 have hcs:=And.intro c1 (And.intro c2 (And.intro c3 (And.intro (c4 (N+2)) True.intro)))
 clear c1 c2 c3 c4
 refine Wk ?_
 clear hcs
 refine zq9 (xs:=dk.1.map za) (len:=32) (by simp (disch:=omega) [go_sem, *,-List.reduceReplicate];try rfl) (by simp (disch:=omega) [go_sem, *,-List.reduceReplicate];exact ⟨rfl,rfl⟩) hdkl (by decide) hdkA ?_
 have hcs:=And.intro c5 (And.intro c6 (And.intro c7 True.intro))
 clear c5 c6 c7
 exact W0
def zbT (ids:List Tg) (leaf:Tg):AV:=.agg [.slice none (ids.map zd),zd leaf]
set_option maxHeartbeats 16000000 in
theorem ziH (a:Alg) (m:Nat) (ha:AlgIn a m) (hm:m≤60000) (root:Tg) (last:Int) (b:Bu) (hb:BuIn b) (hck:yZ b=0) (hcl:b.cavs.length≤1000) (hct:∀ c∈b.cavs,c.ticket.length≤100000∧c.box.length≤100000)
  (hdl:b.dis.length≤1000) (hdt:∀ d∈b.dis,d.ticket.length≤100000∧d.conds.length≤100000∧∀ p∈d.conds,PrOk p) (ts ids:List Tg) (leaf:Tg) (hts:zfe a b.epoch root b.serial b.cavs=(ts,0)) (htl:ts.length=b.cavs.length+1) (hlf:ts[b.cavs.length]?=some leaf) (hid:zgP a ts=(ids,0))
  (hpf:zlR a leaf b.req=some b.proof) (hth:∀ (i:Nat) (c:Ca) (t:Tg),b.cavs[i]?=some c→c.third=true→ts[i]?=some t→∃ sk dk d j ft,ThF a b leaf c t sk dk d j ft)
  (hex:∀ d∈b.dis,∃ c∈b.cavs,c.third=true∧c.ticket=d.ticket) (g h k:Nat) (hgh:g≠h):
  ACall prog 50 [zA a,zbF ⟨[⟨b.epoch,root⟩],last⟩,ye b] k [(g,yE),(h,zS)] (.tup [zbT ids leaf,.lit (.int .i64 0)]) []:=by
 have c1:=wo b hb h
 rw [hck] at c1
 have c2:=fun q=>zhb [⟨b.epoch,root⟩] (fun x=>x.num == b.epoch) 109 q (.box 75 (ye b)) (by simp) (fun x hx k=>zd7 b x q k) (by simp)
 have hix:ixF (fun x:Ep=>x.num == b.epoch) [⟨b.epoch,root⟩] 0=0:=by simp [ixF]
 simp only [hix] at c2
 have c3:=zeV a m ha oo b.epoch root b.serial b.cavs oo hb.ok g h
 simp only [hts] at c3
 have c4:=zfx a m ha hm leaf b.req g
 rw [hpf] at c4
 have c5:=zfA a m ha oo ts oo g
 rw [hid] at c5
 have c6:=zcz b.proof b.proof true
 rw [decide_eq_true rfl,Bool.and_self] at c6
 have c7:=zhr b oo oo (fun c hc=>by have:=(hct c hc).1;omega) (fun d hd=>by have:=(hdt d hd).1;omega) hex
 have c8:∀ (i:Nat) (c:Ca) (t:Tg),b.cavs[i]?=some c→c.third=true→ts[i]?=some t→∀ k,ACall prog 114 [zA a,ye b,z8 c,zd t,zd leaf] k [(g,yE),(h,zS)] (.lit (.int .i64 0)) []:=fun i c t h1 h3 h2 k=>by
  obtain ⟨sk,dk,d,j,ft,hF⟩:=hth i c t h1 h3 h2
  have hcm:=hct c (List.mem_of_getElem? h1)
  exact zdx a m ha hm b oo hdt c hcm.1 hcm.2 t leaf sk dk d j ft hF g h k hgh
 unfold zf5 at c3 c5
 unfold vR at c4
 unfold zbT
 simp only [Option.getD_some,Option.isSome_some] at c3 c4 c5
 have hlm:(ts.map zd)[b.cavs.length]?=some (zd leaf):=by rw [List.getElem?_map,hlf];rfl
 have hrA:zbF ⟨[⟨b.epoch,root⟩],last⟩=.agg [.slice none [.agg [.lit (.int .i64 b.epoch),zd root]],.lit (.int .i64 last)]:=rfl
 have heA:[(⟨b.epoch,root⟩:Ep)].map zi0=[.agg [.lit (.int .i64 b.epoch),zd root]]:=rfl
 rw [heA] at c2
 rw [hrA]
 have hcl2:((b.cavs.length+1:Nat):Int) - 1=(b.cavs.length:Int):=by omega
 clear hth hb ha hck hts hid hpf hex hdt hct hix hrA heA hlf
 obtain ⟨rq,ep,se,C,pf,D⟩:=b
 have hbA:ye ⟨rq,ep,se,C,pf,D⟩=.agg [yD rq,.lit (.int .i64 ep),.lit (.int .i64 se),.slice none (C.map z8),zd pf,.slice none (D.map zC)]:=rfl
 simp only at *
 rw [hbA] at c1 c2 c7 ⊢
 simp only [hbA] at c8
 clear hbA
 have e00:((0:Nat):Int)=0:=rfl
 simp only [e00] at c1 c3 c5
 clear e00
 refine Bd func50 ntmps50 fun σ N hp hpn hk hkn hfree=>?_
 simp only [List.mem_cons,List.not_mem_nil,or_false,forall_eq_or_imp,forall_eq] at hp hpn;obtain ⟨hd1,hd2⟩:=hp;obtain ⟨hdn1,hdn2⟩:=hpn
 have hcs:=And.intro c1 (And.intro (c2 (N+2)) (And.intro (fun k=>c3 k hgh) (And.intro c4 (And.intro c5 (And.intro c6 True.intro)))))
 clear c1 c2 c3 c4 c5 c6
 refine Wk ?_
 clear hcs
 refine ze zi (by kernel_rfl) [7,16,17,18,83,84,85,86,87,88,89,90,91,92,93,94,95,96,97,98,99,100,101,102,103,104] [] (fun m_ s_ σ_ n_=>∃ (u:Nat),m_=C.length - u∧s_ 83=.lit (.int .i64 u)∧(u≤C.length)) ⟨_,0,rfl,WF,WC⟩ ?_
 intro m_1 s_1 σ_1 n_1 hs_1 hf_1 hn_1 hI_1
 obtain ⟨u,hm_1,h1_83,hu⟩:=hI_1
 have h1_3:=KS hs_1 3
 have h1_5:=KS hs_1 5
 have h1_6:=KS hs_1 6
 have h1_10:=KS hs_1 10
 have h1_12:=KS hs_1 12
 have h1_15:=KS hs_1 15
 have h1_81:=KS hs_1 81
 have h1_82:=KS hs_1 82
 have k1_0:=KE hf_1 (N)
 have k1_1:=KE hf_1 (N+1)
 have k1_2:=KE hf_1 (N+2)
 have k1_3:=KE hf_1 (N+3)
 have k1_4:=KE hf_1 (N+35+6)
 have k1_5:=KE hf_1 (N+43+8)
 have k1_6:=KE hf_1 (g)
 have k1_7:=KE hf_1 (h)
 have hlow:=KL (N:=N) (σ:=σ) hf_1
 by_cases hul:u=C.length
 ·subst hul
  have hcs:=And.intro c7 True.intro
  clear c7 c8
  exact W0
 ·have hu1:u < C.length:=by omega
  obtain ⟨c,hce⟩:∃ c,C[u]=c:=⟨_,rfl⟩
  have hcg:C[u]?=some c:=by rw [List.getElem?_eq_getElem hu1,hce]
  have htu:u < ts.length:=by omega
  obtain ⟨t,hte⟩:∃ t,ts[u]=t:=⟨_,rfl⟩
  have htg:ts[u]?=some t:=by rw [List.getElem?_eq_getElem htu,hte]
  have htm:(ts.map zd)[u]?=some (zd t):=by rw [List.getElem?_map,htg];rfl
  have hcm:(C.map z8)[u]?=some (.agg [.lit (.bool c.third),zU c.first,.lit (.int .i64 c.party),.slice none (c.ticket.map za),.slice none (c.box.map za)]):=by rw [List.getElem?_map,hcg];rfl
  have hcA:z8 c=.agg [.lit (.bool c.third),zU c.first,.lit (.int .i64 c.party),.slice none (c.ticket.map za),.slice none (c.box.map za)]:=rfl
  cases h3:c.third with
  | false=>
   rw [h3] at hcm
   clear c8 c7 hcA
   refine Wk ?_
   exact ⟨WS,WG,WN,_,(show C.length - (u+1) < m_1 by omega),u+1,rfl,WF,WC⟩
  | true=>
   have c9:=c8 u c t hcg h3 htg
   rw [hcA,h3] at c9
   rw [h3] at hcm
   clear c8 c7 hcA
   have hcs:=And.intro c9 True.intro
   clear c9
   refine Wk ?_
   clear hcs
   exact ⟨WS,WG,WN,_,(show C.length - (u+1) < m_1 by omega),u+1,rfl,WF,WC⟩
end
section
variable [W:W32]
theorem zgR {a:Alg} (ok:AlgOk a):∀ {M:List (List UInt8)} {k t t':Tg},pathIn a.macs k M t→pathIn a.macs k M t'→t=t'
 | [],k,t,t',h,h'=>by
  have h:k=t:=h
  have h':k=t':=h'
  rw [← h,← h']
 | m::r,k,t,t',h,h'=>by
  obtain ⟨x,⟨h1,_⟩,h2⟩:=h
  obtain ⟨y,⟨h1',_⟩,h2'⟩:=h'
  have e1:=q7 ok h1
  have e2:=q7 ok h1'
  simp only at e1 e2
  rw [e1] at e2
  injection e2 with e2
  subst e2
  exact zgR ok h2 h2'
end
@[go_sem] theorem ztv (l:List Tg) (t:Tg):(zbT l t).sz=33:=by simp only [zbT,AV.sz,AV.szl,zB]
@[go_sem] theorem zoP (l:List Tg) (t:Tg):(zbT l t).isAgg=true:=rfl
@[go_sem] theorem zqv (l:List Tg) (t:Tg):(zbT l t).cell=true:=by simp only [zbT,AV.cell,AV.celll,Bool.and_self,zj]
@[go_sem] theorem zsa (f:Nat→Option Nat) (l:List Tg) (t:Tg):(zbT l t).ren f=zbT l t:=by simp only [zbT,AV.ren,AV.renl,Option.bind_none,znj,xR]
section
variable [W:W32]
theorem zfW {a a':Alg} (hf:a'.free=a.free) (hb:a'.boxes=a.boxes) (k:Tg) (b:List UInt8):x6 a' k b=x6 a k b:=by
 unfold x6
 rw [hf,hb]
theorem zjI {a:Alg} (ok:AlgOk a):∀ {L:List (List UInt8)} {k t:Tg} {acc ts:List Tg},pathIn a.macs k L t→wn a acc k L=some (acc++ts)→∀ i,i < L.length→∃ t',ts[i]?=some t'∧pathIn a.macs k (L.take (i+1)) t'
 | [],_,_,_,_,_,_,i,hi=>absurd hi (by simp)
 | m::r,k,t,acc,ts,h,hw,i,hi=>by
  obtain ⟨t1,hn,h3⟩:=h
  have hl:=q7 ok hn.1
  simp only at hl
  rw [wn,hl] at hw
  simp only at hw
  obtain ⟨ts2,k1,k2,_⟩:=zdo ok (acc:=acc++[t1]) h3
  have hw2:=hw
  rw [k1] at hw2
  have hts:ts=t1::ts2:=by
   simp only [Option.some.injEq,List.append_assoc,List.append_cancel_left_eq] at hw2
   exact hw2.symm
  subst hts
  cases i with
  | zero=>exact ⟨t1,rfl,t1,hn,rfl⟩
  | succ i=>
   rw [List.length_cons] at hi
   obtain ⟨t',e1,e2⟩:=zjI ok h3 k1 i oo
   exact ⟨t',by rw [List.getElem?_cons_succ];exact e1,t1,hn,e2⟩
theorem zea {leaf:Tg} {r:Rq} (hr:rqB r=true) (gs:List Di):∀ (L:List Di) (u:Nat) (a:Alg) (D:List Bo) (m:Nat),AlgIn a m→m+L.length≤60000→gs.drop u=L→D.length=gs.length →
  (∀ e∈a.macs,e∈(xj leaf r L u a D).1.macs)∧(AlgOk a→AlgOk (xj leaf r L u a D).1)∧(xj leaf r L u a D).1.free=a.free∧(∀ i,i < u→(xj leaf r L u a D).2[i]?=D[i]?) ∧
  ∀ (i:Nat) (g:Di) (d:Bo),u≤i→gs[i]?=some g→(xj leaf r L u a D).2[i]?=some d→(⟨g.tag,y8 leaf r.gate.toNat r.nonce.toNat,d.proof⟩:MacE)∈(xj leaf r L u a D).1.macs
 | [],u,a,D,m,ha,_,hL,hD=>by
  refine ⟨fun e he=>he,fun h=>h,rfl,fun _ _=>rfl,fun i g d hi hg _=>?_⟩
  have hl:=List.drop_eq_nil_iff.1 hL
  have:=(List.getElem?_eq_some_iff.1 hg).1
  omega
 | d::L,u,a,D,m,ha,hm,hL,hDl=>by
  have hu:u < gs.length:=by
   have:=congrArg List.length hL
   rw [List.length_drop,List.length_cons] at this;omega
  rw [List.drop_eq_getElem_cons hu,List.cons.injEq] at hL
  obtain ⟨hd,hL⟩:=hL
  obtain ⟨h0,hB⟩:=vw ha (by rw [List.length_cons] at hm;omega) d leaf hr
  have hin:=jk ha d leaf r
  obtain ⟨i1,i2,i3,i4,i5⟩:=zea (leaf:=leaf) hr gs L (u+1) (vJ a d leaf r).1 (D.set u (vJ a d leaf r).2.1) (m+1) hin (by rw [List.length_cons] at hm;omega) hL (by rw [List.length_set];exact hDl)
  rw [xj]
  have hs1:∀ e∈a.macs,e∈(vJ a d leaf r).1.macs:=by rw [hB];exact wi h0
  refine ⟨fun e he=>i1 e (hs1 e he),fun ok=>i2 (by rw [hB];exact ok.mac _ _),i3.trans (by rw [hB];exact (xJ h0).1),fun i hi=>?_,fun i g x hi hg hx=>?_⟩
  ·rw [i4 i oo,List.getElem?_set_ne oo]
  ·by_cases hiu:i=u
   ·subst hiu
    rw [i4 i oo,List.getElem?_set_self oo] at hx
    rw [List.getElem?_eq_getElem hu,hd] at hg
    cases hg
    cases hx
    refine i1 _ ?_
    rw [hB]
    exact za6 h0
   ·exact i5 i g x oo hg hx
theorem zgl {a:Alg} (ok:AlgOk a):∀ {l:List Pr} {x t:Tg},chIn a.macs x (l.map qy) t→(∀ p∈l,yc p=true∧p.kind≠7)→zcd a x l=some t
 | [],x,t,h,_=>by
  have h:x=t:=h
  rw [h];rfl
 | p::r,x,t,h,hv=>by
  obtain ⟨t',h1,h2⟩:=h
  have hl:=q7 ok h1
  simp only at hl
  rw [zcd,if_pos (hv p (List.mem_cons_self ..)),hl]
  exact zgl ok h2 fun y hy=>hv y (List.mem_cons_of_mem _ hy)
theorem zn3 {a:Alg} (ok:AlgOk a) {dk t:Tg} {tk:List UInt8} {l:List Pr} (h:chIn a.macs dk (vy tk::l.map qy) t) (hv:∀ p∈l,yc p=true∧p.kind≠7):zhl a dk tk l=some t:=by
 obtain ⟨x,h1,h2⟩:=h
 have hl:=q7 ok h1
 simp only at hl
 unfold zhl
 rw [hl]
 exact zgl ok h2 hv
omit W in
def zky (d:Bo):Bo:=⟨d.ticket,d.conds,zeroTag⟩
omit W in
theorem zfu (q:Bo→Bool) (hq:∀ d,q (zky d)=q d) (D:List Bo):(D.map zky).any q=D.any q:=by
 rw [List.any_map]
 congr 1
 funext d
 exact hq d
omit W in
theorem zj4 (D:List Bo) (hD:∀ i,i < D.length→True):∀ u,u≤D.length→twU (D.map zky) u=twU D u
 | 0,_=>rfl
 | u+1,hu=>by
  rw [vf,vf,zj4 D hD u oo]
  congr 1
  rw [← List.map_take,List.any_map]
  congr 1
  funext d
  simp only [Function.comp,List.getD_eq_getElem?_getD,List.getElem?_map,List.getElem?_eq_getElem (show u < D.length by omega),Option.map_some,Option.getD_some]
  rfl
omit W in
theorem znY (r:Rq) (ep se:Int) (L:List Ca) (tg tg':Tg) (D:List Bo):yZ ⟨r,ep,se,L,tg,D⟩=yZ ⟨r,ep,se,L,tg',D.map zky⟩:=by
 have h1:z7 ⟨r,ep,se,L,tg,D⟩=z7 ⟨r,ep,se,L,tg',D.map zky⟩:=by
  unfold z7 wX qE
  simp only [List.length_map]
  rw [zfu yQ (fun _=>rfl),zfu yr (fun _=>rfl),zfu qv (fun _=>rfl),zj4 D (fun _ _=>trivial) _ (Nat.le_refl _)]
 have h2:(vh ⟨r,ep,se,L,tg,D⟩).length=(vh ⟨r,ep,se,L,tg',D.map zky⟩).length:=by
  have hf:((D.map zky).flatMap yy).length=(D.flatMap yy).length:=by
   rw [List.length_flatMap,List.length_flatMap,List.map_map]
   congr 1
   refine List.map_congr_left fun d _=>?_
   simp only [Function.comp,yy,zky,List.length_append,d.proof.2,zeroTag.2]
  unfold vh zbw
  simp only [List.length_append,List.length_map,tg.2,tg'.2,hf]
 unfold yZ
 rw [h1,h2]
omit W in
theorem zgL {α:Type} {q:α→Bool}:∀ (l:List α) (u:Nat),l.any q=true→∃ (i:Nat) (x:α),ixF q l u=((u+i:Nat):Int)∧l[i]?=some x∧q x=true
 | [],u,h=>by cases h
 | e::r,u,h=>by
  rw [ixF]
  by_cases hq:q e=true
  ·rw [if_pos hq];exact ⟨0,e,rfl,rfl,hq⟩
  ·rw [if_neg hq]
   rw [List.any_cons] at h
   simp only [Bool.not_eq_true] at hq
   rw [hq,Bool.false_or] at h
   obtain ⟨i,x,h1,h2,h3⟩:=zgL r (u+1) h
   exact ⟨i+1,x,by rw [h1];congr 1;omega,by rw [List.getElem?_cons_succ];exact h2,h3⟩
theorem zf0 {s:Sc} (hs:ScV s) {A:Alg} {m:Nat} (_ha:AlgIn A m) (hm:m≤20000) (_hok:AlgOk A) (hsub:∀ e∈s.alg.macs,e∈A.macs) (hfr:A.free=s.alg.free) (hbx:A.boxes=s.alg.boxes)
  {l:List Pr} (hl:l.length≤900) (hlk:∀ x∈l,PrOk x) (hn:NarG A m s.pass l (yT A s.pass l)) (hck:yZ (zE (yT A s.pass l).2.1 s.grants s.req)=0) {g h:Nat} (hgh:g≠h):
  ∃ (ids:List Tg) (leaf:Tg),∀ k,ACall prog 50 [zA (zV (yT A s.pass l).1 (yT A s.pass l).2.1 s.grants s.req).1,zbF s.ring,ye (zV (yT A s.pass l).1 (yT A s.pass l).2.1 s.grants s.req).2] k [(g,yE),(h,zS)] (.tup [zbT ids leaf,.lit (.int .i64 0)]) []:=by
 obtain ⟨se,hG,s1,s2⟩:=hs.good
 have hrq:=hs.rq
 obtain ⟨root,hring,hpath⟩:=hs.ri
 have hV:=hs.vk root hring
 obtain ⟨sa,sr,sc,⟨pe,ps,pc,pt⟩,gs,rq,sh,sm⟩:=s
 simp only at *
 obtain rfl:pe=2:=hG.ep
 obtain rfl:ps=se:=hG.es
 have hgl:=hG.gl
 have hgv:=hG.gv
 have hgd:=hG.gd
 have hcl:=hG.cl
 have hcv:=hG.cv
 simp only at hgl hgv hgd hcl hcv
 have hpt:=hn.pt root _ (hpath.sub hsub)
 have hcav:=hn.cv
 have hep:=hn.ep
 have hse:=hn.se
 have hnin:=hn.ain
 have hnok:=hn.ok
 have hnsub:=hn.sub
 have hnfr:=hn.fr
 have hnbx:=hn.bx
 simp only at hcav hep hse
 generalize yT A (⟨2,ps,pc,pt⟩:Pa) l=R at *
 obtain ⟨A1,⟨e1,r1,C,tg⟩,er⟩:=R
 simp only at *
 subst hep hse
 clear hn
 have hP0:=ka hnin oo (⟨2,r1,C,tg⟩:Pa) hrq
 have hPin:AlgIn (qa A1 (⟨2,r1,C,tg⟩:Pa) rq).1 (m+2 * l.length+1):=yN hnin _ _
 have hPsub:∀ e∈A1.macs,e∈(qa A1 (⟨2,r1,C,tg⟩:Pa) rq).1.macs:=wi hP0
 have hPmem:(⟨tg,kI rq.gate.toNat rq.nonce.toNat,(qa A1 (⟨2,r1,C,tg⟩:Pa) rq).2.1⟩:MacE)∈(qa A1 (⟨2,r1,C,tg⟩:Pa) rq).1.macs:=za6 hP0
 have hPok:AlgOk (qa A1 (⟨2,r1,C,tg⟩:Pa) rq).1:=hnok.mac _ _
 have hPfr:(qa A1 (⟨2,r1,C,tg⟩:Pa) rq).1.free=A1.free:=(xJ hP0).1
 have hbxs:=vo hnin (⟨2,r1,C,tg⟩:Pa) gs hrq oo
 obtain ⟨b1,b2⟩:=zaw (leaf:=tg) hrq gs gs 0 _ (gs.map zu) (m+2 * l.length+1) hPin oo rfl (by simp) (fun i hi hj=>by rw [List.getElem_map];exact ⟨rfl,rfl⟩)
 obtain ⟨i1,i2,i3,_,i5⟩:=zea (leaf:=tg) hrq gs gs 0 _ (gs.map zu) (m+2 * l.length+1) hPin oo rfl (by simp)
 have hDl:=xO (leaf:=tg) (r:=rq) gs 0 (qa A1 (⟨2,r1,C,tg⟩:Pa) rq).1 (gs.map zu)
 rw [List.length_map] at hDl
 have hi2:=i2 hPok
 have hpres:zV A1 (⟨2,r1,C,tg⟩:Pa) gs rq=((xj tg rq gs 0 (qa A1 (⟨2,r1,C,tg⟩:Pa) rq).1 (gs.map zu)).1,⟨rq,2,r1,C,(qa A1 (⟨2,r1,C,tg⟩:Pa) rq).2.1,(xj tg rq gs 0 (qa A1 (⟨2,r1,C,tg⟩:Pa) rq).1 (gs.map zu)).2⟩):=rfl
 rw [hpres] at hbxs ⊢
 clear hpres i2
 generalize (qa A1 (⟨2,r1,C,tg⟩:Pa) rq).2.1=pf at *
 generalize (qa A1 (⟨2,r1,C,tg⟩:Pa) rq).1=A2 at *
 generalize xj tg rq gs 0 A2 (gs.map zu)=B at *
 obtain ⟨A3,D⟩:=B
 simp only at *
 have sub3:∀ e∈A1.macs,e∈A3.macs:=fun e he=>i1 e (hPsub e he)
 have hopen:∀ k b,x6 A3 k b=x6 sa k b:=fun k b=>zfW (by rw [i3,hPfr,hnfr,hfr]) (by rw [hbxs,hnbx,hbx]) k b
 have hDt:∀ (i:Nat) (d:Bo) (g:Di),D[i]?=some d→gs[i]?=some g→d.ticket=g.ticket∧d.conds=g.conds:=fun i d g hd hg=>by
  obtain ⟨hi,rfl⟩:=List.getElem?_eq_some_iff.1 hd
  obtain ⟨hj,rfl⟩:=List.getElem?_eq_some_iff.1 hg
  exact b2 i hj hi
 have hDm:∀ d∈D,∃ (i:Nat) (g:Di),D[i]?=some d∧gs[i]?=some g∧d.ticket=g.ticket∧d.conds=g.conds:=fun d hd=>by
  obtain ⟨i,hi,rfl⟩:=List.getElem_of_mem hd
  have hj:i < gs.length:=by omega
  exact ⟨i,gs[i],List.getElem?_eq_getElem hi,List.getElem?_eq_getElem hj,b2 i hj hi⟩
 have hoff:D.map zky=gs.map zu:=by
  refine List.ext_getElem (by simp [hDl]) fun i h1 h2=>?_
  rw [List.length_map] at h1 h2
  obtain ⟨t1,t2⟩:=b2 i h2 h1
  rw [List.getElem_map,List.getElem_map]
  unfold zky zu
  rw [t1,t2]
 have hck2:yZ ⟨rq,2,r1,C,pf,D⟩=0:=by rw [znY _ _ _ _ _ zeroTag,hoff];exact hck
 have hpkC:∀ c∈C,PrOk c.first:=fun c hc=>by
  rw [hcav] at hc
  rcases List.mem_append.1 hc with hc | hc
  ·exact (hcv c hc).2.1
  ·obtain ⟨x,hx,rfl⟩:=List.mem_map.1 hc
   exact hlk x hx
 have hCl:C.length≤1000:=by
  rw [hcav,List.length_append,List.length_map]
  omega
 have hbin:BuIn ⟨rq,2,r1,C,pf,D⟩:=by
  refine ⟨hCl,by simp only;omega,hpkC,fun d hd=>?_⟩
  obtain ⟨i,g,_,hg,h1,h2⟩:=hDm d hd
  have hv:=hgv g (List.mem_of_getElem? hg)
  exact ⟨by rw [h1];have:=hv.t2;omega,by rw [h2];have:=hv.cl;omega,fun p hp=>(hv.cv p (by rw [← h2];exact hp)).2.1⟩
 have hbv:=(vK hbin hck2).1
 have hcvB:∀ c∈C,xz c=true:=fun c hc=>(hbv.cv c hc).1
 have hL:zdV r1 C=yX r1.toNat::C.map y9:=rfl
 have hpt3:pathIn A3.macs root (zdV r1 C) tg:=by
  rw [hL,hcav,List.map_append,List.map_map]
  exact hpt.sub sub3
 obtain ⟨ts,w1,w2,w3,w4,_⟩:=zdo hi2 (acc:=[]) hpt3
 obtain ⟨ids,hids⟩:=zdk hi2 (acc:=[]) w3
 have htl:ts.length=C.length+1:=by rw [w2,hL,List.length_cons,List.length_map]
 have hlf:ts[C.length]?=some tg:=by
  rw [hL,List.length_cons,List.length_map,List.getElem?_cons_succ] at w4
  exact w4
 have hts:zfe A3 2 root r1 C=(ts,0):=by
  unfold zfe
  rw [if_neg oo,if_neg (by
   intro hh
   obtain ⟨c,hc,hc2⟩:=List.any_eq_true.1 hh
   rw [hcvB c hc] at hc2
   cases hc2),w1]
  rfl
 refine ⟨ids,tg,fun k=>?_⟩
 rw [hring]
 refine ziH A3 (m+2 * l.length+1+gs.length) b1 oo root 3 ⟨rq,2,r1,C,pf,D⟩ hbin hck2 hCl ?_ (by simp only;omega) ?_ ts ids tg hts htl hlf ?_ ?_ ?_ ?_ g h k hgh
 ·intro c hc
  simp only at hc
  rw [hcav] at hc
  rcases List.mem_append.1 hc with hc | hc
  ·have:=hcv c hc;exact ⟨by omega,by omega⟩
  ·obtain ⟨x,hx,rfl⟩:=List.mem_map.1 hc
   exact ⟨by simp [zR],by simp [zR]⟩
 ·intro d hd
  obtain ⟨i,g,_,hg,h1,h2⟩:=hDm d hd
  have hv:=hgv g (List.mem_of_getElem? hg)
  exact ⟨by rw [h1];have:=hv.t2;omega,by rw [h2];have:=hv.cl;omega,fun p hp=>(hv.cv p (by rw [← h2];exact hp)).2.1⟩
 ·unfold zgP;rw [hids];rfl
 ·unfold zlR
  rw [if_pos hrq]
  exact q7 hi2 (i1 _ hPmem)
 ·intro i c t hic h3 hit
  simp only at hic
  have hi5:i < pc.length:=by
   rcases Nat.lt_or_ge i pc.length with h4 | h4
   ·exact h4
   ·rw [hcav,List.getElem?_append_right h4,List.getElem?_map] at hic
    obtain ⟨x,_,rfl⟩:=Option.map_eq_some_iff.1 hic
    cases h3
  have hic2:pc[i]?=some c:=by rw [hcav,List.getElem?_append_left hi5] at hic;exact hic
  obtain ⟨t0,sk,dk,g0,v1,v2,v3,v4,v5,v6⟩:=hV.th i c hic2 h3
  simp only at v1 v2 v3 v4 v6
  obtain ⟨t',e1,e2⟩:=zjI hi2 hpt3 w1 i (by rw [hL,List.length_cons,List.length_map,hcav,List.length_append,List.length_map];omega)
  have hpre:(zdV r1 C).take (i+1)=yX r1.toNat::(pc.take i).map y9:=by
   rw [hL,List.take_succ_cons,← List.map_take,hcav,List.take_append_of_le_length oo]
  rw [hpre] at e2
  rw [hit] at e1
  cases e1
  obtain rfl:=zgR hi2 e2 ((v1.sub hsub).sub (fun e he=>sub3 e (hnsub e he)))
  have hgk:=List.getElem_of_mem v4
  obtain ⟨j0,hj0,hj1⟩:=hgk
  have hany:D.any (fun d=>decide (d.ticket=c.ticket))=true:=by
   rw [List.any_eq_true]
   have hj2:j0 < D.length:=by omega
   refine ⟨D[j0],List.getElem_mem hj2,?_⟩
   have:=(b2 j0 hj0 hj2).1
   rw [decide_eq_true_eq,this,hj1]
   exact v5
  obtain ⟨j,d,x1,x2,x3⟩:=zgL D 0 hany
  rw [decide_eq_true_eq] at x3
  have hjl:j < gs.length:=by have:=(List.getElem?_eq_some_iff.1 x2).1;omega
  obtain ⟨y1,y2⟩:=hDt j d gs[j] x2 (List.getElem?_eq_getElem hjl)
  have hjj:j=j0:=hgd j j0 hjl hj0 (by rw [← y1,x3,hj1,v5])
  subst hjj
  rw [hj1] at y1 y2
  refine ⟨sk,dk,d,j,g0.tag,q7 hi2 (sub3 _ (hnsub _ (hsub _ v2))),by rw [hopen];exact v3,by rw [Nat.zero_add] at x1;exact x1,x2,?_,?_⟩
  ·rw [y1,y2]
   exact zn3 hi2 (((v6.sub hsub).sub hnsub).sub sub3) (fun p hp=>by have:=(hgv g0 v4).cv p hp;exact ⟨this.1,this.2.2⟩)
  ·unfold zs2
   rw [if_pos hrq]
   exact q7 hi2 (i5 j g0 d (Nat.zero_le _) (by rw [List.getElem?_eq_getElem hjl,hj1]) x2)
 ·intro d hd
  obtain ⟨i,g,_,hg,h1,h2⟩:=hDm d hd
  obtain ⟨c,hc,k1,k2⟩:=hV.ex g (List.mem_of_getElem? hg)
  exact ⟨c,by simp only;rw [hcav];exact List.mem_append_left _ hc,k1,by rw [k2,h1]⟩
end
end Go.Proofs.YtglmjglbobhbbaaGreatDoor
namespace Go.Proofs.YtglmjglbobhbbaaGreatDoor
open _root_.Go.Proofs.Tryz
open Go.Ab
attribute [local irreducible] Go.Ab.tyAV Go.Ab.aw Go.Ab.aops Go.Ab.kReg Go.Ab.aThen Go.Ab.aBlk Go.Ab.acond Go.Ab.aguard Go.Ab.astep Go.Ab.AStepX Go.Ab.aRet
structure BuWd (b:Bu):Prop where
 cl:b.cavs.length≤9223372036854775807
 cs:∀ c∈b.cavs,CaW c
 dl:b.dis.length≤9223372036854775807
 ds:∀ d∈b.dis,WdT d.ticket d.conds∧∀ p∈d.conds,PrOk p
structure KnW (q:Kn):Prop where
 pl:q.ps.length≤9223372036854775807
 ps:∀ p∈q.ps,PaW p
 dl:q.ds.length≤9223372036854775807
 ds:∀ d∈q.ds,WdT d.ticket d.conds∧∀ p∈d.conds,PrOk p
 bl:q.bs.length≤9223372036854775807
 bs:∀ b∈q.bs,BuWd b
 il:q.its.length≤9223372036854775807
 its:∀ x∈q.its,x.box.length≤140737488351232
attribute [local irreducible] yE
structure WaW (w:Wa):Prop where
 pl:w.ps.length≤9223372036854775807
 ps:∀ p∈w.ps,PaW p
 dl:w.ds.length≤9223372036854775807
 ds:∀ d∈w.ds,WdT d.ticket d.conds∧∀ p∈d.conds,PrOk p
theorem WaW.c {w:Wa} (h:WaW w) (f:FewW w):WaC w:=⟨by have:=f.pl;omega,fun p hp=>⟨by have:=f.p p hp;omega,fun c hc=>((h.ps p hp).ok c hc).2⟩,by have:=f.dl;omega,fun d hd=>(h.ds d hd).1⟩
theorem zfH {w:Wa} (h:WaC w) {n:Nat} (hn:n≤1000):WaC (zcl w n):=by
 obtain ⟨a1,a2⟩:=kM (Q:=PaC) (fun s=>⟨by simp,fun c hc=>by cases hc⟩) (n - w.ps.length) w.ps h.pc
 obtain ⟨b1,b2⟩:=kL (Q:=fun d=>WdT d.ticket d.conds) (fun s=>⟨by simp [tkD],by simp⟩) (n - w.ds.length) w.ds h.dc
 have h1:=h.pl
 have h2:=h.dl
 unfold zcl
 exact ⟨by simp only;rw [a2];omega,a1,by simp only;rw [b2];omega,b1⟩
section
variable [W:W32]
end
def zqy (L:List Pr):AV:=.slice none (L.map zU)
@[go_sem] theorem zrM (L:List Pr):(zqy L).sz=1:=rfl
@[go_sem] theorem zkU (L:List Pr):(zqy L).isAgg=false:=rfl
theorem zuo (c:Nat) (b:List Pr):∃ (m:Nat) (t:List Pr),(if (c:Int) < (b.length:Int) then (c:Int) else (b.length:Int))=(m:Int)∧m≤b.length∧m≤c∧t.length=m∧(b.map zU).take m=t.map zU∧∀ x∈t,x∈b:=by
 refine ⟨min c b.length,b.take c,?_,Nat.min_le_right ..,Nat.min_le_left ..,by simp,?_,fun x hx=>List.mem_of_mem_take hx⟩
 ·split <;> omega
 ·rw [← List.map_take]
  congr 1
  by_cases h:c≤b.length
  ·rw [Nat.min_eq_left h]
  ·rw [Nat.min_eq_right oo,List.take_length,List.take_of_length_le oo]
section
variable [W:W32]
omit W in
theorem WaP.full {w:Wa} (h:WaP w) (h2:w.ds.length≤50) {n:Nat} (hn:n≤100):WaP (zcl w n):=by
 obtain ⟨a1,a2⟩:=kM (Q:=fun p=>p.cavs.length≤1000∧∀ c∈p.cavs,PrOk c.first∧wY c) (fun s=>⟨by simp,fun c hc=>by cases hc⟩) (n - w.ps.length) w.ps h.pk
 obtain ⟨b1,b2⟩:=kL (Q:=DiP) (fun s=>⟨by simp [tkD],by simp,fun q hq=>by cases hq⟩) (n - w.ds.length) w.ds h.dk
 exact ⟨zfH h.wc oo,a1,by unfold zcl;simp only;rw [b2];omega,b1⟩
end
section
variable [W:W32]
omit W in
theorem zof {gs:List Di} (gd:∀ i j (hi:i < gs.length) (hj:j < gs.length),(gs[i]).ticket=(gs[j]).ticket→i=j):gs.Pairwise (fun a b=>a.ticket≠b.ticket):=by
 rw [List.pairwise_iff_getElem]
 intro i j hi hj hij he
 have:=gd i j hi hj he
 omega
theorem zlL {s:Sc} (hs:ScV s) (X:List Pr) (tg:Tg) (e r:Int):jc ⟨e,r,s.pass.cavs++X.map zR,tg⟩ s.grants=s.grants:=by
 obtain ⟨root,hring,_⟩:=hs.ri
 have hV:=hs.vk root hring
 unfold jc
 rw [List.filter_eq_self]
 intro g hg
 obtain ⟨c,hc,k1,k2⟩:=hV.ex g hg
 rw [List.any_eq_true]
 refine ⟨c,List.mem_append_left _ hc,?_⟩
 unfold isC
 rw [k1,k2]
 simp
end
section
variable [W:W32]
omit W in
theorem zsv {x:Pr} (h:xz (zR x)=true):yc x=true:=by
 have h2:=CV.of h
 unfold zR at h2
 cases h2 with
 | first p hp=>exact hp
theorem zm0:∀ (l:List Pr) (a:Alg) (p:Pa),(yT a p l).2.2=0→(∀ x∈l,yc x=true)∧(p.cavs.length≤64→p.cavs.length+l.length≤64)
 | [],a,p,_=>⟨fun x hx=>(by cases hx),fun h=>h⟩
 | x::r,a,p,h=>by
  rw [yT] at h
  by_cases h0:(zba a p (zR x)).2.2=0
  ·rw [if_pos h0] at h
   obtain ⟨h1,h2⟩:=zm0 r _ _ h
   unfold zba at h0 h2
   by_cases hc:xz (zR x)=false
   ·rw [if_pos hc] at h0;cases h0
   ·rw [if_neg hc] at h0 h2
    by_cases hl:64≤p.cavs.length∨((zR x).third=true∧8≤yF p.cavs)
    ·rw [if_pos hl] at h0;cases h0
    ·rw [if_neg hl] at h0 h2
     by_cases hn:(xS a p.tag (y9 (zR x))).2.2=0
     ·rw [if_pos hn] at h2
      simp only [List.length_append,List.length_singleton] at h2
      refine ⟨fun y hy=>?_,fun _=>?_⟩
      ·rcases List.mem_cons.1 hy with rfl | hy
       ·exact zsv (by simpa using hc)
       ·exact h1 y hy
      ·have:=h2 oo
       rw [List.length_cons];omega
     ·rw [if_neg hn] at h0
      exact absurd h0 hn
  ·rw [if_neg h0] at h
   exact absurd h h0
def FbQ (s:Sc) (A:Alg) (q:Kn) (y:List Pr) (g h:Nat):Prop:=∃ R:Alg × Bu × Nat,
 (∀ k,ACall prog 49 [zA A,xT q,.lit (.int .i64 0),.slice none (y.map zU),yD s.req] k [(g,yE),(h,zS)] (zby R) []) ∧
 (R.2.2=0→R.2.1.serial=s.pass.serial∧R.2.1.cavs=s.pass.cavs++y.map zR∧∃ (ids:List Tg) (leaf:Tg),∀ k,ACall prog 50 [zA R.1,zbF s.ring,ye R.2.1] k [(g,yE),(h,zS)] (.tup [zbT ids leaf,.lit (.int .i64 0)]) [])
theorem zvI {s:Sc} (hs:ScV s) {A:Alg} {q:Kn} {i:Nat} (hK:KB s A q i) (hi:i≤4) {y:List Pr} (hy:y.length≤100∧∀ x∈y,PrOk x) {g h:Nat} (hgh:g≠h):FbQ s A q y g h:=by
 obtain ⟨r0,hr0⟩:=hK.p0
 obtain ⟨r2,hr2,hr3⟩:=hK.d0
 obtain ⟨hpc,hgc,hgl⟩:=yW hs
 obtain ⟨se,hG,s1,s2⟩:=hs.good
 have hcl:=hG.cl
 have hcv:=hG.cv
 have hgv:=hG.gv
 simp only at hcl hcv hgv
 have hpl:=hK.pl
 have hdl:=hK.kc.dl
 have hdp:∀ d∈s.grants,DiP d:=fun d hd=>by
  have hv:=hgv d hd
  exact ⟨Nat.le_trans hv.t2 (by decide),Nat.le_trans hv.cl (by decide),fun q hq=>(hv.cv q hq).2.1⟩
 have hr2l:q.ds.length≤100:=hK.dl
 obtain ⟨R,k1,k2⟩:=zqC hK.ain oo (p:=s.pass) (P':=r0) hr0 (by rw [hr0,List.length_cons] at hpl;omega) oo (fun c hc=>⟨(hcv c hc).2.1,hpc.2 c hc⟩) hr2l (fun d hd=>by
  rw [hr2] at hd
  rcases List.mem_append.1 hd with hd | hd
  ·exact hdp d hd
  ·exact hdp d (hr3 d hd)) hy.1 hy.2 s.req hgh
 refine ⟨R,k1,fun h0=>?_⟩
 obtain ⟨e1,e2,e3,e4⟩:=k2 h0
 have hnar:=jR y A s.pass
 rw [if_pos e1] at hnar
 have hn0:(yT A s.pass y).2.2=0:=by rw [hnar]
 obtain ⟨v1,v2⟩:=zm0 y A s.pass hn0
 have v3:=v2 oo
 have hN:=jP (l:=y) (p:=s.pass) hK.ain hK.ok oo v3 v1
 have f1:(wj A s.pass y).1=(yT A s.pass y).1:=by rw [hnar]
 have f2:(wj A s.pass y).2.2=(yT A s.pass y).2.1:=by rw [hnar]
 rw [f1,f2] at e3 e4
 rw [f2] at e2
 have hG2:ddL [] (jc (yT A s.pass y).2.1 q.ds)=s.grants:=by
  have hcv2:=hN.cv
  have hm:=zlL hs y (yT A s.pass y).2.1.tag (yT A s.pass y).2.1.epoch (yT A s.pass y).2.1.serial
  rw [← hcv2] at hm
  have hm2:jc (yT A s.pass y).2.1 s.grants=s.grants:=hm
  have hsplit:jc (yT A s.pass y).2.1 q.ds=s.grants++jc (yT A s.pass y).2.1 r2:=by
   rw [hr2]
   unfold jc
   rw [List.filter_append]
   congr 1
  rw [hsplit,zqW s.grants [] _ (fun d _ x hx=>by cases hx) (zof hG.gd),List.nil_append]
  exact zqX _ _ fun d hd=>hr3 d (List.mem_filter.1 hd).1
 rw [hG2] at e2 e3 e4
 obtain ⟨ids,leaf,hv⟩:=zf0 hs hK.ain oo hK.ok hK.sub hK.fr hK.bx (l:=y) oo hy.2 hN e2 hgh
 rw [e3,e4]
 refine ⟨?_,?_,ids,leaf,hv⟩
 ·exact hN.se
 ·exact hN.cv
set_option maxHeartbeats 16000000 in
theorem ze7 (xs:List Int) (hxs:xs.length≤9223372036854775807) (l:List Pr) (hl:l.length≤9223372036854775807∧∀ p∈l,PrOk p) (g h:Nat) (hgh:g≠h) (k:Nat):
  ACall prog 7 [.slice none (xs.map jI),.slice none (l.map zU)] k [(g,yE),(h,zS)] (.lit (.bool true)) []:=by
 have c9:=zaa g h hgh
 obtain ⟨s,A,q,i0,j,hs,hK,hi0,hj,c2⟩:=zjA xs hxs
 obtain ⟨P,j6,p1,p2,p3,p4⟩:=zbI xs j hj 3 oo true
 have c3:∀ d k,ACall prog 40 [.ptr d [] 0,.lit (.int .i64 3),.lit (.bool true)] k [(d,zy xs j)] (.slice none (P.map zU)) [(d,zy xs j6)]:=p4
 obtain ⟨m1,l1,q1,q2,q3,q4,q5,q6⟩:=zuo 40 l
 have q1:(if (40:Int) < (l.length:Int) then (40:Int) else (l.length:Int))=(m1:Int):=q1
 obtain ⟨YL,hYL⟩:∃ YL:List (List Pr),YL=[l1,P]:=⟨_,rfl⟩
 have hly:YL.length=2:=by rw [hYL];rfl
 have hleY:∀ r,AV.le (.slice (some r) [.slice none (l1.map zU),.slice none (P.map zU)]) (.slice none (YL.map zqy)):=fun r=>by rw [hYL];exact AV.le_own _ _
 have hallY:∀ y∈YL,FbQ s A q y g h∧y.length≤100:=fun y hy=>by
  have hy2:y.length≤100∧∀ x∈y,PrOk x:=by
   rw [hYL] at hy
   simp only [List.mem_cons,List.not_mem_nil,or_false] at hy
   rcases hy with rfl | rfl
   ·exact ⟨by omega,fun x hx=>hl.2 x (q6 x hx)⟩
   ·exact ⟨by omega,fun x hx=>(p2 x hx).1⟩
  exact ⟨zvI hs hK hi0 hy2 hgh,hy2.1⟩
 obtain ⟨hpc,_,_⟩:=yW hs
 have hpcl:=hpc.1
 have hpcm:=hpc.2
 have hsA:zbS { s with alg:=A }=.agg [zA A,zbF s.ring,xW s.con,.agg [.lit (.int .i64 s.pass.epoch),.lit (.int .i64 s.pass.serial),.slice none (s.pass.cavs.map z8),zd s.pass.tag],.slice none (s.grants.map zw),yD s.req,.lit (.string ⟨s.holder.toArray⟩),.lit (.int .i64 s.minute)]:=rfl
 rw [hsA] at c2
 have c8:=kg s.pass.cavs s.pass.cavs hpcm hpcm hpcl hpcl
 rw [decide_eq_true rfl] at c8
 clear hs hK hj hsA hYL p1 p2 p4 hl q3 q6 hpc hpcm
 refine Bd func7 ntmps7 fun σ N hp hpn hk hkn hfree=>?_
 simp only [List.mem_cons,List.not_mem_nil,or_false,forall_eq_or_imp,forall_eq] at hp hpn;obtain ⟨hd1,hd2⟩:=hp;obtain ⟨hdn1,hdn2⟩:=hpn
 have hcs:=And.intro c2 (And.intro (c3 (N+7+1)) True.intro)
 clear c2 c3
 refine Wk ?_
 clear hcs
 refine jB 29 (by simp (disch:=omega) [go_sem, *];try rfl) (hleY _) ?_
 clear hleY q1 q2 q5
 refine ze zi (by kernel_rfl) (4::9::10::11::12::13::14::31::32::33::34::35::36::37::38::39::40::41::42::43::44::45::46::47::48::49::50::51::52::53::54::55::56::57::58::59::60::61::62::63::64::65::66::67::68::69::70::71::72::73::74::75::76::77::78::79::80::81::82::83::84::85::86::87::88::89::90::91::92::93::[]) [] (fun m_ s_ σ_ n_=>∃ (e:Nat),m_=2 - e∧s_ 31=.lit (.int .i64 e)∧(e≤2)) ⟨_,0,rfl,WF,WC⟩ ?_
 intro m_1 s_1 σ_1 n_1 hs_1 hf_1 hn_1 hI_1
 obtain ⟨e,hm_1,h1_31,he⟩:=hI_1
 have h1_5:=KS hs_1 5
 have h1_6:=KS hs_1 6
 have h1_29:=KS hs_1 29
 have h1_30:=KS hs_1 30
 have k1_0:=KE hf_1 (N+7+6)
 have k1_1:=KE hf_1 (N+7+7)
 have k1_2:=KE hf_1 (g)
 have k1_3:=KE hf_1 (h)
 have hlow:=KL (N:=N) (σ:=σ) hf_1
 by_cases hel:e=2
 ·subst hel
  clear hallY c8
  have hcs:=And.intro c9 True.intro
  clear c9
  exact W0
 ·have he1:e < YL.length:=by omega
  obtain ⟨y,hy⟩:∃ y,YL[e]=y:=⟨_,rfl⟩
  obtain ⟨⟨⟨RA,⟨rq,ep,sr,C,pf,D⟩,RE⟩,k1,k2⟩,hyl⟩:=hallY y (by rw [← hy];exact List.getElem_mem _)
  have hym:(YL.map zqy)[e]?=some (.slice none (y.map zU)):=by rw [List.getElem?_map,List.getElem?_eq_getElem he1,hy];rfl
  unfold zby at k1
  simp only at k1 k2
  have hbA:ye ⟨rq,ep,sr,C,pf,D⟩=.agg [yD rq,.lit (.int .i64 ep),.lit (.int .i64 sr),.slice none (C.map z8),zd pf,.slice none (D.map zC)]:=rfl
  rw [hbA] at k1 k2
  clear hbA hallY c9 hy
  by_cases h0:RE=0
  ·subst h0
   obtain ⟨hsr,hC,ids,leaf,k3⟩:=k2 rfl
   have hCl:C.length=s.pass.cavs.length+y.length:=by rw [hC,List.length_append,List.length_map]
   have htk:(C.map z8).take s.pass.cavs.length=s.pass.cavs.map z8:=by rw [hC,List.map_append,List.take_left' (by simp)]
   subst hsr
   have hadd:IntKind.i64.wrap ((s.pass.cavs.length:Int)+(y.length:Int))=(s.pass.cavs.length:Int)+(y.length:Int):=wrap_i64 oo oo
   have hCi:(C.length:Int)=(s.pass.cavs.length:Int)+(y.length:Int):=by omega
   have hSC:s.pass.cavs.length≤C.length:=by omega
   clear k2 hC
   have e00:((0:Nat):Int)=0:=rfl
   rw [e00] at k1
   clear e00
   have hcs:=And.intro k1 (And.intro k3 (And.intro c8 True.intro))
   clear k1 k3 c8
   refine Wk ?_
   clear hcs
   exact ⟨WS,WG,WN,_,(show 2 - (e+1) < m_1 by omega),e+1,rfl,WF,WC⟩
  ·have h0i:((RE:Int) != 0)=true:=by rw [bne_iff_ne];omega
   clear k2 c8
   have hcs:=And.intro k1 True.intro
   clear k1
   refine Wk ?_
   clear hcs
   exact ⟨WS,WG,WN,_,(show 2 - (e+1) < m_1 by omega),e+1,rfl,WF,WC⟩
end
theorem ze8 (xs:List Int) (_:∀ n∈xs,(Lit.int .i64 n).wf=true) (hxs:xs.length≤9223372036854775807) (l:List Pr) (hl:l.length≤9223372036854775807∧∀ p∈l,PrOk p) (g h:Nat) (hgh:g≠h) (k:Nat):
  ACall prog 7 [.slice none (xs.map jI),.slice none (l.map zU)] k [(g,yE),(h,zS)] (.lit (.bool true)) []:=
 @ze7 w32 xs hxs l hl g h hgh k
end Go.Proofs.YtglmjglbobhbbaaGreatDoor
