/- Texts C13, O7, U11, U28, U12, U13, W4, W2, W8, joined. -/
import Derived.Test.YtglmjglbobhbbaaGreatDoorM31
import Derived.Test.YtglmjglbobhbbaaGreatDoorM32
import Derived.Test.YtglmjglbobhbbaaGreatDoorM33
import Derived.Test.YtglmjglbobhbbaaGreatDoorM34
namespace Go.Ab
open Go.RowKit
attribute [local irreducible] Go.Ab.tyAV Go.Ab.aw Go.Ab.aops Go.Ab.kReg Go.Ab.aThen Go.Ab.aBlk Go.Ab.acond Go.Ab.aguard Go.Ab.astep Go.Ab.AStepX Go.Ab.aRet
mutual
def AV.shut:AV→Bool
 | .any=>true
 | .lit _=>true
 | .nils=>true
 | .slice none xs=>AV.shutl xs
 | .slice (some _) _=>false
 | .agg xs=>AV.shutl xs
 | .ptr _ _ _=>false
 | .view x=>AV.shut x
 | .fn _ xs=>AV.shutl xs
 | .tup xs=>AV.shutl xs
 | .clip xs=>AV.shutl xs
 | .ms _ _ _ _ _=>false
 | .mp _ _ _ _=>false
 | .bs _ _ _ _ _=>false
 | .iface _ x=>AV.shut x
def AV.shutl:List AV→Bool
 | []=>true
 | x::r=>AV.shut x && AV.shutl r
end
theorem AV.shutl_at {xs:List AV} (h:AV.shutl xs=true):∀ {i:Nat} {x:AV},xs[i]?=some x→x.shut=true:=by
 induction xs with
 | nil=>intro i x hx;simp at hx
 | cons y r ih=>
  intro i x hx
  simp only [AV.shutl,Bool.and_eq_true] at h
  cases i with
  | zero=>simp at hx;subst hx;exact h.1
  | succ i=>exact ih h.2 (by simpa using hx)
theorem AV.shutl_map {α:Type} (f:α→AV) (hf:∀ x,(f x).shut=true):∀ l:List α,AV.shutl (l.map f)=true
 | []=>rfl
 | x::r=>by simp only [List.map_cons,AV.shutl,hf x,AV.shutl_map f hf r,Bool.and_self]
theorem Rep.shut {g g':Ghost} (hG:∀ b o u,g.G b o=some u→g'.G b o=some u) {x:AV} {v:Value} (h:Rep g x v):x.shut=true→Rep g' x v:=by
 induction h with
 | any v h=>exact fun _=>.any v h
 | lit v h=>exact fun _=>.lit v h
 | nils=>exact fun _=>.nils
 | slice own xs vs A c size hl hc hm h hs hcell hown ih=>
  intro hx
  cases own with
  | some o=>simp [AV.shut] at hx
  | none=>
   simp only [AV.shut] at hx
   exact .slice none xs vs A c size hl hc hm (fun i x v h1 h2=>ih i x v h1 h2 (AV.shutl_at hx h1)) hs (hcell.imp (fun h=>h) (fun ⟨b,o,h1,h2⟩=>⟨b,o,h1,fun j u hu=>hG _ _ _ (h2 j u hu)⟩)) (fun id hid=>by cases hid)
 | agg xs vs hl h ih=>exact fun hx=>.agg xs vs hl fun i x v h1 h2=>ih i x v h1 h2 (AV.shutl_at (by simpa only [AV.shut] using hx) h1)
 | ptr id path off b h=>intro hx;simp [AV.shut] at hx
 | view x v b o h hc ih=>exact fun hx=>.view x v b o (ih (by simpa only [AV.shut] using hx)) fun j u hu=>hG _ _ _ (hc j u hu)
 | fn f xs vs hl h ih=>exact fun hx=>.fn f xs vs hl fun i x v h1 h2=>ih i x v h1 h2 (AV.shutl_at (by simpa only [AV.shut] using hx) h1)
 | tup xs vs hl h ih=>exact fun hx=>.tup xs vs hl fun i x v h1 h2=>ih i x v h1 h2 (AV.shutl_at (by simpa only [AV.shut] using hx) h1)
 | clip xs A n h ih=>exact fun hx=>.clip xs A n (ih (by simpa only [AV.shut] using hx))
 | ms id ver size lo len ver' u A c hm hv hl hc h=>intro hx;simp [AV.shut] at hx
 | mp id ver path off ver' u a hm hv h=>intro hx;simp [AV.shut] at hx
 | bs id path lo off len b c h hl hc=>intro hx;simp [AV.shut] at hx
 | iface t x v h ih=>exact fun hx=>.iface t x v (ih (by simpa only [AV.shut] using hx))
theorem Sim.grown {W0:World} {g:Ghost} {σ:Nat→Ent} {n:Nat} {w w':World} (h:Sim W0 g σ n w) (hb:Below w.heap.size w w'):Sim W0 g σ n w':=by
 refine ⟨h.below.trans (hb.mono h.below.size),fun b o v hv=>?_,h.bound,fun id=>(h.ents id).same g.le_refl rfl rfl rfl rfl fun b hbk=>⟨hb.block b (h.fresh id b hbk).2,fun _=>rfl⟩,h.sep,fun i b hbk=>⟨(h.fresh i b hbk).1,Nat.lt_of_lt_of_le (h.fresh i b hbk).2 hb.size⟩⟩
 have hc:=h.imm b o v hv
 have hlt:b < w.heap.size:=World.block_lt_of_cell? w ⟨b,o,none⟩ hc
 unfold World.cell? at hc ⊢
 rw [hb.block b hlt]
 exact hc
mutual
inductive Lend (pre:Foot):AV→AV→Prop where
 | shut {x y:AV}:AV.le x y→y.shut=true→Lend pre x y
 | ms {r ver size k:Nat} {e:TypeId} {xs:List AV}:(r,Ent.mrow ver e size xs)∈pre→k=xs.length→AV.shutl xs=true→Lend pre (.ms r ver size 0 k) (.slice none xs)
 | agg {xs ys:List AV}:LendL pre xs ys→Lend pre (.agg xs) (.agg ys)
inductive LendL (pre:Foot):List AV→List AV→Prop where
 | nil:LendL pre [] []
 | cons {x y:AV} {xs ys:List AV}:Lend pre x y→LendL pre xs ys→LendL pre (x::xs) (y::ys)
end
section
variable {P:Program} {o:Oper} {s:Slots} {id:Nat}
end
section
variable {P:Program} {ops:Array Oper} {m i n:Nat} {T:Trace} {k:Cfg→Trace→Prop} {ty:TypeId} {pos:String} {after:Array Edge} {r:List Oper} {s:Slots} {σ:Nat→Ent}
end
attribute [go_sem] AV.shut AV.shutl
end Go.Ab
namespace Go.Proofs.YtglmjglbobhbbaaGreatDoor
open _root_.Go.Proofs.Tryz
open Go.Ab
attribute [local irreducible] Go.Ab.tyAV Go.Ab.aw Go.Ab.aops Go.Ab.kReg Go.Ab.aThen Go.Ab.aBlk Go.Ab.acond Go.Ab.aguard Go.Ab.astep Go.Ab.AStepX Go.Ab.aRet
attribute [local irreducible] yE
section
variable [W:W32]
theorem zdH {a:Alg} {m:Nat} (h:AlgIn a m) (hm:m≤60000) (key:Tg) {msg:List UInt8} (hl:msg.length≤4096):(yJ a key msg).2.2=0∧(yJ (yJ a key msg).1 (yJ a key msg).2.1 nodeB).2.2=0∧xS a key msg=((yJ (yJ a key msg).1 (yJ a key msg).2.1 nodeB).1,(yJ a key msg).2.1,0):=by
 have h1:(yJ a key msg).2.2=0:=zfU key hl (by have:=h.ml;omega)
 have h2:(yJ (yJ a key msg).1 (yJ a key msg).2.1 nodeB).2.2=0:=zfU _ (by decide) (by have:=(yN h key msg).ml;omega)
 exact ⟨h1,h2,zdG h1 h2⟩
theorem kV {a:Alg} {m:Nat} (h:AlgIn a m) (hm:m≤60000) (key:Tg) {msg:List UInt8} (hl:msg.length≤4096):(xS a key msg).2.2=0∧(xS a key msg).1.free=a.free∧(xS a key msg).1.fresh=a.fresh∧(xS a key msg).1.boxes=a.boxes:=by
 obtain ⟨h1,h2,h3⟩:=zdH h hm key hl
 obtain ⟨a1,_,a3,a4⟩:=xJ h1
 obtain ⟨b1,_,b3,b4⟩:=xJ h2
 rw [h3]
 exact ⟨rfl,b1.trans a1,b3.trans a3,b4.trans a4⟩
theorem AlgOk.node {a:Alg} {m:Nat} (ok:AlgOk a) (h:AlgIn a m) (hm:m≤60000) (key:Tg) {msg:List UInt8} (hl:msg.length≤4096):AlgOk (xS a key msg).1:=by
 obtain ⟨h1,h2,h3⟩:=zdH h hm key hl
 rw [h3]
 exact (ok.mac key msg).mac _ _
theorem zds {a:Alg} {m:Nat} (h:AlgIn a m) (hm:m≤60000) {p:Pa} {c:Ca} (hc:xz c=true) (hl:p.cavs.length < 64) (ht:c.third=true→yF p.cavs < 8):
  zba a p c=((xS a p.tag (y9 c)).1,⟨p.epoch,p.serial,p.cavs++[c],(xS a p.tag (y9 c)).2.1⟩,0):=by
 have h1:=(kV h hm p.tag (msg:=y9 c) (by have:=xP c;omega)).1
 unfold zba
 rw [if_neg (by rw [hc];simp),if_neg (by rintro (h | ⟨h,h'⟩);omega;have:=ht h;omega),if_pos h1]
theorem zjT {a:Alg} {m:Nat} (h:AlgIn a m) (hm:m≤60000) {d:Di} {p:Pr} (hp:yc p=true) (hk:p.kind≠7) (hl:d.conds.length < 8):
  (yJ a d.tag (qy p)).2.2=0∧wD a d p=((yJ a d.tag (qy p)).1,⟨d.ticket,d.conds++[p],(yJ a d.tag (qy p)).2.1⟩,0):=by
 have h1:(yJ a d.tag (qy p)).2.2=0:=zfU _ (by have:=ziU p;omega) (by have:=h.ml;omega)
 refine ⟨h1,?_⟩
 unfold wD
 rw [if_neg (by rw [hp];simp),if_neg hk,if_neg oo,if_pos h1]
theorem ziR {a:Alg} {m:Nat} (h:AlgIn a m) (hm:m≤60000) {c:Co} {t:Te} (ht:teB t=true) (h0:0≤c.party) (h7:c.party≤7):
  zai a=({ a with fresh:=a.fresh+1 },if a.free then vW 107 (a.fresh+1) else zvl a.seed (a.fresh+1),0)∧(vm (zai a).1 c.key (zai a).1.fresh (jL (zai a).2.1 t)).2.2=0 ∧
  zax a c t=((vm (zai a).1 c.key (zai a).1.fresh (jL (zai a).2.1 t)).1,⟨c.party,(zai a).2.1,(vm (zai a).1 c.key (zai a).1.fresh (jL (zai a).2.1 t)).2.1⟩,0):=by
 have hk:=zlI (a:=a) (by have:=h.f1;omega)
 have h2:(vm (zai a).1 c.key (zai a).1.fresh (jL (zai a).2.1 t)).2.2=0:=by
  refine zpr _ ?_ ?_ (by have:=zdl (zai a).2.1 t ht;omega) ?_
  ·rw [hk];have:=h.f0;simp only;omega
  ·rw [hk];have:=h.f1;simp only;omega
  ·rw [hk];have:=h.bl;simp only;omega
 refine ⟨hk,h2,?_⟩
 unfold zax
 rw [if_neg (by rintro (h | h | h);rw [ht] at h;cases h;omega;omega),if_pos (by rw [hk]),if_pos h2]
theorem zeK {a:Alg} (ok:AlgOk a) {key:Tg} {nonce:Int} {plain:List UInt8} (h:(vm a key nonce plain).2.2=0):(vm a key nonce plain).2.1.length=plain.length+40:=by
 unfold vm at h ⊢
 split at h
 ·cases h
 ·rename_i h1
  split at h
  ·cases h
  ·rename_i h2
   rw [if_neg h1,if_neg h2]
   split at h
   ·rename_i b hb
    obtain ⟨e,he,k1,k2,k3,k4⟩:=zeT hb
    simp only
    rw [← k4,← k3]
    cases hfr:a.free with
    | true=>
     obtain ⟨i,hi,rfl⟩:=List.getElem_of_mem he
     rw [ok.bf hfr i hi,List.length_append,List.length_replicate,(vW _ _).2];omega
    | false=>rw [ok.bn hfr e he,zjZ]
   ·split at h
    ·cases h
    ·rename_i h3
     rw [if_neg h3]
     simp only
     unfold zg0
     split
     ·rw [List.length_append,List.length_replicate,(vW _ _).2];omega
     ·rw [zjZ]
theorem zud {a:Alg} {m:Nat} (ok:AlgOk a) (h:AlgIn a m) (hm:m≤50000) {p:Pa} {b:Bl} (_hl:p.cavs.length < 64) (_ht:yF p.cavs < 8) (b0:0≤b.party) (b7:b.party≤7) (t1:1≤b.ticket.length) (t2:b.ticket.length≤1024):
  (yJ a p.tag (xw b.ticket)).2.2=0∧(vm (yJ a p.tag (xw b.ticket)).1 (yJ a p.tag (xw b.ticket)).2.1 0 b.key.1).2.2=0 ∧
  xz ⟨true,x9,b.party,b.ticket,(vm (yJ a p.tag (xw b.ticket)).1 (yJ a p.tag (xw b.ticket)).2.1 0 b.key.1).2.1⟩=true ∧
  zbq a p b=zba (vm (yJ a p.tag (xw b.ticket)).1 (yJ a p.tag (xw b.ticket)).2.1 0 b.key.1).1 p ⟨true,x9,b.party,b.ticket,(vm (yJ a p.tag (xw b.ticket)).1 (yJ a p.tag (xw b.ticket)).2.1 0 b.key.1).2.1⟩:=by
 have h1:(yJ a p.tag (xw b.ticket)).2.2=0:=zfU _ (by simp [xw];omega) (by have:=h.ml;omega)
 have hin:=yN h p.tag (xw b.ticket)
 have h2:(vm (yJ a p.tag (xw b.ticket)).1 (yJ a p.tag (xw b.ticket)).2.1 0 b.key.1).2.2=0:=zpr _ oo oo (by rw [b.key.2];decide) (by have:=hin.bl;omega)
 refine ⟨h1,h2,?_,by unfold zbq;rw [if_pos h1,if_pos h2]⟩
 have hb:=zeK (ok.mac _ _) h2
 obtain ⟨n,hn⟩:=Int.eq_ofNat_of_zero_le b0
 rw [hn]
 refine (CV.third n oo _ _ ⟨t1,t2⟩ ?_).ok
 rw [b.key.2] at hb
 omega
omit W in
theorem zvO {b mi:Int} (h0:0≤mi) (h1:mi≤10000) (h2:-60000000≤b) (h3:b≤0):0≤ztE b mi∧ztE b mi≤150:=by
 unfold ztE
 split
 ·omega
 ·split <;> omega
end
section
variable [W:W32]
theorem wi {a:Alg} {key:Tg} {msg:List UInt8} (h:(yJ a key msg).2.2=0):∀ e∈a.macs,e∈(yJ a key msg).1.macs:=fun e he=>by
 by_cases h1:4096 < msg.length
 ·rw [zaH h1] at h;cases h
 ·cases hE:zcG key msg a.macs with
  | some t=>rw [kC h1 hE];exact he
  | none=>
   by_cases hf:65536≤a.macs.length
   ·rw [zaG h1 hE hf] at h;cases h
   ·rw [vV h1 hE hf];exact List.mem_append_left _ he
theorem za6 {a:Alg} {key:Tg} {msg:List UInt8} (h:(yJ a key msg).2.2=0):(⟨key,msg,(yJ a key msg).2.1⟩:MacE)∈(yJ a key msg).1.macs:=by
 by_cases h1:4096 < msg.length
 ·rw [zaH h1] at h;cases h
 ·cases hE:zcG key msg a.macs with
  | some t=>
   rw [kC h1 hE]
   obtain ⟨⟨x,y,z⟩,he,h2,h3,h4⟩:=zis hE
   simp only at h2 h3 h4
   subst h2 h3 h4
   exact he
  | none=>
   by_cases hf:65536≤a.macs.length
   ·rw [zaG h1 hE hf] at h;cases h
   ·rw [vV h1 hE hf];exact List.mem_append_right _ (List.mem_singleton.2 rfl)
omit W in
def nodeIn (M:List MacE) (k:Tg) (m:List UInt8) (t:Tg):Prop:=(⟨k,m,t⟩:MacE)∈M∧∃ id,(⟨t,nodeB,id⟩:MacE)∈M
omit W in
def pathIn (M:List MacE):Tg→List (List UInt8)→Tg→Prop
 | k,[],t=>k=t
 | k,m::r,t=>∃ t',nodeIn M k m t'∧pathIn M t' r t
omit W in
theorem nodeIn.sub {M M':List MacE} (hs:∀ e∈M,e∈M') {k:Tg} {m:List UInt8} {t:Tg} (h:nodeIn M k m t):nodeIn M' k m t:=by
 obtain ⟨h1,id,h2⟩:=h
 exact ⟨hs _ h1,id,hs _ h2⟩
omit W in
theorem pathIn.sub {M M':List MacE} (hs:∀ e∈M,e∈M'):∀ {L:List (List UInt8)} {k t:Tg},pathIn M k L t→pathIn M' k L t
 | [],_,_,h=>h
 | _::_,_,_,h=>by
  obtain ⟨t',h1,h2⟩:=h
  exact ⟨t',h1.sub hs,h2.sub hs⟩
omit W in
theorem pathIn.snoc {M:List MacE} {m:List UInt8} {t t0:Tg} (hn:nodeIn M t0 m t):∀ {L:List (List UInt8)} {k:Tg},pathIn M k L t0→pathIn M k (L++[m]) t
 | [],k,h=>by
  have h:k=t0:=h
  subst h
  exact ⟨t,hn,rfl⟩
 | _::_,_,h=>by
  obtain ⟨t',h1,h2⟩:=h
  exact ⟨t',h1,h2.snoc hn⟩
omit W in
def chIn (M:List MacE):Tg→List (List UInt8)→Tg→Prop
 | k,[],t=>k=t
 | k,m::r,t=>∃ t',(⟨k,m,t'⟩:MacE)∈M∧chIn M t' r t
omit W in
theorem chIn.sub {M M':List MacE} (hs:∀ e∈M,e∈M'):∀ {L:List (List UInt8)} {k t:Tg},chIn M k L t→chIn M' k L t
 | [],_,_,h=>h
 | _::_,_,_,h=>by
  obtain ⟨t',h1,h2⟩:=h
  exact ⟨t',hs _ h1,h2.sub hs⟩
omit W in
theorem chIn.snoc {M:List MacE} {m:List UInt8} {t t0:Tg} (hn:(⟨t0,m,t⟩:MacE)∈M):∀ {L:List (List UInt8)} {k:Tg},chIn M k L t0→chIn M k (L++[m]) t
 | [],k,h=>by
  have h:k=t0:=h
  subst h
  exact ⟨t,hn,rfl⟩
 | _::_,_,h=>by
  obtain ⟨t',h1,h2⟩:=h
  exact ⟨t',h1,h2.snoc hn⟩
theorem zcr {a:Alg} {m:Nat} (h:AlgIn a m) (hm:m≤60000) (key:Tg) {msg:List UInt8} (hl:msg.length≤4096):
  nodeIn (xS a key msg).1.macs key msg (xS a key msg).2.1∧∀ e∈a.macs,e∈(xS a key msg).1.macs:=by
 obtain ⟨h1,h2,h3⟩:=zdH h hm key hl
 rw [h3]
 exact ⟨⟨wi h2 _ (za6 h1),_,za6 h2⟩,fun e he=>wi h2 e (wi h1 e he)⟩
theorem q7 {a:Alg} (ok:AlgOk a) {e:MacE} (he:e∈a.macs):vq a e.key e.msg=some e.tag:=by
 unfold vq
 cases hf:a.free with
 | true=>rw [if_pos rfl];exact ok.mu e he
 | false=>
  have:=ok.ml e he
  rw [if_neg (by simp),if_neg oo,ok.mn hf e he]
end
def PRD (l:List Int) (j:Nat) (r:Bool) (p:Pr) (j1:Nat):Prop:=yc p=true∧PrOk p∧(r=false→p.kind≠7)∧Dk l j1∧∀ d k,ACall prog 70 [.ptr d [] 0,.lit (.bool r)] k [(d,zy l j)] (zU p) [(d,zy l j1)]
theorem zkG {l:List Int} {j:Nat} (h:Dk l j) (r:Bool):∃ p j1,PRD l j r p j1:=by
 obtain ⟨p,j1,h1,h2,h3,h4,h5⟩:=zmm l j h r
 exact ⟨p,j1,h1,h2,h3,h4,h5⟩
structure Ss where
 A:Alg
 p:Pa
 gs:List Di
def ann:List UInt8:=[97,110,110]
section
variable [W:W32]
def zuN (l:List Int):Nat→Nat→Alg→Di→(Alg × Di × Nat)→Prop
 | 0,j,A,g,R=>R=(A,g,j)
 | f+1,j,A,g,R=>∃ p j1,PRD l j false p j1∧zuN l f j1 (wD A g p).1 (wD A g p).2.1 R
def BL (S:Ss) (con:Co):Alg × Bl × Nat:=zax S.A con ⟨0,150⟩
def AD (S:Ss) (con:Co):Alg × Pa × Nat:=zbq (BL S con).1 S.p (BL S con).2.1
def GR (S:Ss) (con:Co) (mi:Int):Alg × Di × Nat:=zaD (AD S con).1 con (BL S con).2.1.ticket ann mi
def zwC (l:List Int) (con:Co) (mi:Int):Nat→Nat→Ss→(Ss × Nat)→Prop
 | 0,j,S,R=>R=(S,j)
 | f+1,j,S,R=>((yl l j 4).1≠0→∃ p j1,PRD l (yl l j 4).2 true p j1∧zwC l con mi f j1 ⟨(yT S.A S.p [p]).1,(yT S.A S.p [p]).2.1,S.gs⟩ R) ∧
  ((yl l j 4).1=0→∃ R2,zuN l (yl l (yl l j 4).2 3).1 (yl l (yl l j 4).2 3).2 (GR S con mi).1 (GR S con mi).2.1 R2∧zwC l con mi f R2.2.2 ⟨R2.1,(AD S con).2.1,S.gs++[R2.2.1]⟩ R)
structure DiV (g:Di):Prop where
 t1:1≤g.ticket.length
 t2:g.ticket.length≤200
 cl:g.conds.length≤3
 cv:∀ p∈g.conds,yc p=true∧PrOk p∧p.kind≠7
def zuy (m:List UInt8):Bool:=m.head? == some 109 || m.head? == some 99 || m.head? == some 103
def hidT (L:List MacE) (t:Tg):Prop:=∃ e∈L,e.tag=t∧zuy e.msg=true
omit W in
theorem hidT.sub {L L':List MacE} {t:Tg} (h:hidT L t) (hs:∀ e∈L,e∈L'):hidT L' t:=by
 obtain ⟨e,he,h1,h2⟩:=h
 exact ⟨e,hs e he,h1,h2⟩
theorem zo8 {a:Alg} {key:Tg} {msg:List UInt8} (h:(yJ a key msg).2.2=0):∃ e∈(yJ a key msg).1.macs,e.tag=(yJ a key msg).2.1∧e.msg=msg:=by
 by_cases h1:4096 < msg.length
 ·rw [zaH h1] at h;cases h
 ·cases hE:zcG key msg a.macs with
  | some t=>
   rw [kC h1 hE]
   obtain ⟨e,he,_,h2,h3⟩:=zis hE
   exact ⟨e,he,h3,h2⟩
  | none=>
   by_cases hf:65536≤a.macs.length
   ·rw [zaG h1 hE hf] at h;cases h
   ·rw [vV h1 hE hf];exact ⟨_,List.mem_append_right _ (List.mem_singleton.2 rfl),rfl,rfl⟩
theorem zgM {a:Alg} {key:Tg} {msg:List UInt8} (h:(yJ a key msg).2.2=0) (hb:zuy msg=true):hidT (yJ a key msg).1.macs (yJ a key msg).2.1:=by
 obtain ⟨e,he,h1,h2⟩:=zo8 h
 exact ⟨e,he,h1,by rw [h2];exact hb⟩
structure Good (con:Co) (se:Int) (S:Ss) (n m:Nat):Prop where
 ain:AlgIn S.A m
 ok:AlgOk S.A
 ep:S.p.epoch=2
 es:S.p.serial=se
 cl:S.p.cavs.length≤n
 cv:∀ c∈S.p.cavs,xz c=true∧PrOk c.first∧c.ticket.length≤200∧c.box.length≤200
 th:yF S.p.cavs≤n
 gl:S.gs.length≤n
 gv:∀ g∈S.gs,DiV g
 nf:∀ e∈S.A.boxes,e.nonce≤S.A.fresh
 gb:∀ g∈S.gs,∃ e∈S.A.boxes,e.box=g.ticket∧1≤e.nonce
 gd:∀ i j (hi:i < S.gs.length) (hj:j < S.gs.length),(S.gs[i]).ticket=(S.gs[j]).ticket→i=j
 pt:hidT S.A.macs S.p.tag
 gt:∀ g∈S.gs,hidT S.A.macs g.tag
omit W in
theorem zkZ (l:List Ca) (c:Ca):yF (l++[c])≤yF l+1:=by
 unfold yF
 have h1:=zad l
 have h2:(wy (l++[c])).length≥(wy l).length:=by
  unfold wy;rw [List.filter_append,List.map_append,List.length_append];omega
 rw [List.length_append,List.length_singleton];omega
theorem Good.nar {con:Co} {se:Int} {S:Ss} {n m:Nat} (h:Good con se S n m) (hm:m≤1000) (hn:n≤6) {p:Pr} (hp:yc p=true) (hp0:PrOk p):
  Good con se ⟨(yT S.A S.p [p]).1,(yT S.A S.p [p]).2.1,S.gs⟩ (n+1) (m+2):=by
 have hcv:xz (zR p)=true:=(CV.first p hp).ok
 have ha:=zds h.ain oo (p:=S.p) (c:=zR p) hcv (by have:=h.cl;omega) (fun hh=>by cases hh)
 have hk:=kV h.ain oo S.p.tag (msg:=y9 (zR p)) (by have:=xP (zR p);omega)
 have hin:=zcN h.ain S.p.tag (y9 (zR p))
 have hok:=h.ok.node h.ain oo S.p.tag (msg:=y9 (zR p)) (by have:=xP (zR p);omega)
 have hn':yT S.A S.p [p]=((xS S.A S.p.tag (y9 (zR p))).1,⟨S.p.epoch,S.p.serial,S.p.cavs++[zR p],(xS S.A S.p.tag (y9 (zR p))).2.1⟩,0):=by
  simp only [yT]
  rw [ha]
  rfl
 rw [hn']
 obtain ⟨z1,z2,z3⟩:=zdH h.ain oo S.p.tag (msg:=y9 (zR p)) (by have:=xP (zR p);omega)
 have zs:∀ e∈S.A.macs,e∈(xS S.A S.p.tag (y9 (zR p))).1.macs:=by rw [z3];exact fun e he=>wi z2 e (wi z1 e he)
 have zt:hidT (xS S.A S.p.tag (y9 (zR p))).1.macs (xS S.A S.p.tag (y9 (zR p))).2.1:=by rw [z3];exact (zgM z1 rfl).sub (wi z2)
 clear z1 z2 z3
 obtain ⟨k1,k2,k3,k4⟩:=hk
 refine ⟨hin,hok,h.ep,h.es,by have:=h.cl;simp;omega,fun c hc=>?_,by have:=zkZ S.p.cavs (zR p);have:=h.th;simp only;omega,by have:=h.gl;simp only;omega,h.gv,fun e he=>?_,fun g hg=>?_,h.gd,zt,fun g hg=>(h.gt g hg).sub zs⟩
 ·rcases List.mem_append.1 hc with hc | hc
  ·exact h.cv c hc
  ·rw [List.mem_singleton.1 hc];exact ⟨hcv,hp0,by simp [zR],by simp [zR]⟩
 ·simp only at he ⊢
  rw [k4] at he;rw [k3];exact h.nf e he
 ·simp only
  rw [k4];exact h.gb g hg
omit W in
theorem zox {k:Tg} {t:Te} (ht:teB t=true):zrQ (jL k t)=(k,t,0):=by
 obtain ⟨h1,h2,h3⟩:=teB_iff.1 ht
 obtain ⟨x,y⟩:=t
 simp only at h1 h2 h3
 obtain ⟨x,rfl⟩:=Int.eq_ofNat_of_zero_le h1
 obtain ⟨y,rfl⟩:=Int.eq_ofNat_of_zero_le (show 0≤y by omega)
 have hp:jL k ⟨(x:Nat),(y:Nat)⟩=k.1++(leb x++leb y):=rfl
 rw [hp]
 have hkl:=k.2
 have hlen:(k.1++(leb x++leb y)).length=32+((leb x).length+(leb y).length):=by simp [hkl]
 have hu:0+32≤(k.1++(leb x++leb y)).length:=by omega
 have ht1:zl6 (k.1++(leb x++leb y)) 0=(k,32,0):=by
  rw [zl8 hu]
  refine Prod.ext (Subtype.ext ?_) rfl
  simp only [List.drop_zero]
  exact List.take_left' hkl
 have hd:(k.1++(leb x++leb y)).drop 32=leb x++leb y:=List.drop_left' hkl
 have hn1:=zrF (b:=k.1++(leb x++leb y)) (u:=32) (n:=x) (t:=leb y) hd oo
 have hd2:(k.1++(leb x++leb y)).drop (32+(leb x).length)=leb y++[]:=by
  rw [← List.drop_drop,hd,List.drop_left,List.append_nil]
 have hn2:=zrF (b:=k.1++(leb x++leb y)) (u:=32+(leb x).length) (n:=y) (t:=[]) hd2 oo
 unfold zrQ
 rw [ht1,hn1]
 simp only [hn2]
 rw [if_neg (by simp),if_neg (by simp),if_neg (by simp),if_neg (by rw [hlen,ht];simp;omega)]
theorem znt {a:Alg} {key:Tg} {nonce:Int} {plain:List UInt8} (h:(vm a key nonce plain).2.2=0):(∃ e∈(vm a key nonce plain).1.boxes,e.box=(vm a key nonce plain).2.1∧e.nonce=nonce)∧(∀ e∈a.boxes,e∈(vm a key nonce plain).1.boxes)∧(∀ e∈(vm a key nonce plain).1.boxes,e∈a.boxes∨e.nonce=nonce):=by
 unfold vm at h ⊢
 split at h
 ·cases h
 ·rename_i h1
  split at h
  ·cases h
  ·rename_i h2
   rw [if_neg h1,if_neg h2]
   split at h
   ·rename_i b hb
    obtain ⟨e,he,k1,k2,k3,k4⟩:=zeT hb
    exact ⟨⟨e,he,k4,k2⟩,fun _ h=>h,fun _ h=>.inl h⟩
   ·split at h
    ·cases h
    ·rename_i h3
     rw [if_neg h3]
     refine ⟨⟨_,List.mem_append_right _ (List.mem_singleton.2 rfl),rfl,rfl⟩,fun _ h=>List.mem_append_left _ h,fun e he=>?_⟩
     rcases List.mem_append.1 he with he | he
     ·exact .inl he
     ·rw [List.mem_singleton.1 he];exact .inr rfl
theorem zv2 {a:Alg} (ok:AlgOk a) (hl:a.boxes.length≤900000) {e e':BoxE} (he:e∈a.boxes) (he':e'∈a.boxes) (h:e.box=e'.box):e.nonce=e'.nonce:=by
 cases hfr:a.free with
 | true=>
  obtain ⟨i,hi,rfl⟩:=List.getElem_of_mem he
  obtain ⟨j,hj,rfl⟩:=List.getElem_of_mem he'
  rw [ok.bf hfr i hi,ok.bf hfr j hj] at h
  have:=zkX oo oo oo oo h
  obtain rfl:i=j:=by omega
  rfl
 | false=>
  have p1:=ok.bp e he
  have p2:=ok.bp e' he'
  rw [ok.bn hfr e he,ok.bn hfr e' he'] at h
  unfold zcw at h
  rw [List.append_assoc,List.append_assoc] at h
  exact zkL p1.2.1 oo p2.2.1 oo (List.append_inj_left h (by rw [xD,xD]))
end
section
variable [W:W32]
theorem zrO {l:List Int}:∀ (f j:Nat) (A:Alg) (g:Di),Dk l j→∃ R,zuN l f j A g R
 | 0,j,A,g,_=>⟨_,rfl⟩
 | f+1,j,A,g,h=>by
  obtain ⟨p,j1,hp⟩:=zkG h false
  obtain ⟨R,hR⟩:=zrO f j1 (wD A g p).1 (wD A g p).2.1 hp.2.2.2.1
  exact ⟨R,p,j1,hp,hR⟩
theorem zm9 {l:List Int}:∀ (f j:Nat) (A:Alg) (g:Di) (R:Alg × Di × Nat) (m c:Nat),zuN l f j A g R→Dk l j→AlgIn A m→AlgOk A→g.conds.length≤c→(∀ p∈g.conds,yc p=true∧PrOk p∧p.kind≠7)→f+c≤7→m+f≤50000 →
  AlgIn R.1 (m+f)∧AlgOk R.1∧R.1.boxes=A.boxes∧R.1.fresh=A.fresh∧R.1.free=A.free∧R.2.1.ticket=g.ticket∧R.2.1.conds.length≤c+f∧(∀ p∈R.2.1.conds,yc p=true∧PrOk p∧p.kind≠7)∧Dk l R.2.2∧(∀ e∈A.macs,e∈R.1.macs)∧(hidT A.macs g.tag→hidT R.1.macs R.2.1.tag)
 | 0,j,A,g,R,m,c,hR,hj,ha,ok,hc,hv,_,_=>by
  have hR:R=(A,g,j):=hR
  subst hR
  exact ⟨ha,ok,rfl,rfl,rfl,rfl,hc,hv,hj,fun e he=>he,fun h=>h⟩
 | f+1,j,A,g,R,m,c,hR,hj,ha,ok,hc,hv,h1,h2=>by
  obtain ⟨p,j1,⟨p1,p2,p3,p4,_⟩,hR⟩:=hR
  obtain ⟨r1,r2⟩:=zjT ha oo p1 (p3 rfl) (d:=g) oo
  obtain ⟨q1,_,q3,q4⟩:=xJ r1
  rw [r2] at hR
  have:=zm9 f j1 _ _ R (m+1) (c+1) hR p4 (yN ha _ _) (ok.mac _ _) (by simp;omega) (fun x hx=>by
   rcases List.mem_append.1 hx with hx | hx
   ·exact hv x hx
   ·rw [List.mem_singleton.1 hx];exact ⟨p1,p2,p3 rfl⟩) oo oo
  obtain ⟨k1,k2,k3,k4,k5,k6,k7,k8,k9,k10,k11⟩:=this
  exact ⟨by rw [show m+(f+1)=m+1+f by omega];exact k1,k2,k3.trans q4,k4.trans q3,k5.trans q1,k6,by omega,k8,k9,fun e he=>k10 e (wi r1 e he),fun _=>k11 (zgM r1 rfl)⟩
theorem zrP {l:List Int}:∀ (f j:Nat) (A:Alg) (g:Di) (R:Alg × Di × Nat) (m c:Nat),zuN l f j A g R→AlgIn A m→g.conds.length≤c→f+c≤7→m+f≤50000 →
  (∀ k b,x6 R.1 k b=x6 A k b)∧∀ k L0,chIn A.macs k (L0++g.conds.map qy) g.tag→chIn R.1.macs k (L0++R.2.1.conds.map qy) R.2.1.tag
 | 0,j,A,g,R,m,c,hR,ha,_,_,_=>by
  have hR:R=(A,g,j):=hR
  subst hR
  exact ⟨fun _ _=>rfl,fun _ _ h=>h⟩
 | f+1,j,A,g,R,m,c,hR,ha,hc,h1,h2=>by
  obtain ⟨p,j1,⟨p1,p2,p3,p4,_⟩,hR⟩:=hR
  obtain ⟨r1,r2⟩:=zjT ha oo p1 (p3 rfl) (d:=g) oo
  rw [r2] at hR
  obtain ⟨k1,k2⟩:=zrP f j1 _ _ R (m+1) (c+1) hR (yN ha _ _) (by simp;omega) oo oo
  refine ⟨fun k b=>(k1 k b).trans (zaK r1 k b),fun k L0 h=>k2 k L0 ?_⟩
  simp only [List.map_append,List.map_cons,List.map_nil]
  rw [← List.append_assoc]
  exact (h.sub (wi r1)).snoc (za6 r1)
structure Stp (S S':Ss):Prop where
 sub:∀ e∈S.A.macs,e∈S'.A.macs
 add:∃ c,S'.p.cavs=S.p.cavs++[c]∧nodeIn S'.A.macs S.p.tag (y9 c) S'.p.tag
def Thd (S S':Ss):Prop:=(∀ k b x,x6 S.A k b=(x,0)→x6 S'.A k b=(x,0))∧∃ c sk dk g,S'.p.cavs=S.p.cavs++[c]∧S'.gs=S.gs++[g]∧c.third=true∧(⟨S.p.tag,xw c.ticket,sk⟩:MacE)∈S'.A.macs ∧
 x6 S'.A sk c.box=((dk:Tg).1,0)∧g.ticket=c.ticket∧chIn S'.A.macs dk (vy g.ticket::g.conds.map qy) g.tag
omit W in
theorem Stp.path {S S':Ss} (h:Stp S S') {k:Tg} {m:List UInt8} (hp:pathIn S.A.macs k (m::S.p.cavs.map y9) S.p.tag):pathIn S'.A.macs k (m::S'.p.cavs.map y9) S'.p.tag:=by
 obtain ⟨c,h1,h2⟩:=h.add
 rw [h1,List.map_append,List.map_cons,List.map_nil,← List.cons_append]
 exact (hp.sub h.sub).snoc h2
theorem Stp.nar {con:Co} {se:Int} {S:Ss} {n m:Nat} (h:Good con se S n m) (hm:m≤1000) (hn:n≤6) {p:Pr} (hp:yc p=true):
  Stp S ⟨(yT S.A S.p [p]).1,(yT S.A S.p [p]).2.1,S.gs⟩:=by
 have hcv:xz (zR p)=true:=(CV.first p hp).ok
 have ha:=zds h.ain oo (p:=S.p) (c:=zR p) hcv (by have:=h.cl;omega) (fun hh=>by cases hh)
 have hn':yT S.A S.p [p]=((xS S.A S.p.tag (y9 (zR p))).1,⟨S.p.epoch,S.p.serial,S.p.cavs++[zR p],(xS S.A S.p.tag (y9 (zR p))).2.1⟩,0):=by
  simp only [yT]
  rw [ha]
  rfl
 obtain ⟨z1,z2⟩:=zcr h.ain oo S.p.tag (msg:=y9 (zR p)) (by have:=xP (zR p);omega)
 rw [hn']
 exact ⟨z2,_,rfl,z1⟩
theorem Good.thd {con:Co} {se mi:Int} {S:Ss} {n m:Nat} (h:Good con se S n m) (hm:m≤1000) (hn:n≤6) (c0:0≤con.party) (c7:con.party≤7) {bo:Int} (hf:zhu con.ps ann=(⟨ann,bo⟩,true)) (b0:-60000000≤bo) (b1:bo≤0) (m0:0≤mi) (m1:mi≤10000)
  {l:List Int} {f j:Nat} (hj:Dk l j) (hf2:f≤2) {R2:Alg × Di × Nat} (hR:zuN l f j (GR S con mi).1 (GR S con mi).2.1 R2):
  Good con se ⟨R2.1,(AD S con).2.1,S.gs++[R2.2.1]⟩ (n+1) (m+12)∧Dk l R2.2.2∧Stp S ⟨R2.1,(AD S con).2.1,S.gs++[R2.2.1]⟩∧Thd S ⟨R2.1,(AD S con).2.1,S.gs++[R2.2.1]⟩:=by
 obtain ⟨hk,hb2,hB⟩:=ziR h.ain oo (c:=con) (t:=⟨0,150⟩) rfl c0 c7
 have hBL:BL S con=_:=hB
 have okk:=h.ok.key
 have ok1:=okk.sealed con.key (zai S.A).1.fresh (jL (zai S.A).2.1 ⟨0,150⟩)
 have ink:=zfR h.ain
 have in1:=zdL ink con.key (zai S.A).1.fresh (jL (zai S.A).2.1 ⟨0,150⟩)
 have hpl:=zdl (zai S.A).2.1 ⟨0,150⟩ rfl
 have htl:=zeK okk hb2
 have hop:=zm1 okk (by have:=ink.bl;omega) hb2
 obtain ⟨hmem,hold,hnew⟩:=znt hb2
 obtain ⟨sf1,sf2,sf3,sf4⟩:=ze4 hb2
 have q1:∀ k b x,x6 S.A k b=(x,0)→x6 (vm (zai S.A).1 con.key (zai S.A).1.fresh (jL (zai S.A).2.1 ⟨0,150⟩)).1 k b=(x,0):=fun k b x hx=>zjD hb2 (by rw [zsY (by have:=h.ain.f1;omega)];exact hx)
 have hkf:(zai S.A).1.fresh=S.A.fresh+1:=by rw [hk]
 have hkb:(zai S.A).1.boxes=S.A.boxes:=by rw [hk]
 have hkm:(zai S.A).1.macs=S.A.macs:=by rw [hk]
 have hAD:AD S con=zbq (BL S con).1 S.p (BL S con).2.1:=rfl
 have hGR:GR S con mi=zaD (AD S con).1 con (BL S con).2.1.ticket ann mi:=rfl
 rw [hBL] at hAD hGR
 simp only at hAD hGR
 clear hB hBL
 generalize (zai S.A).2.1=kt at *
 have hrd:zrQ (jL kt ⟨0,150⟩)=(kt,⟨0,150⟩,0):=zox rfl
 generalize jL kt ⟨0,150⟩=pl at *
 generalize vm (zai S.A).1 con.key (zai S.A).1.fresh pl=X at *
 obtain ⟨a1,tk,e1⟩:=X
 simp only at *
 have tk1:1≤tk.length:=by omega
 have tk2:tk.length≤90:=by omega
 obtain ⟨A1,A2,A3,A4⟩:=zud ok1 in1 oo (p:=S.p) (b:=⟨con.party,kt,tk⟩) (by have:=h.cl;omega) (by have:=h.th;omega) c0 c7 tk1 (by simp only;omega)
 simp only at A1 A2 A3 A4
 rw [A4] at hAD
 have in2:=yN in1 S.p.tag (xw tk)
 have ok2:=ok1.mac S.p.tag (xw tk)
 have op2:=zaK A1 con.key tk
 rw [hop] at op2
 obtain ⟨f21,_,f23,f24⟩:=xJ A1
 have u2:=wi A1
 have q2:∀ k b x,x6 S.A k b=(x,0)→x6 (yJ a1 S.p.tag (xw tk)).1 k b=(x,0):=fun k b x hx=>by rw [zaK A1];exact q1 k b x hx
 have y2:=za6 A1
 generalize yJ a1 S.p.tag (xw tk)=Y at *
 obtain ⟨a2,t2,e2⟩:=Y
 simp only at *
 have in3:=zdL in2 t2 0 kt.1
 have ok3:=ok2.sealed t2 0 kt.1
 have op3:=zjD A2 op2
 obtain ⟨_,s31,s32⟩:=znt A2
 obtain ⟨f31,f32,f33,_⟩:=ze4 A2
 have bxl:=zeK ok2 A2
 rw [kt.2] at bxl
 have q3:∀ k b x,x6 S.A k b=(x,0)→x6 (vm a2 t2 0 kt.1).1 k b=(x,0):=fun k b x hx=>zjD A2 (q2 k b x hx)
 have y3:=zm1 ok2 (by have:=in2.bl;omega) A2
 generalize vm a2 t2 0 kt.1=Z at *
 obtain ⟨a3,bx,e3⟩:=Z
 simp only at *
 have hat:=zds in3 oo (p:=S.p) A3 (by have:=h.cl;omega) (fun _=>by have:=h.th;omega)
 have hcm:=xP ⟨true,x9,con.party,tk,bx⟩
 obtain ⟨n1,n2,n3⟩:=zdH in3 oo S.p.tag (msg:=y9 ⟨true,x9,con.party,tk,bx⟩) oo
 obtain ⟨_,k2,k3,k4⟩:=kV in3 oo S.p.tag (msg:=y9 ⟨true,x9,con.party,tk,bx⟩) oo
 have in4:=zcN in3 S.p.tag (y9 ⟨true,x9,con.party,tk,bx⟩)
 have ok4:=ok3.node in3 oo S.p.tag (msg:=y9 ⟨true,x9,con.party,tk,bx⟩) oo
 have op4:x6 (xS a3 S.p.tag (y9 ⟨true,x9,con.party,tk,bx⟩)).1 con.key tk=(pl,0):=by
  rw [n3];simp only;rw [zaK n2,zaK n1];exact op3
 have q4:∀ k b,x6 (xS a3 S.p.tag (y9 ⟨true,x9,con.party,tk,bx⟩)).1 k b=x6 a3 k b:=fun k b=>by rw [n3];simp only;rw [zaK n2,zaK n1]
 have v4:=(zcr in3 oo S.p.tag (msg:=y9 ⟨true,x9,con.party,tk,bx⟩) oo).1
 have u4:∀ e∈a3.macs,e∈(xS a3 S.p.tag (y9 ⟨true,x9,con.party,tk,bx⟩)).1.macs:=by rw [n3];exact fun e he=>wi n2 e (wi n1 e he)
 have w4:hidT (xS a3 S.p.tag (y9 ⟨true,x9,con.party,tk,bx⟩)).1.macs (xS a3 S.p.tag (y9 ⟨true,x9,con.party,tk,bx⟩)).2.1:=by rw [n3];exact (zgM n1 rfl).sub (wi n2)
 rw [hat] at hAD
 clear n1 n2 n3 hat hcm
 generalize (xS a3 S.p.tag (y9 ⟨true,x9,con.party,tk,bx⟩)).2.1=t4 at *
 generalize (xS a3 S.p.tag (y9 ⟨true,x9,con.party,tk,bx⟩)).1=a4 at *
 have hoT:zhI a4 con tk=(kt,⟨0,150⟩,0):=by
  unfold zhI;rw [op4];simp only;rw [if_neg (by simp)];exact hrd
 have hag:=zvO (b:=bo) m0 m1 b0 b1
 have hm1:(yJ a4 kt (vy tk)).2.2=0:=zfU _ (by simp [vy];omega) (by have:=in4.ml;omega)
 have hpv:yc (zig ann)=true:=by decide
 have in5:=yN in4 kt (vy tk)
 have ok5:=ok4.mac kt (vy tk)
 obtain ⟨f51,_,f53,f54⟩:=xJ hm1
 have u5:=wi hm1
 have q5:=zaK hm1
 have y5:=za6 hm1
 rw [hAD] at hGR
 have hG2:zaD a4 con tk ann mi=wD (yJ a4 kt (vy tk)).1 ⟨tk,[],(yJ a4 kt (vy tk)).2.1⟩ (zig ann):=by
  unfold zaD
  rw [if_neg (show ¬ zbO ann=false by decide),if_neg oo,hoT]
  simp only
  rw [if_neg (by simp),hf]
  simp only
  rw [if_neg (by simp),if_neg oo,if_pos hm1]
 simp only at hGR
 rw [hG2] at hGR
 generalize yJ a4 kt (vy tk)=V at *
 obtain ⟨a5,t5,e5⟩:=V
 simp only at *
 obtain ⟨r1,r2⟩:=zjT in5 oo (d:=⟨tk,[],t5⟩) hpv (show (zig ann).kind≠7 by decide) (by simp)
 simp only at r1 r2
 rw [r2] at hGR
 obtain ⟨f61,_,f63,f64⟩:=xJ r1
 have u6:=wi r1
 have q6:=zaK r1
 have y6:=za6 r1
 have w6:=zgM r1 rfl
 have in6:=yN in5 t5 (qy (zig ann))
 have ok6:=ok5.mac t5 (qy (zig ann))
 rw [hGR] at hR
 simp only at hR
 have hrg:=zm9 f j _ _ R2 (m+8) 1 hR hj (in6.more oo) ok6 (by simp) (fun p hp=>by
  simp only [List.nil_append,List.mem_singleton] at hp
  rw [hp];exact ⟨hpv,⟨by decide,by decide,by decide⟩,by decide⟩) oo oo
 obtain ⟨g1,g2,g3,g4,g5,g6,g7,g8,g9,g10,g11⟩:=hrg
 obtain ⟨v1,v2⟩:=zrP f j _ _ R2 (m+8) 1 hR (in6.more oo) (by simp) oo oo
 obtain ⟨A',g',j'⟩:=R2
 simp only at *
 have hbox:A'.boxes=a3.boxes:=by rw [g3,f64,f54,k4]
 have hfre:A'.fresh=S.A.fresh+1:=by rw [g4,f63,f53,k3,f33,f23,sf3,hkf]
 have hb31:∀ e∈a1.boxes,e∈a3.boxes:=fun e he=>s31 e (by rw [f24];exact he)
 have hbS:∀ e∈S.A.boxes,e∈a3.boxes:=fun e he=>hb31 e (hold e (by rw [hkb];exact he))
 have hf0:=h.ain.f0
 obtain ⟨e0,he0,he01,he02⟩:=hmem
 have hgl:=h.gl
 have in3b:=in3.bl
 have us:∀ e∈a4.macs,e∈A'.macs:=fun e he=>g10 e (u6 e (u5 e he))
 have uS:∀ e∈S.A.macs,e∈A'.macs:=fun e he=>us e (u4 e (by rw [f32];exact u2 e (by rw [sf2,hkm];exact he)))
 refine ⟨⟨g1.more oo,g2,by rw [hAD];exact h.ep,by rw [hAD];exact h.es,?_,fun c hc=>?_,?_,?_,fun g hg=>?_,fun e he=>?_,fun g hg=>?_,fun i q hi hq heq=>?_,by rw [hAD];exact w4.sub us,fun g hg=>?_⟩,g9,⟨uS,⟨true,x9,con.party,tk,bx⟩,by rw [hAD],by rw [hAD];exact v4.sub us⟩,⟨fun k b x hx=>?_,⟨true,x9,con.party,tk,bx⟩,t2,kt,g',by rw [hAD],rfl,rfl,us _ (u4 _ (by rw [f32];exact y2)),?_,g6,?_⟩⟩
 ·rw [hAD];have:=h.cl;simp;omega
 ·rw [hAD] at hc
  simp only at hc
  rcases List.mem_append.1 hc with hc | hc
  ·exact h.cv c hc
  ·rw [List.mem_singleton.1 hc];exact ⟨A3,zdp,by simp only;omega,by simp only;omega⟩
 ·rw [hAD];have:=zkZ S.p.cavs ⟨true,x9,con.party,tk,bx⟩;have:=h.th;simp only;omega
 ·simp;omega
 ·simp only at hg
  rcases List.mem_append.1 hg with hg | hg
  ·exact h.gv g hg
  ·rw [List.mem_singleton.1 hg]
   exact ⟨by rw [g6];exact tk1,by rw [g6];omega,by omega,g8⟩
 ·simp only at he ⊢
  rw [hbox] at he
  rw [hfre]
  rcases s32 e he with he | he
  ·rw [f24] at he
   rcases hnew e he with he | he
   ·rw [hkb] at he
    have:=h.nf e he
    omega
   ·rw [he,hkf];omega
  ·rw [he];omega
 ·simp only at hg ⊢
  rw [hbox]
  rcases List.mem_append.1 hg with hg | hg
  ·obtain ⟨e,he,h1,h2⟩:=h.gb g hg
   exact ⟨e,hbS e he,h1,h2⟩
  ·rw [List.mem_singleton.1 hg]
   exact ⟨e0,hb31 e0 he0,by rw [he01,g6],by rw [he02,hkf];omega⟩
 ·simp only [List.length_append,List.length_singleton] at hi hq
  have key:∀ i (hi:i < S.gs.length),(S.gs[i]).ticket≠tk:=fun i hi heq=>by
   obtain ⟨e,he,h1,h2⟩:=h.gb _ (List.getElem_mem hi)
   have:=zv2 ok3 oo (hbS e he) (hb31 e0 he0) (by rw [h1,he01,heq])
   rw [he02,hkf] at this
   have:=h.nf e he
   omega
  rcases Nat.lt_or_ge i S.gs.length with h1 | h1 <;> rcases Nat.lt_or_ge q S.gs.length with h2 | h2
  ·simp only [List.getElem_append_left h1,List.getElem_append_left h2] at heq
   exact h.gd i q h1 h2 heq
  ·obtain rfl:q=S.gs.length:=by omega
   simp only [List.getElem_append_left h1,List.getElem_append_right (Nat.le_refl _),Nat.sub_self,List.getElem_singleton,g6] at heq
   exact absurd heq (key i h1)
  ·obtain rfl:i=S.gs.length:=by omega
   simp only [List.getElem_append_left h2,List.getElem_append_right (Nat.le_refl _),Nat.sub_self,List.getElem_singleton,g6] at heq
   exact absurd heq.symm (key q h2)
  ·omega
 ·rcases List.mem_append.1 hg with hg | hg
  ·exact (h.gt g hg).sub uS
  ·rw [List.mem_singleton.1 hg];exact g11 w6
 ·show x6 A' k b=(x,0)
  rw [v1,q6,q5,q4]
  exact q3 k b x hx
 ·show x6 A' t2 bx=(kt.1,0)
  rw [v1,q6,q5,q4]
  exact y3
 ·show chIn A'.macs kt (vy g'.ticket::g'.conds.map qy) g'.tag
  rw [g6]
  exact v2 kt [vy tk] ⟨t5,u6 _ y5,_,y6,rfl⟩
structure Vok (key:Tg) (m0:List UInt8) (S:Ss):Prop where
 th:∀ (i:Nat) (c:Ca),S.p.cavs[i]?=some c→c.third=true→∃ tg sk dk g,pathIn S.A.macs key (m0::(S.p.cavs.take i).map y9) tg∧(⟨tg,xw c.ticket,sk⟩:MacE)∈S.A.macs∧x6 S.A sk c.box=((dk:Tg).1,0) ∧
  g∈S.gs∧g.ticket=c.ticket∧chIn S.A.macs dk (vy g.ticket::g.conds.map qy) g.tag
 ex:∀ g∈S.gs,∃ c∈S.p.cavs,c.third=true∧c.ticket=g.ticket
theorem Vok.old {key:Tg} {m0:List UInt8} {S S':Ss} (h:Vok key m0 S) (hs:∀ e∈S.A.macs,e∈S'.A.macs) (ho:∀ k b x,x6 S.A k b=(x,0)→x6 S'.A k b=(x,0)) (hg:∀ g∈S.gs,g∈S'.gs) {c1:Ca} (hc:S'.p.cavs=S.p.cavs++[c1])
  (i:Nat) (c:Ca) (hi:i < S.p.cavs.length) (hic:S'.p.cavs[i]?=some c) (h3:c.third=true):∃ tg sk dk g,pathIn S'.A.macs key (m0::(S'.p.cavs.take i).map y9) tg∧(⟨tg,xw c.ticket,sk⟩:MacE)∈S'.A.macs∧x6 S'.A sk c.box=((dk:Tg).1,0) ∧
  g∈S'.gs∧g.ticket=c.ticket∧chIn S'.A.macs dk (vy g.ticket::g.conds.map qy) g.tag:=by
 rw [hc,List.getElem?_append_left hi] at hic
 obtain ⟨tg,sk,dk,g,k1,k2,k3,k4,k5,k6⟩:=h.th i c hic h3
 refine ⟨tg,sk,dk,g,?_,hs _ k2,ho _ _ _ k3,hg g k4,k5,k6.sub hs⟩
 rw [hc,List.take_append_of_le_length oo]
 exact k1.sub hs
theorem Vok.plain {key:Tg} {m0:List UInt8} {S S':Ss} (h:Vok key m0 S) (hs:∀ e∈S.A.macs,e∈S'.A.macs) (ho:∀ k b x,x6 S.A k b=(x,0)→x6 S'.A k b=(x,0)) (hg:S'.gs=S.gs) {c1:Ca} (hc:S'.p.cavs=S.p.cavs++[c1]) (h1:c1.third=false):Vok key m0 S':=by
 refine ⟨fun i c hic h3=>?_,fun g hgs=>?_⟩
 ·by_cases hi:i < S.p.cavs.length
  ·exact h.old hs ho (fun g hgg=>by rw [hg];exact hgg) hc i c hi hic h3
  ·rw [hc,List.getElem?_append_right oo,List.getElem?_singleton] at hic
   split at hic
   ·cases hic
    rw [h1] at h3
    cases h3
   ·cases hic
 ·rw [hg] at hgs
  obtain ⟨c,k1,k2,k3⟩:=h.ex g hgs
  exact ⟨c,by rw [hc];exact List.mem_append_left _ k1,k2,k3⟩
theorem Vok.thd {key:Tg} {m0:List UInt8} {S S':Ss} (h:Vok key m0 S) (hs:∀ e∈S.A.macs,e∈S'.A.macs) (hp:pathIn S.A.macs key (m0::S.p.cavs.map y9) S.p.tag) (ht:Thd S S'):Vok key m0 S':=by
 obtain ⟨ho,c1,sk,dk,g1,hc,hg,h1,k1,k2,k3,k4⟩:=ht
 refine ⟨fun i c hic h3=>?_,fun g hgs=>?_⟩
 ·by_cases hi:i < S.p.cavs.length
  ·exact h.old hs ho (fun g hgg=>by rw [hg];exact List.mem_append_left _ hgg) hc i c hi hic h3
  ·have hic2:=hic
   rw [hc,List.getElem?_append_right oo,List.getElem?_singleton] at hic2
   split at hic2
   ·cases hic2
    have hi2:i=S.p.cavs.length:=by omega
    subst hi2
    refine ⟨S.p.tag,sk,dk,g1,?_,k1,k2,by rw [hg];exact List.mem_append_right _ (List.mem_singleton.2 rfl),k3,k4⟩
    rw [hc,List.take_append_of_le_length (Nat.le_refl _),List.take_length]
    exact hp.sub hs
   ·cases hic2
 ·rw [hg] at hgs
  rcases List.mem_append.1 hgs with hgs | hgs
  ·obtain ⟨c,k1,k2,k3⟩:=h.ex g hgs
   exact ⟨c,by rw [hc];exact List.mem_append_left _ k1,k2,k3⟩
  ·rw [List.mem_singleton.1 hgs]
   exact ⟨c1,by rw [hc];exact List.mem_append_right _ (List.mem_singleton.2 rfl),h1,k3.symm⟩
theorem zsW {con:Co} {se:Int} {S:Ss} {n m:Nat} (h:Good con se S n m) (hm:m≤1000) (hn:n≤6) {p:Pr} (hp:yc p=true):∀ k b x,x6 S.A k b=(x,0)→x6 (yT S.A S.p [p]).1 k b=(x,0):=by
 have hcv:xz (zR p)=true:=(CV.first p hp).ok
 have ha:=zds h.ain oo (p:=S.p) (c:=zR p) hcv (by have:=h.cl;omega) (fun hh=>by cases hh)
 have hn':yT S.A S.p [p]=((xS S.A S.p.tag (y9 (zR p))).1,⟨S.p.epoch,S.p.serial,S.p.cavs++[zR p],(xS S.A S.p.tag (y9 (zR p))).2.1⟩,0):=by
  simp only [yT]
  rw [ha]
  rfl
 obtain ⟨n1,n2,n3⟩:=zdH h.ain oo S.p.tag (msg:=y9 (zR p)) (by have:=xP (zR p);omega)
 intro k b x hx
 rw [hn']
 simp only
 rw [n3]
 simp only
 rw [zaK n2,zaK n1]
 exact hx
theorem zsV {con:Co} {se:Int} {S:Ss} {n m:Nat} (h:Good con se S n m) (hm:m≤1000) (hn:n≤6) {p:Pr} (hp:yc p=true):(yT S.A S.p [p]).2.1.cavs=S.p.cavs++[zR p]:=by
 have hcv:xz (zR p)=true:=(CV.first p hp).ok
 have ha:=zds h.ain oo (p:=S.p) (c:=zR p) hcv (by have:=h.cl;omega) (fun hh=>by cases hh)
 simp only [yT]
 rw [ha]
 rfl
theorem zoJ {l:List Int} {con:Co} {se mi:Int} (c0:0≤con.party) (c7:con.party≤7) {bo:Int} (hf:zhu con.ps ann=(⟨ann,bo⟩,true)) (b0:-60000000≤bo) (b1:bo≤0) (m0:0≤mi) (m1:mi≤10000):
  ∀ (f j n m:Nat) (S:Ss),Dk l j→Good con se S n m→f+n≤6→m+12 * f≤1000→∃ R,zwC l con mi f j S R∧Good con se R.1 (n+f) (m+12 * f)∧Dk l R.2∧∀ k m,pathIn S.A.macs k (m::S.p.cavs.map y9) S.p.tag→pathIn R.1.A.macs k (m::R.1.p.cavs.map y9) R.1.p.tag∧(Vok k m S→Vok k m R.1)
 | 0,j,n,m,S,hj,hS,_,_=>⟨_,rfl,hS,hj,fun _ _ h=>⟨h,fun h=>h⟩⟩
 | f+1,j,n,m,S,hj,hS,h1,h2=>by
  have d1:=yu 4 hj
  by_cases hx:(yl l j 4).1=0
  ·have d2:=yu 3 d1
   have b2:=y7 l (yl l j 4).2 3 oo
   obtain ⟨R2,hR2⟩:=zrO (yl l (yl l j 4).2 3).1 (yl l (yl l j 4).2 3).2 (GR S con mi).1 (GR S con mi).2.1 d2
   obtain ⟨hg,hd,hst,hth⟩:=hS.thd oo oo c0 c7 hf b0 b1 m0 m1 d2 oo hR2
   obtain ⟨R,hR,hG,hD,hP⟩:=zoJ c0 c7 hf b0 b1 m0 m1 f R2.2.2 (n+1) (m+12) _ hd hg oo oo
   refine ⟨R,⟨fun h=>absurd hx h,fun _=>⟨R2,hR2,hR⟩⟩,?_,hD,fun k m h=>⟨(hP k m (hst.path h)).1,fun hv=>(hP k m (hst.path h)).2 (hv.thd hst.sub h hth)⟩⟩
   rw [show n+(f+1)=n+1+f by omega,show m+12 * (f+1)=m+12+12 * f by omega]
   exact hG
  ·obtain ⟨p,j1,hp⟩:=zkG d1 true
   have hg:=hS.nar oo oo hp.1 hp.2.1
   have hst:=Stp.nar hS oo oo hp.1
   obtain ⟨R,hR,hG,hD,hP⟩:=zoJ c0 c7 hf b0 b1 m0 m1 f j1 (n+1) (m+12) _ hp.2.2.2.1 { hg with ain:=hg.ain.more oo } oo oo
   refine ⟨R,⟨fun _=>⟨p,j1,hp,hR⟩,fun h=>absurd h hx⟩,?_,hD,fun k m h=>⟨(hP k m (hst.path h)).1,fun hv=>(hP k m (hst.path h)).2 (hv.plain hst.sub (zsW hS oo oo hp.1) rfl (zsV hS oo oo hp.1) rfl)⟩⟩
   rw [show n+(f+1)=n+1+f by omega,show m+12 * (f+1)=m+12+12 * f by omega]
   exact hG
end
section
variable [W:W32]
def aF:Alg:=⟨true,zeroTag,0,[],[]⟩
omit W in
theorem zld:AlgIn aF 0:=⟨by simp [aF],by simp [aF],by simp [aF],by simp [aF],fun e he=>by simp [aF] at he,fun e he=>by simp [aF] at he⟩
def L2:List MacE:=[⟨zeroTag,yX 1,vW 109 1⟩,⟨vW 109 1,nodeB,vW 109 2⟩]
end
section
variable [W:W32]
def wn (a:Alg):List Tg→Tg→List (List UInt8)→Option (List Tg)
 | acc,_,[]=>some acc
 | acc,k,m::r=>match vq a k m with
  | none=>none
  | some t=>wn a (acc++[t]) t r
def zdV (ser:Int) (l:List Ca):List (List UInt8):=yX ser.toNat::l.map y9
def zdW:Option (List Tg)→List Tg × Nat
 | none=>([],19)
 | some ts=>(ts,0)
def zfe (a:Alg) (num:Int) (key:Tg) (ser:Int) (l:List Ca):List Tg × Nat:=
 if num < 1∨1000 < num∨ser < 1∨1073741824 < ser then ([],1) else if (l.any fun c=>!xz c)=true then ([],5) else zdW (wn a [] key (zdV ser l))
theorem zdo {a:Alg} (ok:AlgOk a):∀ {L:List (List UInt8)} {k t:Tg} {acc:List Tg},pathIn a.macs k L t →
  ∃ ts,wn a acc k L=some (acc++ts)∧ts.length=L.length∧(∀ x∈ts,∃ id,(⟨x,nodeB,id⟩:MacE)∈a.macs)∧(k::ts)[L.length]?=some t∧∀ m t',vq a t m=some t'→wn a acc k (L++[m])=some (acc++ts++[t'])
 | [],k,t,acc,h=>by
  have h:k=t:=h
  subst h
  exact ⟨[],by simp [wn],rfl,fun x hx=>(by cases hx),rfl,fun m t' h=>by simp [wn,h]⟩
 | m::r,k,t,acc,h=>by
  obtain ⟨t1,⟨h1,id,h2⟩,h3⟩:=h
  have hl:=q7 ok h1
  simp only at hl
  obtain ⟨ts,k1,k2,k3,k4,k5⟩:=zdo ok (acc:=acc++[t1]) h3
  refine ⟨t1::ts,?_,?_,?_,?_,?_⟩
  ·rw [wn,hl];simp only;rw [k1];simp
  ·simp [k2]
  ·intro x hx
   rcases List.mem_cons.1 hx with rfl | hx
   ·exact ⟨id,h2⟩
   ·exact k3 x hx
  ·rw [List.length_cons,List.getElem?_cons_succ];exact k4
  ·intro m' t' ht
   rw [List.cons_append,wn,hl]
   simp only
   rw [k5 m' t' ht];simp
end
section
variable [W:W32]
end
end Go.Proofs.YtglmjglbobhbbaaGreatDoor
