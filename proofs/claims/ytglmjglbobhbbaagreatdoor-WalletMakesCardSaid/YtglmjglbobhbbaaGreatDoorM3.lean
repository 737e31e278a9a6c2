/- Texts A15, A16, B1, B2, joined. -/
import Derived.Test.YtglmjglbobhbbaaGreatDoorM2
import Derived.Laws.StructEq
import Derived.ChangeKeysEq
import Derived.Lib.AppendZerosOnto
import Derived.Scope
namespace Go.Ab
open Go.RowKit
inductive EqSh where
 | bool
 | int
 | str
 | bytes (n:Nat)
 | agg (l:List EqSh)
mutual
def EqSh.size:EqSh→Nat
 | .bytes n=>n
 | .agg l=>EqSh.sizes l
 | _=>1
def EqSh.sizes:List EqSh→Nat
 | []=>0
 | x::r=>EqSh.size x+EqSh.sizes r
end
def EqSh.isAgg:EqSh→Bool
 | .bytes _=>true
 | .agg _=>true
 | _=>false
def za3:List AV→Option (List UInt8)
 | []=>some []
 | .lit (.int .u8 n)::r=>if 0≤n∧n < 256 then (za3 r).map (UInt8.ofNat n.toNat::·) else none
 | _::_=>none
theorem jH:∀ {xs:List AV} {bs:List UInt8},za3 xs=some bs→xs=bs.map za
 | [],bs,h=>by simp [za3] at h;subst h;rfl
 | x::r,bs,h=>by
  unfold za3 at h
  split at h
  ·rename_i e;simp at e
  ·rename_i n r' e
   simp at e
   obtain ⟨rfl,rfl⟩:=e
   split at h
   ·rename_i hn
    cases hr:za3 r with
    | none=>rw [hr] at h;cases h
    | some q=>
     rw [hr] at h
     cases h
     rw [jH hr]
     simp only [List.map_cons,za]
     congr 3
     rw [UInt8.toNat_ofNat']
     omega
   ·cases h
  ·cases h
theorem zec (bs:List UInt8):za3 (bs.map za)=some bs:=by
 induction bs with
 | nil=>rfl
 | cons b r ih=>
  have:=b.toNat_lt
  simp only [List.map_cons,za,za3,Int.toNat_natCast,UInt8.ofNat_toNat]
  rw [if_pos oo]
  rw [ih]
  rfl
mutual
def eqA:EqSh→AV→AV→Option Bool
 | .bool,.lit (.bool a),.lit (.bool b)=>some (a == b)
 | .int,.lit (.int k a),.lit (.int k' b)=>if k=k' then some (a == b) else none
 | .str,.lit (.string a),.lit (.string b)=>some (a.toList == b.toList)
 | .bytes n,.agg xs,.agg ys=>match za3 xs,za3 ys with
  | some a,some b=>if a.length=n∧b.length=n then some (a == b) else none
  | _,_=>none
 | .agg l,.agg xs,.agg ys=>zpT l xs ys
 | _,_,_=>none
def zpT:List EqSh→List AV→List AV→Option Bool
 | [],[],[]=>some true
 | s::l,x::xs,y::ys=>match eqA s x y,zpT l xs ys with
  | some a,some b=>some (a && b)
  | _,_=>none
 | _,_,_=>none
end
def zeX (P:Program):List Field→List EqSh→Nat→Bool
 | [],[],_=>true
 | f :: fs, s :: l, off => f.name != "_" && f.offset == off && zqt P f.type s.isAgg s.size && zeX P fs l (off + s.size)
 | _,_,_=>false
def zi1 (P:Program):Nat→TypeId→Option EqSh
 | 0,_=>none
 | m+1,t=>match P.underlying t with
  | some .bool=>some .bool
  | some (.int _)=>some .int
  | some .string=>some .str
  | some (.array n e)=>match P.underlying e,P.info? e with
   | some (.int .u8),some i=>if i.size == 1 then some (.bytes n) else none
   | _,_=>none
  | some (.struct fs)=>match fs.toList.mapM fun f=>zi1 P m f.type with
   | some l=>if zeX P fs.toList l 0 && !(P.stoodInHeld t) && (P.info? t).isSome then some (.agg l) else none
   | none=>none
  | _=>none
section
variable {P:Program}
theorem ziB {g:Ghost} {x:AV} {v:Value} (hr:Rep g x v) {t:TypeId} (ht:zqt P t x.isAgg x.sz=true) (hx:x.isAgg=true∨x.one=true) {cs:Array Value} {off:Nat} (hc:∀ (j:Nat) (u:Value),v.cells.toList[j]?=some u→cs.toList[off+j]?=some u) (hfit:off+v.cells.size≤cs.size) (w:World):
  (part t cs off).run P w=.ok v w:=by
 obtain ⟨h1,h2⟩:=zk0 ht w
 unfold part
 rw [Sem.run_bind,h1]
 simp only [Result.andThen_ok]
 cases ha:x.isAgg with
 | true=>
  cases hr <;> simp [AV.isAgg] at ha
  case agg xs vs hvl hvr=>
   simp only [if_true,Sem.run_bind,h2,Result.andThen_ok,Sem.run_pure]
   have hsz:(yG vs).length=(AV.agg xs).sz:=by
    have:=(Rep.agg (g:=g) xs vs hvl hvr).size
    simpa [Value.cells] using this
   congr 2
   apply Array.ext'
   simp only [vY,List.size_toArray] at hfit
   have e:(cs.extract off (off+(AV.agg xs).sz)).toList=(cs.toList.drop off).take (AV.agg xs).sz:=by
    simp [Array.toList_extract,List.extract]
   rw [e,← hsz]
   apply List.ext_getElem?
   intro j
   rw [List.getElem?_take]
   split
   ·rename_i hj
    rw [List.getElem?_drop,List.getElem?_eq_getElem hj]
    exact hc j _ (by rw [vY,List.toList_toArray,List.getElem?_eq_getElem hj])
   ·rename_i hj
    symm
    rw [List.getElem?_eq_none_iff]
    simp only
    omega
 | false=>
  have h1':x.one=true:=by
   rcases hx with hx | hx
   ·rw [ha] at hx;cases hx
   ·exact hx
  have hcv:=hr.cells_one h1'
  have:=hc 0 v (by rw [hcv];rfl)
  simp only [Nat.add_zero,Array.getElem?_toList] at this
  simp only [Bool.false_eq_true,if_false,this,Sem.run_pure]
def zvH (P:Program) (d:Nat) (t:TypeId) (x y:AV) (r:Bool):Prop:=∀ (g:Ghost) (u v:Value) (w:World),Rep g x u→Rep g y v→(Op.equalIn d t u v).run P w=.ok r w
theorem zsB {sh:EqSh} {x y:AV} {r:Bool} (h:eqA sh x y=some r):x.isAgg=sh.isAgg∧y.isAgg=sh.isAgg∧(x.isAgg=true∨x.one=true)∧(y.isAgg=true∨y.one=true):=by
 unfold eqA at h
 split at h <;> first | (cases h;done) | simp [AV.isAgg,EqSh.isAgg,AV.one]
mutual
theorem zo2 {g:Ghost}:∀ {sh:EqSh} {x y:AV} {r:Bool},eqA sh x y=some r→x.sz=sh.size∧y.sz=sh.size
 | .bool,x,y,r,h=>by
  unfold eqA at h
  split at h <;> first | (cases h;done) | simp_all [AV.sz,EqSh.size]
 | .int,x,y,r,h=>by
  unfold eqA at h
  split at h <;> first | (cases h;done) | simp_all [AV.sz,EqSh.size]
 | .str,x,y,r,h=>by
  unfold eqA at h
  split at h <;> first | (cases h;done) | simp_all [AV.sz,EqSh.size]
 | .bytes n,x,y,r,h=>by
  unfold eqA at h
  split at h <;> first | (cases h;done) | skip
  all_goals try (rename_i e;cases e;done)
  rename_i n' xs ys e
  cases e
  split at h
  ·rename_i a b ha hb
   split at h
   ·rename_i hl
    rw [jH ha,jH hb]
    have hu:∀ l:List UInt8,AV.szl (l.map za)=l.length:=fun l=>by
     rw [AV.szl_uniform _ 1 fun x hx=>by obtain ⟨b,_,rfl⟩:=List.mem_map.1 hx;rfl];simp
    simp only [AV.sz,hu,EqSh.size]
    exact hl
   ·cases h
  ·cases h
 | .agg l,x,y,r,h=>by
  unfold eqA at h
  split at h <;> first | (cases h;done) | skip
  all_goals try (rename_i e;cases e;done)
  rename_i l' xs ys e
  cases e
  have:=zmC (g:=g) h
  simpa only [AV.sz,EqSh.size] using this
theorem zmC {g:Ghost}:∀ {l:List EqSh} {xs ys:List AV} {r:Bool},zpT l xs ys=some r→AV.szl xs=EqSh.sizes l∧AV.szl ys=EqSh.sizes l
 | [],xs,ys,r,h=>by
  unfold zpT at h
  split at h <;> first | (cases h;done) | simp_all [AV.szl,EqSh.sizes]
 | s::l,xs,ys,r,h=>by
  unfold zpT at h
  split at h <;> first | (cases h;done) | skip
  all_goals try (rename_i e;cases e;done)
  rename_i s' l' x xs y ys e
  cases e
  split at h
  ·rename_i a b ha hb
   obtain ⟨h1,h2⟩:=zo2 (g:=g) ha
   obtain ⟨h3,h4⟩:=zmC (g:=g) hb
   simp only [AV.szl,EqSh.sizes,h1,h2,h3,h4,and_self]
  ·cases h
end
theorem zfi (d:Nat) (g:Ghost) (w:World):∀ (fs:List Field) (l:List EqSh) (off:Nat) (xs ys:List AV) (us vs:List Value) (cx cy:Array Value) (r:Bool),zeX P fs l off=true→zpT l xs ys=some r →
  (∀ (i:Nat) (f:Field) (s:EqSh),fs[i]?=some f→l[i]?=some s→∀ x y r,eqA s x y=some r→zvH P d f.type x y r) →
  us.length=xs.length→vs.length=ys.length→(∀ (i:Nat) (x:AV) (v:Value),xs[i]?=some x→us[i]?=some v→Rep g x v)→(∀ (i:Nat) (x:AV) (v:Value),ys[i]?=some x→vs[i]?=some v→Rep g x v) →
  (∀ (j:Nat) (u:Value),(yG us)[j]?=some u→cx.toList[off+j]?=some u)→(∀ (j:Nat) (u:Value),(yG vs)[j]?=some u→cy.toList[off+j]?=some u)→off+(yG us).length≤cx.size→off+(yG vs).length≤cy.size →
  (Op.eqFields d cx cy fs).run P w=.ok r w
 | [],l,off,xs,ys,us,vs,cx,cy,r,hf,he,_,_,_,_,_,_,_,_,_=>by
  cases l with
  | nil=>
   cases xs <;> cases ys <;> simp [zpT] at he
   subst he
   simp [Op.eqFields]
  | cons s l=>simp [zeX] at hf
 | f::fs,l,off,xs,ys,us,vs,cx,cy,r,hf,he,IH,hul,hvl,hur,hvr,hcx,hcy,hlx,hly=>by
  cases l with
  | nil=>simp [zeX] at hf
  | cons s l=>
   simp only [zeX,Bool.and_eq_true,bne_iff_ne,ne_eq,beq_iff_eq] at hf
   obtain ⟨⟨⟨hn,ho⟩,ht⟩,hrest⟩:=hf
   cases xs with
   | nil=>cases ys <;> simp [zpT] at he
   | cons x xs=>
   cases ys with
   | nil=>simp [zpT] at he
   | cons y ys=>
   unfold zpT at he
   split at he
   ·rename_i a b ha hb
    cases he
    cases us with
    | nil=>simp at hul
    | cons u us=>
    cases vs with
    | nil=>simp at hvl
    | cons v vs=>
    have hru:Rep g x u:=hur 0 x u rfl rfl
    have hrv:Rep g y v:=hvr 0 y v rfl rfl
    obtain ⟨f1,f2,f3,f4⟩:=zsB ha
    obtain ⟨z1,z2⟩:=zo2 (g:=g) ha
    rw [xX] at hcx hcy hlx hly
    have lu:u.cells.toList.length=s.size:=by rw [Array.length_toList,hru.size,z1]
    have lv:v.cells.toList.length=s.size:=by rw [Array.length_toList,hrv.size,z2]
    rw [List.length_append,lu] at hlx
    rw [List.length_append,lv] at hly
    have p1:=ziB (P:=P) hru (t:=f.type) (by rw [f1,z1];exact ht) f3 (cs:=cx) (off:=f.offset) (fun j q hq=>by
     rw [ho]
     refine hcx j q ?_
     rw [List.getElem?_append_left (List.getElem?_eq_some_iff.1 hq).1];exact hq) (by rw [ho,← Array.length_toList,lu];omega) w
    have p2:=ziB (P:=P) hrv (t:=f.type) (by rw [f2,z2];exact ht) f4 (cs:=cy) (off:=f.offset) (fun j q hq=>by
     rw [ho]
     refine hcy j q ?_
     rw [List.getElem?_append_left (List.getElem?_eq_some_iff.1 hq).1];exact hq) (by rw [ho,← Array.length_toList,lv];omega) w
    have p3:=IH 0 f s rfl rfl x y a ha g u v w hru hrv
    have p4:=zfi d g w fs l (off+s.size) xs ys us vs cx cy b hrest hb (fun i f' s' h1 h2=>IH (i+1) f' s' h1 h2) (by simpa using hul) (by simpa using hvl) (fun i x v h1 h2=>hur (i+1) x v h1 h2) (fun i x v h1 h2=>hvr (i+1) x v h1 h2)
     (fun j q hq=>by
      have:=hcx (s.size+j) q (by rw [List.getElem?_append_right oo,lu,Nat.add_sub_cancel_left];exact hq)
      rw [Nat.add_assoc];exact this) (fun j q hq=>by
      have:=hcy (s.size+j) q (by rw [List.getElem?_append_right oo,lv,Nat.add_sub_cancel_left];exact hq)
      rw [Nat.add_assoc];exact this) oo oo
    simp only [Op.eqFields,hn,ne_eq,not_false_eq_true,if_true,Sem.run_bind,p1,p2,p3,Result.andThen_ok]
    cases a
    ·simp
    ·simpa using p4
   ·cases he
theorem zrw {α β:Type} {F:α→Option β}:∀ {l:List α} {r:List β},l.mapM F=some r→∀ (i:Nat) (x:α) (y:β),l[i]?=some x→r[i]?=some y→F x=some y
 | [],r,h=>by intro i x y hx;simp at hx
 | a::l,r,h=>by
  rw [List.mapM_cons] at h
  simp only [bind,Option.bind_eq_some_iff,pure,Option.some.injEq] at h
  obtain ⟨b,hb,bs,hbs,rfl⟩:=h
  intro i x y hx hy
  cases i with
  | zero=>simp at hx hy;subst hx;subst hy;exact hb
  | succ i=>exact zrw hbs i x y (by simpa using hx) (by simpa using hy)
theorem zjX (d:Nat) {e:TypeId} (he:P.underlying e=some (.int .u8)) (w:World) (a b:List UInt8) (hl:a.length=b.length):∀ (k i:Nat),i+k=a.length →
  (Op.eqItems (d+1) e 1 (a.map fun c=>Value.int .u8 (c.toNat:Int)).toArray (b.map fun c=>Value.int .u8 (c.toNat:Int)).toArray (List.range' i k)).run P w=.ok (a.drop i == b.drop i) w
 | 0,i,hi=>by
  simp [Op.eqItems]
  rw [List.drop_eq_nil_of_le oo,List.drop_eq_nil_of_le oo]
 | k+1,i,hi=>by
  have h1:i < a.length:=by omega
  have h2:i < b.length:=by omega
  have ha:(isAgg e).run P w=.ok false w:=by simp [isAgg,run_underlying he]
  have pa:∀ c:List UInt8,(hc:i < c.length)→(part e (c.map fun c=>Value.int .u8 (c.toNat:Int)).toArray (i * 1)).run P w=.ok (.int .u8 (c[i].toNat:Int)) w:=fun c hc=>by
   simp [part,ha,hc]
  have ih:=zjX d he w a b hl k (i+1) oo
  have hdec:((a[i].toNat:Int) == (b[i].toNat:Int))=(a[i] == b[i]):=by
   rw [Bool.eq_iff_iff]
   simp only [beq_iff_eq]
   constructor
   ·intro h;exact UInt8.toNat_inj.1 oo
   ·intro h;rw [h]
  rw [List.range'_succ]
  simp only [Op.eqItems,Sem.run_bind,pa a h1,pa b h2,Result.andThen_ok,run_equalIn_int w d e .u8 .u8 _ _ he,hdec]
  rw [List.drop_eq_getElem_cons h1,List.drop_eq_getElem_cons h2]
  cases hb:a[i] == b[i]
  ·have:(a[i]::a.drop (i+1) == b[i]::b.drop (i+1))=false:=by
    simp only [List.cons_beq_cons,hb,Bool.false_and]
   rw [this];simp
  ·have:(a[i]::a.drop (i+1) == b[i]::b.drop (i+1))=(a.drop (i+1) == b.drop (i+1)):=by
    simp only [List.cons_beq_cons,hb,Bool.true_and]
   rw [this];simpa using ih
theorem zgp:∀ (m:Nat) (t:TypeId) (sh:EqSh),zi1 P m t=some sh→∀ (d:Nat) (x y:AV) (r:Bool),eqA sh x y=some r→zvH P (d+m+1) t x y r
 | 0,t,sh,h=>by simp [zi1] at h
 | m+1,t,sh,h=>by
  intro d x y r he g u v w hu hv
  unfold zi1 at h
  split at h
  ·rename_i ht
   cases h
   unfold eqA at he
   split at he <;> first | (cases he;done) | skip
   all_goals try (rename_i e;cases e;done)
   cases he
   rw [zN hu,zN hv]
   exact zbC ht _ _ _ w
  ·rename_i k ht
   cases h
   unfold eqA at he
   split at he <;> first | (cases he;done) | skip
   all_goals try (rename_i e;cases e;done)
   split at he
   ·rename_i hk
    subst hk
    cases he
    rw [zN hu,zN hv]
    exact run_equalIn_int w _ t _ _ _ _ ht
   ·cases he
  ·rename_i ht
   cases h
   unfold eqA at he
   split at he <;> first | (cases he;done) | skip
   all_goals try (rename_i e;cases e;done)
   cases he
   rw [zN hu,zN hv]
   exact run_equalIn_string w _ t _ _ ht
  ·rename_i n e ht
   split at h
   ·rename_i i he' hi
    split at h
    ·rename_i hsz
     cases h
     unfold eqA at he
     split at he <;> first | (cases he;done) | skip
     all_goals try (rename_i e;cases e;done)
     rename_i n' xs ys e1
     cases e1
     split at he
     ·rename_i a b ha hb
      split at he
      ·rename_i hl
       cases he
       obtain ⟨hl1,hl2⟩:=hl
       rw [jH ha] at hu
       rw [jH hb] at hv
       cases hu with
       | agg _ us hul hur=>
       cases hv with
       | agg _ vs hvl hvr=>
       rw [zjS hul hur,zjS hvl hvr,zda _ (fun v hv=>by obtain ⟨b,_,rfl⟩:=List.mem_map.1 hv;rfl),zda _ (fun v hv=>by obtain ⟨b,_,rfl⟩:=List.mem_map.1 hv;rfl)]
       have hc:P.cellsOf e=1:=by
        simp only [Program.cellsOf,hi]
        simpa using hsz
       rw [show d+(m+1)+1=(d+m+1)+1 from by omega,run_equalIn_array w (d+m+1) _ _ ht hi,hc,List.range_eq_range']
       have:=zjX (P:=P) (d+m) he' w a b oo n 0 oo
       simpa using this
      ·cases he
     ·cases he
    ·cases h
   ·cases h
  ·rename_i fs ht
   split at h
   ·rename_i l hl
    split at h
    ·rename_i hc
     cases h
     simp only [Bool.and_eq_true,Bool.not_eq_true'] at hc
     obtain ⟨⟨hc1,hc2⟩,_⟩:=hc
     unfold eqA at he
     split at he <;> first | (cases he;done) | skip
     all_goals try (rename_i e;cases e;done)
     rename_i l' xs ys e1
     cases e1
     cases hu with
     | agg _ us hul hur=>
     cases hv with
     | agg _ vs hvl hvr=>
     have hfs:P.fieldsOf t=fs:=by simp [Program.fieldsOf,ht]
     rw [show d+(m+1)+1=(d+m+1)+1 from by omega,run_equalIn_struct w (d+m+1) t _ _ (by rw [hfs];exact ht) hc2,hfs]
     exact zfi (P:=P) (d+m+1) g w fs.toList l 0 xs ys us vs _ _ r hc1 he (fun i f s h1 h2 x y r hr=>zgp m f.type s (zrw hl i f s h1 h2) d x y r hr) hul hvl hur hvr
      (fun j q hq=>by rw [Nat.zero_add];exact hq) (fun j q hq=>by rw [Nat.zero_add];exact hq) (by simp) (by simp)
    ·cases h
   ·cases h
  ·cases h
def zkm (P:Program) (t:TypeId):Option EqSh:=if P.eqGuardType P.depth t then none else zi1 P 8 t
def zmE (P:Program) (op:BinOp) (t:TypeId) (x y:AV):Option Bool:=
 match zkm P t with
 | some sh=>match eqA sh x y with
  | some r=>match op with
   | .eql=>some r
   | .neq=>some !r
   | _=>none
  | none=>none
 | none=>none
theorem zrh {o:Oper} {s:Slots} {id:Nat} {op:BinOp} {t yt:TypeId} {x y:Operand} {xs ys:List AV} {r:Bool} (ho:o.op=.binOp op t x y yt) (hx:zl s x=.agg xs) (hy:zl s y=.agg ys) (h:zmE P op t (.agg xs) (.agg ys)=some r):
  OpHolds P o s id [] (.lit (.bool r)) []:=
 yj fun g w a hr=>by
  have h1:=hr x (by simp [ho,Op.operands])
  have h2:=hr y (by simp [ho,Op.operands])
  rw [hx] at h1
  rw [hy] at h2
  refine ⟨.bool r,?_,.lit _ rfl⟩
  unfold zmE zkm at h
  split at h
  ·rename_i sh hsh
   split at hsh
   ·cases hsh
   ·rename_i hg
    split at h
    ·rename_i r0 hr0
     generalize hX:a.eval x=X at h1
     generalize hY:a.eval y=Y at h2
     have hrun:=zgp (P:=P) 8 t sh hsh 9991 _ _ r0 hr0 g _ _ w h1 h2
     cases h1 with
     | agg _ us _ _=>
     cases h2 with
     | agg _ vs _ _=>
     have hg':P.eqGuardType P.depth t=false:=by simpa using hg
     have hgd:=fun op=>run_eqGuard_agg (P:=P) w op t x y (yG us).toArray (yG vs).toArray hg'
     split at h
     ·cases h
      have:=run_eql_struct (P:=P) w t (yG us).toArray (yG vs).toArray
      rw [hrun] at this
      simp only [Result.andThen_ok] at this
      simp only [execOp,ho,hX,hY,Sem.run_bind,hgd,Result.andThen_ok,this,Sem.run_pure]
     ·cases h
      have:=run_neq_struct (P:=P) w t (yG us).toArray (yG vs).toArray
      rw [hrun] at this
      simp only [Result.andThen_ok] at this
      simp only [execOp,ho,hX,hY,Sem.run_bind,hgd,Result.andThen_ok,this,Sem.run_pure]
     ·cases h
    ·cases h
  ·cases h
theorem zin {o:Oper} {s:Slots} {id:Nat} {x:Operand} {xt at':TypeId} {v:AV} (ho:o.op=.typeAssert x xt at' true) (h:zlg P at' (zl s x)=some v):OpHolds P o s id [] v []:=
 yj fun g w a hr=>by
  have h1:=hr x (by simp [ho,Op.operands])
  unfold zlg at h
  split at h
  ·rename_i hc
   obtain ⟨d,hd,hni⟩:=zlk hc
   generalize hX:a.eval x=X at h1
   split at h
   ·rename_i t y hy
    rw [hy] at h1
    cases h1 with
    | iface _ _ u hu=>
     split at h
     ·rename_i htt
      subst htt
      cases h
      refine ⟨.tuple #[u,.bool true],?_,?_⟩
      ·simp only [execOp,ho,hX,Sem.run_bind,Instr.typeAssert,run_underlying hd,Result.andThen_ok]
       cases d <;> first | (exact absurd rfl (hni _)) | simp
      ·refine .tup [y,.lit (.bool true)] [u,.bool true] rfl fun i x v hx hv=>?_
       match i with
       | 0=>simp at hx hv;subst hx;subst hv;exact hu
       | 1=>simp at hx hv;subst hx;subst hv;exact .lit _ rfl
       | n+2=>simp at hx
     ·rename_i htt
      simp only [Option.map_eq_some_iff] at h
      obtain ⟨z,hz,rfl⟩:=h
      obtain ⟨i,zv,hi,hzv,hrz⟩:=vO hz g
      refine ⟨.tuple #[zv,.bool false],?_,?_⟩
      ·simp only [execOp,ho,hX,Sem.run_bind,Instr.typeAssert,run_underlying hd,Result.andThen_ok]
       cases d <;> first | (exact absurd rfl (hni _)) | simp [htt,zeroValue,typeInfo,hi,hzv]
      ·refine .tup [z,.lit (.bool false)] [zv,.bool false] rfl fun i x v hx hv=>?_
       match i with
       | 0=>simp at hx hv;subst hx;subst hv;exact hrz
       | 1=>simp at hx hv;subst hx;subst hv;exact .lit _ rfl
       | n+2=>simp at hx
   ·rename_i hy
    rw [hy] at h1
    have e:=zN h1
    subst e
    simp only [Option.map_eq_some_iff] at h
    obtain ⟨z,hz,rfl⟩:=h
    obtain ⟨i,zv,hi,hzv,hrz⟩:=vO hz g
    refine ⟨.tuple #[zv,.bool false],?_,?_⟩
    ·simp only [execOp,ho,hX,Sem.run_bind,Instr.typeAssert,run_underlying hd,Result.andThen_ok]
     cases d <;> first | (exact absurd rfl (hni _)) | simp [zeroValue,typeInfo,hi,hzv]
    ·refine .tup [z,.lit (.bool false)] [zv,.bool false] rfl fun i x v hx hv=>?_
     match i with
     | 0=>simp at hx hv;subst hx;subst hv;exact hrz
     | 1=>simp at hx hv;subst hx;subst hv;exact .lit _ rfl
     | n+2=>simp at hx
   ·cases h
  ·cases h
end
section
variable {P:Program} {o:Oper} {s:Slots} {id:Nat}
theorem zmd {z:Value} {m:Nat} (hpos:0 < z.cells.size) (h1:∀ u∈z.cells.toList,u.oneCell'=true):∀ u∈(Builtin.zeroCells z.cells m).toList,u.oneCell'=true:=by
 intro u hu
 simp only [Builtin.zeroCells,Array.toList_map,List.mem_map] at hu
 obtain ⟨j,hj,rfl⟩:=hu
 have hlt:j % z.cells.size < z.cells.size:=Nat.mod_lt _ hpos
 refine h1 _ ?_
 rw [getElem!_pos z.cells _ hlt]
 exact Array.getElem_mem_toList hlt
theorem zeH {w:World} {t tn ty e:TypeId} {i:TypeInfo} {z:Value} {k kn:IntKind} (ht:P.underlying t=some (.slice e)) (htn:P.underlying tn=some (.int kn)) (hi:P.info? e=some i) (hz:i.zero=some z) (hzs:z.cells.size=i.size) (hpos:0 < i.size)
  {g sLen sCap:Nat} {cur:Array Value} {fz:Nat × Nat} (hg:w.heap[g]?=some (.cells cur e fz)) (hfz:noFz fz cur.size) {m:Nat} (hm:0 < m) (h1:∀ u∈z.cells.toList,u.oneCell'=true) (hmb:m * i.bytes≤140737488355328) (hm63:m≤140737488355328)
  (hroom:sLen+m≤sCap) (hfit:sLen * i.size+m * i.size≤cur.size):
  (Builtin.append_ #[t,tn] ty #[.slice (some ⟨g,0,none⟩) sLen sCap,.int k (m:Int)]).run P w =
   .ok (.slice (some ⟨g,0,none⟩) (sLen+m) sCap) (w.setRow g (cur.toList.take (sLen * i.size)++(Builtin.zeroCells z.cells m).toList++cur.toList.drop (sLen * i.size+(Builtin.zeroCells z.cells m).toList.length)).toArray):=by
 have hzl:(Builtin.zeroCells z.cells m).toList.length=m * i.size:=by rw [Array.length_toList,size_zeroCells,hzs]
 have hst:=wM (P:=P) g (sLen * i.size) e fz (Builtin.zeroCells z.cells m).toList 0 cur w hg hfz (by rw [hzl];simpa using hfit) (zmd oo h1)
 simp only [Nat.add_zero] at hst
 have hw:IntKind.i64.wrap (m:Int)=m:=by rw [IntKind.wrap_i64];omega
 have hm0:m≠0:=by omega
 have hs0:i.size≠0:=by omega
 have h48i:¬ (281474976710656 < (m:Int) * (i.bytes:Int)):=by
  rw [← Int.natCast_mul]
  omega
 have hneg:¬ ((m:Int) < 0):=by omega
 have hmz:¬ m * i.size=0:=fun h=>by rcases Nat.mul_eq_zero.1 h with h | h <;> omega
 simp [Builtin.append_,run_underlying ht,run_underlying htn,asInt,asIntOf,sizeOf,typeInfo,zeroValue,hi,hz,hw,h48i,hneg,hroom,hmz,Addr.add_lit,hst]
theorem zcK {t tn e:TypeId} {size bytes r:Nat} {z:AV} {x y:Operand} {xs:List AV} {k kn:IntKind} {m:Int} (ho:o.op=.call { callee:=.builtin .append,args:=#[x,y],argTypes:=#[t,tn] }) (ht:zT P t=some e) (htn:zbL P tn=some kn) (hs:xL P e size=true) (hb:kH P e bytes=true)
  (hz:zK P e=some z) (hzs:z.sz=size) (hzc:z.cell=true) (hpos:0 < size) (hx:zl s x=.slice (some r) xs) (hy:zl s y=.lit (.int k m)) (h0:0≤m)
  (hsx:xs.all (fun x=>x.sz == size)=true) (hbytes:(xs.length+m.toNat) * bytes≤140737488355328) (hmx:xs.length+m.toNat≤140737488355328):
  OpHolds P o s id [(r,.row e size xs.length)] (.slice (some r) (xs++List.replicate m.toNat z)) [(r,.row e size (xs.length+m.toNat))]:=by
 refine ⟨fun p hp=>by simp at hp;subst hp;simp,fun q hq=>.inr ⟨(r,.row e size xs.length),by simp,by simp at hq;subst hq;rfl⟩,fun W0 g σ n w a hS hr _ _ hp=>?_⟩
 have h1:=hr x (by simp [ho,Op.operands,Call.operands])
 have h2:=hr y (by simp [ho,Op.operands,Call.operands])
 rw [hx] at h1
 rw [hy] at h2
 have e2:=zN h2
 obtain ⟨m,rfl⟩:=Int.eq_ofNat_of_zero_le h0
 simp only [Int.toNat_natCast] at hbytes hmx ⊢
 have hp':σ r=.row e size xs.length:=hp (r,.row e size xs.length) (by simp)
 obtain ⟨cs,he⟩:=yK (P:=P) (a:=a) ho w
 have hE:=hS.ents r
 rw [hp'] at hE
 obtain ⟨hl,u,cells0,hu,hlen,_⟩:=hE
 have hxu:a.eval x=u:=by
  generalize hv:a.eval x=v at h1
  cases h1 with
  | slice _ _ vs A c size' hvl hc hm hvr hvs hcell hown'=>
   obtain ⟨u',hu',_,h3⟩:=hown' r rfl
   rw [hu] at hu'
   cases hu'
   exact h3 hlen.symm
 obtain ⟨i0,zv0,hi0,hzv0,hrz0⟩:=vO hz g
 have hbi:i0.bytes=bytes:=by unfold kH at hb;rw [hi0] at hb;simpa using hb
 have hmb:m * i0.bytes≤140737488355328:=by
  rw [hbi]
  exact Nat.le_trans (Nat.mul_le_mul_right _ oo) hbytes
 have hzsz:zv0.cells.size=size:=by rw [hrz0.size,hzs]
 have hall:∀ v∈List.replicate m zv0,v.cells.size=size:=fun v hv=>by rw [List.eq_of_mem_replicate hv];exact hzsz
 have hfl:yG (List.replicate m zv0)=(Builtin.zeroCells zv0.cells m).toList:=by
  rw [← qz m zv0 size hzsz hpos]
  simp [Builtin.zeroCells,hzsz]
 have hone:∀ q∈zv0.cells.toList,q.oneCell'=true:=hrz0.cell_ok hzc
 have hl2:(List.replicate m z).length=m:=by simp
 have key:=zkJ (P:=P) (R:=fun u' w'=>(Builtin.append_ #[t,tn] o.type #[u,.int k (m:Int)]).run P w=.ok u' w') (ys:=List.replicate m z) (us:=List.replicate m zv0) hs hz hzs hS hp' hu rfl (.inr (by rw [← hxu];exact h1)) hsx (by simp) (kh hrz0 m) hall
  (fun hm0 ⟨A',c',hu',hc'⟩=>by
   rw [hl2] at hm0
   subst hm0 hu'
   cases A' <;> simp [Builtin.append_,run_underlying (zD ht),run_underlying (wz htn),asInt,asIntOf,sizeOf,typeInfo,hi0,IntKind.wrap_i64,hc',storeCells])
  (fun i zv cells hi hzv hsi hzc' hrz hown hpos'=>by
   rw [hi0] at hi;cases hi
   rw [hzv0] at hzv;cases hzv
   rw [hl2] at hpos' ⊢
   rw [hfl]
   rcases hown.2 with ⟨rfl,hk0⟩ | ⟨g0,cap,cur,fz,rfl,hbg,hg,hfz,hnc,hcm,hcs,htake⟩
   ·have hcl:cells=[]:=List.eq_nil_of_length_eq_zero (by rw [hown.1,hk0];simp)
    subst hcl
    have hr:=Go.Lib.run_append_nil_zeros (P:=P) w t tn o.type e i0 zv0 k kn (zD ht) (wz htn) hi0 hzv0 m hpos' oo oo oo
    have hge:=grownCap_ge w m 0 e
    have hcm:=grownCap_le_maxLen w m 0 e (by unfold maxLen;omega)
    rw [hk0,Nat.zero_add]
    refine ⟨_,_,hr,⟨by simp [size_zeroCells,hzc'],.inr ⟨w.heap.size,_,_,(0,0),rfl,hS.below.size,heap_alloc_new w.drew _,jJ _,hge,hcm,?_,?_⟩⟩,rfl,rfl,rfl,rfl,by simp,.inr ⟨hpos',rfl,fun j hj=>heap_alloc_old w.drew _ j hj⟩⟩
    ·simp only [Array.size_append,size_zeroCells,hzc',← Nat.add_mul]
     congr 1;omega
    ·have:(Builtin.zeroCells zv0.cells m).toList.length=m * i0.size:=by rw [Array.length_toList,size_zeroCells,hzc']
     rw [← this]
     simp
   ·by_cases hroom:xs.length+m≤cap
    ·have hfit:xs.length * i0.size+m * i0.size≤cur.size:=by rw [hcs,← Nat.add_mul];exact Nat.mul_le_mul_right _ hroom
     have hr:=zeH (P:=P) (k:=k) (ty:=o.type) (zD ht) (wz htn) hi0 hzv0 hzc' oo hg hfz hpos' hone hmb oo hroom hfit
     have hzl:(Builtin.zeroCells zv0.cells m).toList.length=m * i0.size:=by rw [Array.length_toList,size_zeroCells,hzc']
     have hlenA:(cells++(Builtin.zeroCells zv0.cells m).toList).length=(xs.length+m) * i0.size:=by rw [List.length_append,hown.1,hzl,Nat.add_mul]
     have hcz:(cur.toList.take (xs.length * i0.size)++(Builtin.zeroCells zv0.cells m).toList++cur.toList.drop (xs.length * i0.size+(Builtin.zeroCells zv0.cells m).toList.length)).toArray.size=cur.size:=by
      simp only [List.size_toArray,List.length_append,List.length_take,List.length_drop,Array.length_toList] at hzl ⊢
      omega
     refine ⟨_,_,hr,⟨hlenA,.inr ⟨g0,cap,_,fz,rfl,hbg,setRow_heap w g0 cur _ e _ hg,by rw [hcz];exact hfz,hroom,hcm,by rw [hcz];exact hcs,?_⟩⟩,rfl,rfl,rfl,rfl,by simp [World.setRow],.inl ⟨hpos',rfl,fun j hj _=>setRow_other w g0 j _ (fun e=>hj (by simp [Value.ownBlock,e]))⟩⟩
     rw [htake,← hlenA]
     exact List.take_left
    ·have hold:(Builtin.firstCells i0.size xs.length (.slice (some ⟨g0,0,none⟩) xs.length cap)).run P w.drew=.ok cells.toArray w.drew:=
      run_firstCells_some (P:=P) w.drew i0.size xs.length ⟨g0,0,none⟩ xs.length cap cells hown.1 fun j q hq=>by rw [Addr.add_lit,Nat.zero_add];exact hown.cells (g:=g0) rfl j q hq
     have hr:=Go.Lib.run_append_grow_zeros (P:=P) w t tn o.type e i0 zv0 k kn (zD ht) (wz htn) hi0 hzv0 (some ⟨g0,0,none⟩) xs.length cap cells hold m hpos' oo oo oo oo (growslice_fits oo (by rw [hbi];exact hbytes))
     have hge:=grownCap_ge w (xs.length+m) cap e
     have hcm':=grownCap_le_maxLen w (xs.length+m) cap e (by unfold maxLen;omega)
     have hzl:(Builtin.zeroCells zv0.cells m).toList.length=m * i0.size:=by rw [Array.length_toList,size_zeroCells,hzc']
     have hlenA:(cells++(Builtin.zeroCells zv0.cells m).toList).length=(xs.length+m) * i0.size:=by rw [List.length_append,hown.1,hzl,Nat.add_mul]
     refine ⟨_,_,hr,⟨hlenA,.inr ⟨w.heap.size,_,_,(0,0),rfl,hS.below.size,heap_alloc_new w.drew _,jJ _,hge,hcm',?_,?_⟩⟩,rfl,rfl,rfl,rfl,by simp,.inr ⟨hpos',rfl,fun j hj=>heap_alloc_old w.drew _ j hj⟩⟩
     ·simp only [Array.size_append,List.size_toArray,size_zeroCells,hzc',hown.1,← Nat.add_mul]
      congr 1;omega
     ·simp only [Array.toList_append,List.append_assoc]
      rw [← List.append_assoc,← hlenA]
      exact List.take_left)
  (fun i zv A0 cells hi hzv hsi hzc' hrz hu' hcl hcells hpos'=>by
   rw [hi0] at hi;cases hi
   rw [hzv0] at hzv;cases hzv
   rw [hl2] at hpos' ⊢
   rw [hfl]
   subst hu'
   have hold:(Builtin.firstCells i0.size xs.length (.slice (some A0) xs.length xs.length)).run P w.drew=.ok cells.toArray w.drew:=
    run_firstCells_some (P:=P) w.drew i0.size xs.length A0 xs.length xs.length cells hcl (fun j q hq=>hcells j q hq)
   have hr:=Go.Lib.run_append_grow_zeros (P:=P) w t tn o.type e i0 zv0 k kn (zD ht) (wz htn) hi0 hzv0 (some A0) xs.length xs.length cells hold m hpos' oo oo oo oo (growslice_fits oo (by rw [hbi];exact hbytes))
   have hge:=grownCap_ge w (xs.length+m) xs.length e
   have hcm':=grownCap_le_maxLen w (xs.length+m) xs.length e (by unfold maxLen;omega)
   have hzl:(Builtin.zeroCells zv0.cells m).toList.length=m * i0.size:=by rw [Array.length_toList,size_zeroCells,hzc']
   have hlenA:(cells++(Builtin.zeroCells zv0.cells m).toList).length=(xs.length+m) * i0.size:=by rw [List.length_append,hcl,hzl,Nat.add_mul]
   refine ⟨_,_,hr,⟨hlenA,.inr ⟨w.heap.size,_,_,(0,0),rfl,hS.below.size,heap_alloc_new w.drew _,jJ _,hge,hcm',?_,?_⟩⟩,rfl,rfl,rfl,rfl,by simp,⟨hpos',rfl,fun j hj=>heap_alloc_old w.drew _ j hj⟩⟩
   ·simp only [Array.size_append,List.size_toArray,size_zeroCells,hzc',hcl,← Nat.add_mul]
    congr 1;omega
   ·simp only [Array.toList_append,List.append_assoc]
    rw [← List.append_assoc,← hlenA]
    exact List.take_left)
 obtain ⟨u',w',g',hrun,hle,hS',hrep⟩:=key
 rw [hl2] at hS'
 unfold runsTo
 have hexec:(execOp a.eval o).run P w=.ok (.value u') w':=by
  rw [he]
  simp [builtin,hxu,e2,hrun]
 rw [hexec]
 exact ⟨g',hle,hS',hrep⟩
end
def bytesOf:List AV→Option (List UInt8)
 | []=>some []
 | .lit (.int .u8 n)::r=>if 0≤n∧n < 256 then (bytesOf r).map (UInt8.ofNat n.toNat::·) else none
 | _::_=>none
theorem zgg:∀ {xs:List AV} {bs:List UInt8},bytesOf xs=some bs→xs=bs.map za
 | [],bs,h=>by simp [bytesOf] at h;subst h;rfl
 | .lit (.int .u8 n)::r,bs,h=>by
  simp only [bytesOf] at h
  split at h
  ·rename_i hn
   cases hr:bytesOf r with
   | none=>rw [hr] at h;cases h
   | some q=>
    rw [hr] at h
    cases h
    rw [zgg hr]
    simp only [List.map_cons,za]
    congr 3
    rw [UInt8.toNat_ofNat']
    omega
  ·cases h
 | .any::_,_,h=>by simp [bytesOf] at h
 | .nils::_,_,h=>by simp [bytesOf] at h
 | .slice _ _::_,_,h=>by simp [bytesOf] at h
 | .agg _::_,_,h=>by simp [bytesOf] at h
 | .ptr _ _ _::_,_,h=>by simp [bytesOf] at h
 | .view _::_,_,h=>by simp [bytesOf] at h
 | .fn _ _::_,_,h=>by simp [bytesOf] at h
 | .tup _::_,_,h=>by simp [bytesOf] at h
 | .lit (.bool _)::_,_,h=>by simp [bytesOf] at h
 | .lit (.float _ _)::_,_,h=>by simp [bytesOf] at h
 | .lit (.complex _ _ _)::_,_,h=>by simp [bytesOf] at h
 | .lit (.string _)::_,_,h=>by simp [bytesOf] at h
 | .lit (.pointer _)::_,_,h=>by simp [bytesOf] at h
 | .lit (.slice _ _ _)::_,_,h=>by simp [bytesOf] at h
 | .lit (.map _)::_,_,h=>by simp [bytesOf] at h
 | .lit (.chan _)::_,_,h=>by simp [bytesOf] at h
 | .lit (.func _ _ _)::_,_,h=>by simp [bytesOf] at h
 | .lit .nilFunc::_,_,h=>by simp [bytesOf] at h
 | .lit (.iface _ _)::_,_,h=>by simp [bytesOf] at h
 | .lit .nilIface::_,_,h=>by simp [bytesOf] at h
 | .lit (.agg _)::_,_,h=>by simp [bytesOf] at h
 | .lit (.tuple _)::_,_,h=>by simp [bytesOf] at h
 | .lit (.int .u16 _)::_,_,h=>by simp [bytesOf] at h
 | .lit (.int .u32 _)::_,_,h=>by simp [bytesOf] at h
 | .lit (.int .u64 _)::_,_,h=>by simp [bytesOf] at h
 | .lit (.int .i8 _)::_,_,h=>by simp [bytesOf] at h
 | .lit (.int .i16 _)::_,_,h=>by simp [bytesOf] at h
 | .lit (.int .i32 _)::_,_,h=>by simp [bytesOf] at h
 | .lit (.int .i64 _)::_,_,h=>by simp [bytesOf] at h
def zH (P:Program) (t:TypeId):Option (TypeId × Nat × Nat × AV):=
 match zT P t with
 | some e=>match P.info? e,zK P e with
  | some i,some z=>if z.sz == i.size && (0 < i.size:Bool) then some (e,i.size,i.bytes,z) else none
  | _,_=>none
 | none=>none
theorem zI {P:Program} {t e:TypeId} {size bytes:Nat} {z:AV} (h:zH P t=some (e,size,bytes,z)):
  zT P t=some e∧xL P e size=true∧kH P e bytes=true∧zK P e=some z∧z.sz=size∧0 < size:=by
 unfold zH at h
 split at h
 ·rename_i e' he
  split at h
  ·rename_i i z' hi hz
   split at h
   ·rename_i hc
    cases h
    simp at hc
    exact ⟨he,by simp [xL,hi],by simp [kH,hi],hz,hc.1,hc.2⟩
   ·cases h
  ·cases h
 ·cases h
def zx (P:Program) (t:TypeId):Option (Bool × Nat):=
 match P.underlying t,P.info? t with
 | some d,some i=>some (zqJ d,i.size)
 | _,_=>none
theorem kZ {P:Program} {t:TypeId} {a:Bool} {n:Nat} (h:zx P t=some (a,n)):zqt P t a n=true∧xL P t n=true:=by
 unfold zx at h
 split at h
 ·rename_i d i hd hi
  cases h
  simp [zqt,xL,hd,hi]
 ·cases h
def w7 (P:Program) (t:TypeId):Option (Nat × TypeId × Nat):=
 match zie P t with
 | some (n,e)=>match P.info? e with
  | some i=>some (n,e,i.size)
  | none=>none
 | none=>none
theorem vH {P:Program} {t e:TypeId} {n size:Nat} (h:w7 P t=some (n,e,size)):zie P t=some (n,e)∧xL P e size=true:=by
 unfold w7 at h
 split at h
 ·rename_i n' e' he
  split at h
  ·rename_i i hi
   cases h
   exact ⟨he,by simp [xL,hi]⟩
  ·cases h
 ·cases h
def zln (σ:Nat→Ent) (i:Nat):Option (TypeId × AV × Bool):=
 match σ i with
 | .box t x=>some (t,x,true)
 | .fbox t x=>some (t,x,false)
 | _=>none
def zq4 (s:Slots) (c x y:Operand):Option Step:=
 match zl s c with
 | .lit (.bool t)=>some ⟨[],zm5 t (zl s x) (zl s y),[]⟩
 | _=>none
def zi6 (s:Slots) (x:Operand) (i:Nat):Option Step:=
 match zl s x with
 | .tup xs=>match xs[i]? with
  | some y=>some ⟨[],y,[]⟩
  | none=>none
 | _=>none
def zhp (s:Slots) (x:Operand):Option Step:=
 match zl s x with
 | .ptr i p q=>some ⟨[],.ptr i p q,[]⟩
 | .view y=>some ⟨[],.view y,[]⟩
 | .fn f xs=>some ⟨[],.fn f xs,[]⟩
 | .mp i v p q=>some ⟨[],.mp i v p q,[]⟩
 | _=>none
def zho (s:Slots) (fn:Fn) (first:List Operand) (cap:Array Operand):Option Step:=
 match fn,first with
 | .func f,[]=>some ⟨[],.fn f (cap.toList.map (zl s)),[]⟩
 | _,_=>none
def evBin (P:Program) (op:BinOp) (t:TypeId) (u v:AV):Option Step:=
 match u,v with
 | .lit u,.lit v=>match zkS P op t u v with
  | some r=>some ⟨[],.lit r,[]⟩
  | none=>match zi9 P op t (.lit u) (.lit v) with
   | some b=>some ⟨[],.lit (.bool b),[]⟩
   | none=>none
 | .agg xs,.agg ys=>match zmE P op t (.agg xs) (.agg ys) with
  | some b=>some ⟨[],.lit (.bool b),[]⟩
  | none=>none
 | u,v=>match zi9 P op t u v with
  | some b=>some ⟨[],.lit (.bool b),[]⟩
  | none=>none
def zyn (op:UnOp) (u:AV):Option Step:=
 match u with
 | .lit u=>match zsN op u with
  | some r=>some ⟨[],.lit r,[]⟩
  | none=>none
 | _=>none
def zgr (P:Program) (src dst:TypeId) (id:Nat) (u:AV):Option Step:=
 match u with
 | .lit (.int _ n)=>match zbL P src,zbL P dst with
  | some _,some k'=>some ⟨[],.lit (.int k' (k'.wrap n)),[]⟩
  | _,_=>none
 | .lit (.string b)=>if zM P src && zM P dst then some ⟨[],.lit (.string b),[]⟩ else match zT P dst with
  | some e=>if zM P src=true∧zq P e=true∧xL P e 1=true∧b.size≤9223372036854775807 then some ⟨[],.slice (some id) (b.data.toList.map za),[(id,.row e 1 b.size)]⟩ else none
  | none=>none
 | .nils=>match zT P src with
  | some e=>if zq P e && zM P dst then some ⟨[],.lit (zuV []),[]⟩ else none
  | none=>none
 | .slice _ xs=>match zT P src,bytesOf xs with
  | some e,some bs=>if zq P e && zM P dst then some ⟨[],.lit (zuV bs),[]⟩ else none
  | _,_=>none
 | _=>none
def zn6 (P:Program) (t:TypeId) (u v:AV):Option Step:=
 match u,v with
 | .lit (.string b),.lit (.int _ n)=>if zM P t=true∧0≤n then match b.data.toList[n.toNat]? with
  | some c=>some ⟨[],.lit (.int .u8 c.toNat),[]⟩
  | none=>none
  else none
 | _,_=>none
def zdR (σ:Nat→Ent) (i ver:Nat):Option (TypeId × Nat × List AV):=
 match σ i with
 | .mrow v e size xs=>if v=ver then some (e,size,xs) else none
 | _=>none
def zfE (P:Program) (σ:Nat→Ent) (t:TypeId) (u:AV) (f:Nat):Option Step:=
 match u,zf P t f with
 | .ptr i p q,some k=>some ⟨[],.ptr i (p++[f]) (q+k),[]⟩
 | .mp i ver p q,some k=>match zdR σ i ver with
  | some (e,size,xs)=>some ⟨[(i,.mrow ver e size xs)],.mp i ver (p++[f]) (q+k),[]⟩
  | none=>none
 | .view (.agg xs),some k=>match xs[f]? with
  | some y=>if AV.szl (xs.take f)=k then some ⟨[],.view y,[]⟩ else none
  | none=>none
 | _,_=>none
def zkP (P:Program) (σ:Nat→Ent) (t:TypeId) (u:AV):Option Step:=
 match u with
 | .ptr i p q=>match zln σ i with
  | some (_,c,_)=>match c.get p with
   | some y=>if c.offs p=q∧zx P t=some (y.isAgg,y.sz) then some ⟨[(i,σ i)],y,[]⟩ else none
   | none=>none
  | none=>none
 | .view y=>if zx P t=some (y.isAgg,y.sz) then some ⟨[],y,[]⟩ else none
 | .mp i ver p q=>match zdR σ i ver with
  | some (e,size,xs)=>match (AV.agg xs).get p with
   | some y=>if (AV.agg xs).offs p=q∧zx P t=some (y.isAgg,y.sz) then some ⟨[(i,.mrow ver e size xs)],y,[]⟩ else none
   | none=>none
  | none=>none
 | _=>none
def zja (P:Program) (σ:Nat→Ent) (t:TypeId) (u z:AV):Option Step:=
 match u with
 | .ptr i p q=>match zln σ i with
  | some (bt,c,true)=>match c.get p,zx P t with
   | some old,some (_,n)=>if c.offs p=q∧old.sz=z.sz∧n=z.sz∧z.cell=true then some ⟨[(i,.box bt c)],.tup [],[(i,.box bt (c.put p z))]⟩ else none
   | _,_=>none
  | _=>none
 | .mp i ver (j::p) q=>match zdR σ i ver with
  | some (e,size,xs)=>match (AV.agg xs).get (j::p),zx P t,(AV.agg xs).put (j::p) z with
   | some old,some (_,n),.agg xs'=>if (AV.agg xs).offs (j::p)=q∧old.sz=z.sz∧n=z.sz∧z.cell=true then some ⟨[(i,.mrow ver e size xs)],.tup [],[(i,.mrow ver e size xs')]⟩ else none
   | _,_,_=>none
  | none=>none
 | _=>none
def zn5 (P:Program) (t:TypeId) (id:Nat):Option Step:=
 match zK P t with
 | some z=>some ⟨[],.ptr id [] 0,[(id,.box t z)]⟩
 | none=>none
def zdz (P:Program) (σ:Nat→Ent) (t:TypeId) (u v:AV):Option Step:=
 match u,v with
 | .clip xs,.lit (.int _ n)=>if 0≤n then match xs[n.toNat]?,zH P t with
  | some y,some (_,size,_,_)=>if y.sz=size then some ⟨[],.view y,[]⟩ else none
  | _,_=>none
  else none
 | .ms r ver size lo len,.lit (.int _ n)=>match zdR σ r ver,zH P t with
  | some (e,size',xs),some (e',size'',_,_)=>if 0≤n∧n.toNat < len∧size'=size∧size''=size∧e'=e then some ⟨[(r,.mrow ver e size xs)],.mp r ver [lo+n.toNat] ((lo+n.toNat) * size),[]⟩ else none
  | _,_=>none
 | .bs r p lo q len,.lit (.int _ n)=>match zH P t with
  | some (_,size,_,_)=>if 0≤n∧n.toNat < len then some ⟨[],.ptr r (p++[lo+n.toNat]) (q+n.toNat * size),[]⟩ else none
  | none=>none
 | .mp j ver p q,.lit (.int _ n)=>match zdR σ j ver,w7 P t with
  | some (e,size',xs),some (len,_,size)=>if 0≤n∧n.toNat < len then some ⟨[(j,.mrow ver e size' xs)],.mp j ver (p++[n.toNat]) (q+n.toNat * size),[]⟩ else none
  | _,_=>none
 | .slice _ xs,.lit (.int _ n)=>if 0≤n then match xs[n.toNat]?,zH P t with
  | some y,some (_,size,_,_)=>if y.sz=size then some ⟨[],.view y,[]⟩ else none
  | _,_=>none
  else none
 | .ptr j p q,.lit (.int _ n)=>match w7 P t with
  | some (len,_,size)=>if 0≤n∧n.toNat < len then some ⟨[],.ptr j (p++[n.toNat]) (q+n.toNat * size),[]⟩ else none
  | none=>none
 | .view (.agg xs),.lit (.int _ n)=>match w7 P t,xs[n.toNat]? with
  | some (len,_,size),some y=>if 0≤n∧n.toNat < len∧AV.szl (xs.take n.toNat)=n.toNat * size then some ⟨[],.view y,[]⟩ else none
  | _,_=>none
 | _,_=>none
def evBuild (P:Program) (t:TypeId) (parts:List (Nat × AV)):Option Step:=
 match zK P t,yO P t,w7 P t with
 | some (.agg zs),some pl,_=>match zdU (fun (i:Nat)=>pl[i]?) zs parts with
  | some ys=>some ⟨[],.agg ys,[]⟩
  | none=>none
 | some (.agg zs),none,some (_,_,size)=>match zdU (fun i=>some (i * size,size)) zs parts with
  | some ys=>some ⟨[],.agg ys,[]⟩
  | none=>none
 | _,_,_=>none
def zei (P:Program) (t:TypeId) (len id:Nat) (parts:List (Nat × AV)):Option Step:=
 match zH P t with
 | some (e,size,_,z)=>match zdU (fun i=>some (i * size,size)) (List.replicate len z) parts with
  | some ys=>if len * size≤16777216∧ys.length=len∧ys.all (fun x=>x.sz == size)=true then some ⟨[],.slice (some id) ys,[(id,.row e size len)]⟩ else none
  | none=>none
 | none=>none
def zhq (P:Program) (s:Slots) (σ:Nat→Ent) (t:TypeId) (i:Nat) (p:List Nat) (q:Nat) (lo hi:Option Operand):Option Step:=
 match zln σ i,zbE P t with
 | some (bt,c,b),some (n,_,size)=>match c.get p,bnd s 0 lo,bnd s n hi with
  | some (.agg ys),some l,some h=>if c.offs p=q∧ys.length=n∧ys.all (fun y=>y.sz == size)=true∧l≤h∧h≤n∧n≤9223372036854775807 then
    some ⟨[(i,if !b then .fbox bt c else .box bt c)],.slice none ((ys.take h).drop l),if !b then [] else [(i,.fbox bt c)]⟩ else none
  | _,_,_=>none
 | _,_=>none
def zlr (P:Program) (s:Slots) (σ:Nat→Ent) (t:TypeId) (u:AV) (lo hi mx:Option Operand):Option Step:=
 match mx,u with
 | none,.slice _ xs=>match zH P t,bnd s 0 lo,bnd s xs.length hi with
  | some (_,size,_,_),some l,some h=>if l≤h∧h≤xs.length∧xs.all (fun y=>y.sz == size)=true then some ⟨[],.slice none ((xs.take h).drop l),[]⟩ else none
  | _,_,_=>none
 | none,.clip xs=>match zH P t,bnd s 0 lo,bnd s xs.length hi with
  | some (_,size,_,_),some l,some h=>if l≤h∧h≤xs.length∧xs.all (fun y=>y.sz == size)=true then some ⟨[],.slice none ((xs.take h).drop l),[]⟩ else none
  | _,_,_=>none
 | none,.ms r ver size l0 len=>match zdR σ r ver,zH P t,bnd s 0 lo,bnd s len hi with
  | some (e,size',xs),some (e',size'',_,_),some l,some h=>if l≤h∧h≤len∧size'=size∧size''=size∧e'=e then some ⟨[(r,.mrow ver e size xs)],.ms r ver size (l0+l) (h - l),[]⟩ else none
  | _,_,_,_=>none
 | none,.nils=>match zH P t,bnd s 0 lo,bnd s 0 hi with
  | some _,some 0,some 0=>some ⟨[],.nils,[]⟩
  | _,_,_=>none
 | none,.lit (.string b)=>match bnd s 0 lo,bnd s b.size hi with
  | some l,some h=>if zM P t=true∧l≤h∧h≤b.size then some ⟨[],.lit (.string (b.extract l h)),[]⟩ else none
  | _,_=>none
 | none,.ptr i p q=>zhq P s σ t i p q lo hi
 | none,.view (.agg ys)=>match zbE P t with
  | some (n,_,size)=>match bnd s 0 lo,bnd s n hi with
   | some l,some h=>if ys.length=n∧ys.all (fun y=>y.sz == size)=true∧l≤h∧h≤n∧n≤9223372036854775807 then some ⟨[],.slice none ((ys.take h).drop l),[]⟩ else none
   | _,_=>none
  | none=>none
 | some m,.slice _ xs=>match zH P t,bnd s 0 lo,bnd s 0 hi,bnd s 0 (some m) with
  | some (_,size,_,_),some l,some h,some h'=>if hi.isSome=true∧h'=h∧l≤h∧h≤xs.length∧xs.all (fun y=>y.sz == size)=true then some ⟨[],.clip ((xs.take h).drop l),[]⟩ else none
  | _,_,_,_=>none
 | some m,.clip xs=>match zH P t,bnd s 0 lo,bnd s 0 hi,bnd s 0 (some m) with
  | some (_,size,_,_),some l,some h,some h'=>if hi.isSome=true∧h'=h∧l≤h∧h≤xs.length∧xs.all (fun y=>y.sz == size)=true then some ⟨[],.clip ((xs.take h).drop l),[]⟩ else none
  | _,_,_,_=>none
 | some m,.nils=>match zH P t,bnd s 0 lo,bnd s 0 hi,bnd s 0 (some m) with
  | some _,some 0,some 0,some 0=>if hi.isSome=true then some ⟨[],.clip [],[]⟩ else none
  | _,_,_,_=>none
 | _,_=>none
def zfF (P:Program) (t:TypeId) (id:Nat) (u v:AV):Option Step:=
 match zH P t,u,v with
 | some (e,size,bytes,z),.lit (.int _ n),.lit (.int _ c)=>if 0≤n∧n≤c∧c≤140737488355328∧bytes * c≤140737488355328 then some ⟨[],.slice (some id) (List.replicate n.toNat z),[(id,.row e size n.toNat)]⟩ else none
 | _,_,_=>none
def zut (P:Program) (t:TypeId) (u:AV):Option Step:=
 match u with
 | .slice _ xs=>if (zH P t).isSome then some ⟨[],.lit (.int .i64 xs.length),[]⟩ else none
 | .nils=>if (zH P t).isSome then some ⟨[],.lit (.int .i64 0),[]⟩ else none
 | .clip xs=>if (zH P t).isSome then some ⟨[],.lit (.int .i64 xs.length),[]⟩ else none
 | .ms _ _ _ _ len=>if (zH P t).isSome then some ⟨[],.lit (.int .i64 len),[]⟩ else none
 | .bs _ _ _ _ len=>if (zH P t).isSome then some ⟨[],.lit (.int .i64 len),[]⟩ else none
 | .lit (.string b)=>if zM P t then some ⟨[],.lit (.int .i64 b.size),[]⟩ else none
 | _=>none
def zuv (u v:AV):Option Step:=
 match u,v with
 | .lit (.int k m),.lit (.int _ n)=>some ⟨[],.lit (.int k (if n < m then n else m)),[]⟩
 | _,_=>none
def zuu (u v:AV):Option Step:=
 match u,v with
 | .lit (.int k m),.lit (.int _ n)=>some ⟨[],.lit (.int k (if n > m then n else m)),[]⟩
 | _,_=>none
def zeW (P:Program) (σ:Nat→Ent) (id:Nat) (t:TypeId) (u v:AV):Option Step:=
 match zH P t,u,v.elems with
 | some (e,size,bytes,_),.slice (some r) xs,some ys=>match σ r with
  | .row e' size' n=>if e'=e∧size'=size∧n=xs.length∧xs.all (fun x=>x.sz == size)=true∧ys.all (fun x=>x.sz == size && x.cell)=true∧(xs.length+ys.length) * bytes≤140737488355328∧xs.length+ys.length≤140737488355328 then
   some ⟨[(r,.row e size xs.length)],.slice (some r) (xs++ys),[(r,.row e size (xs.length+ys.length))]⟩ else none
  | _=>none
 | some (e,size,bytes,_),.nils,some ys=>if ys.all (fun x=>x.sz == size && x.cell)=true∧ys.length * bytes≤140737488355328∧ys.length≤140737488355328 then
   some ⟨[],.slice (some id) ys,[(id,.row e size ys.length)]⟩ else none
 | some (e,size,bytes,_),.clip xs,some ys=>if xs.all (fun x=>x.sz == size)=true∧ys.all (fun x=>x.sz == size && x.cell)=true∧(xs.length+ys.length) * bytes≤140737488355328∧xs.length+ys.length≤140737488355328 then
   some ⟨[],.slice (some id) (xs++ys),[(id,.row e size (xs.length+ys.length))]⟩ else none
 | some (e,size,bytes,_),.ms r ver size' lo k,some ys=>match zdR σ r ver with
  | some (e',size'',xs)=>if e'=e∧size'=size∧size''=size∧lo=0∧k≤xs.length∧ys.all (fun x=>x.sz == size && x.cell)=true∧(k+ys.length) * bytes≤140737488355328∧k+ys.length≤140737488355328 then
   some ⟨[(r,.mrow ver e size xs)],.ms r (ver+1) size 0 (k+ys.length),[(r,.mrow (ver+1) e size (xs.take k++ys))]⟩ else none
  | none=>none
 | _,_,_=>none
def zeh (P:Program) (σ:Nat→Ent) (t tn:TypeId) (u v:AV):Option Step:=
 match zH P t,zbL P tn,u,v with
 | some (e,size,bytes,z),some _,.slice (some r) xs,.lit (.int _ m)=>match σ r with
  | .row e' size' n=>if e'=e∧size'=size∧n=xs.length∧0≤m∧z.cell=true∧xs.all (fun x=>x.sz == size)=true∧(xs.length+m.toNat) * bytes≤140737488355328∧xs.length+m.toNat≤140737488355328 then
   some ⟨[(r,.row e size xs.length)],.slice (some r) (xs++List.replicate m.toNat z),[(r,.row e size (xs.length+m.toNat))]⟩ else none
  | _=>none
 | _,_,_,_=>none
def zkO (P:Program) (σ:Nat→Ent) (t:TypeId) (u v:AV):Option Step:=
 match zH P t,u,zfB v with
 | some (e,size,_,_),.ms r ver size' lo len,some ys=>match zdR σ r ver with
  | some (e',size'',xs)=>if e'=e∧size'=size∧size''=size∧lo+len≤xs.length∧ys.all (fun x=>x.sz == size && x.cell)=true then
   some ⟨[(r,.mrow ver e size xs)],.lit (.int .i64 (Nat.min ys.length len:Nat)),[(r,.mrow ver e size (xs.take lo++ys.take (Nat.min ys.length len)++xs.drop (lo+Nat.min ys.length len)))]⟩ else none
  | none=>none
 | some (_,size,_,_),.bs r p lo q len,some ys=>match zln σ r with
  | some (bt,c,true)=>match c.get p with
   | some (.agg xs)=>if c.offs p+lo * size=q∧xs.all (fun x=>x.sz == size)=true∧lo+len≤xs.length∧ys.all (fun x=>x.sz == size && x.cell)=true then
    some ⟨[(r,.box bt c)],.lit (.int .i64 (Nat.min ys.length len:Nat)),[(r,.box bt (c.put p (.agg (xs.take lo++ys.take (Nat.min ys.length len)++xs.drop (lo+Nat.min ys.length len)))))]⟩ else none
   | _=>none
  | _=>none
 | _,_,_=>none
def zi4 (P:Program) (σ:Nat→Ent) (t:TypeId) (u:AV):Option Step:=
 match zH P t,u with
 | some (e,size,_,z),.ms r ver size' lo len=>match zdR σ r ver with
  | some (e',size'',xs)=>if e'=e∧size'=size∧size''=size∧lo+len≤xs.length∧z.cell=true then
   some ⟨[(r,.mrow ver e size xs)],.tup [],[(r,.mrow ver e size (xs.take lo++(List.replicate len z).take len++xs.drop (lo+len)))]⟩ else none
  | none=>none
 | _,_=>none
def zch (P:Program) (s:Slots) (σ:Nat→Ent) (id:Nat) (b:Builtin) (args:List Operand) (ts:List TypeId):Option Step:=
 match b,args,ts with
 | .len,[x],[t]=>zut P t (zl s x)
 | .min,[x,y],_=>zuv (zl s x) (zl s y)
 | .max,[x,y],_=>zuu (zl s x) (zl s y)
 | .append,[x,y],[t,t']=>if t=t' then zeW P σ id t (zl s x) (zl s y) else zeh P σ t t' (zl s x) (zl s y)
 | .copy,[x,y],[t,_]=>zkO P σ t (zl s x) (zl s y)
 | .clear,[x],[t]=>zi4 P σ t (zl s x)
 | _,_,_=>none
def zkN (P:Program) (s:Slots) (σ:Nat→Ent) (id:Nat) (c:Call):Option Step:=
 match c.callee with
 | .builtin b=>zch P s σ id b c.args.toList c.argTypes.toList
 | _=>none
def zac (P:Program) (op:Op) (s:Slots) (σ:Nat→Ent) (id:Nat):Option Step:=
 match op with
 | .move x=>some ⟨[],zl s x,[]⟩
 | .assign x=>some ⟨[],zl s x,[]⟩
 | .pick c x y=>zq4 s c x y
 | .extract x i=>zi6 s x i
 | .nilCheck x=>zhp s x
 | .makeFunc fn first cap=>zho s fn first.toList cap
 | .binOp op t x y _=>evBin P op t (zl s x) (zl s y)
 | .unOp op _ x=>zyn op (zl s x)
 | .convert src dst x=>zgr P src dst id (zl s x)
 | .index t x i=>zn6 P t (zl s x) (zl s i)
 | .fieldAddr t x f=>zfE P σ t (zl s x) f
 | .load t x=>zkP P σ t (zl s x)
 | .store t x y=>zja P σ t (zl s x) (zl s y)
 | .box t x=>some ⟨[],.ptr id [] 0,[(id,.box t (zl s x))]⟩
 | .alloc t=>zn5 P t id
 | .indexAddr t x i=>zdz P σ t (zl s x) (zl s i)
 | .build t parts=>evBuild P t (parts.toList.map fun p=>(p.1,zl s p.2))
 | .buildSlice t len parts=>zei P t len id (parts.toList.map fun p=>(p.1,zl s p.2))
 | .slice t x lo hi mx=>zlr P s σ t (zl s x) lo hi mx
 | .makeInterface t x=>if P.concrete t then some ⟨[],.iface t (zl s x),[]⟩ else none
 | .typeAssert x _ t true=>(zlg P t (zl s x)).map fun v=>⟨[],v,[]⟩
 | .makeSlice t x y=>zfF P t id (zl s x) (zl s y)
 | .call c=>zkN P s σ id c
 | _=>none
theorem zcg {σ:Nat→Ent} {i:Nat} {t:TypeId} {c:AV} {b:Bool} (h:zln σ i=some (t,c,b)):(b=true∧σ i=.box t c)∨(b=false∧σ i=.fbox t c):=by
 unfold zln at h
 split at h
 ·rename_i h';cases h;exact .inl ⟨rfl,h'⟩
 ·rename_i h';cases h;exact .inr ⟨rfl,h'⟩
 ·cases h
theorem qo {σ:Nat→Ent} {i ver:Nat} {e:TypeId} {size:Nat} {xs:List AV} (h:zdR σ i ver=some (e,size,xs)):σ i=.mrow ver e size xs:=by
 unfold zdR at h
 split at h
 ·rename_i h'
  split at h
  ·rename_i hv;subst hv;cases h;exact h'
  ·cases h
 ·cases h
def Gives (P:Program) (o:Oper) (s:Slots) (σ:Nat→Ent) (id:Nat) (st:Step):Prop:=OpHolds P o s id st.pre st.v st.post∧∀ p∈st.pre,σ p.1=p.2
theorem Gives.mk0 {P:Program} {o:Oper} {s:Slots} {σ:Nat→Ent} {id:Nat} {v:AV} {post:Foot} (h:OpHolds P o s id [] v post):Gives P o s σ id ⟨[],v,post⟩:=⟨h,fun p hp=>(by cases hp)⟩
theorem ze6 {α:Type} {a:Array α} {x:α} (h:a.toList=[x]):a=#[x]:=by cases a;simp at h;simp [h]
theorem zbZ {α:Type} {a:Array α} {x y:α} (h:a.toList=[x,y]):a=#[x,y]:=by cases a;simp at h;simp [h]
theorem zqs {α:Type} {a:Array α} (h:a.toList=[]):a=#[]:=by cases a;simp at h;simp [h]
section
variable {P:Program} {o:Oper} {s:Slots} {σ:Nat→Ent} {id:Nat} {st:Step}
theorem zkn {t:TypeId} {x y:Operand} (ho:o.op=.call { callee:=.builtin .append,args:=#[x,y],argTypes:=#[t,t] }) (h:zeW P σ id t (zl s x) (zl s y)=some st):Gives P o s σ id st:=by
 unfold zeW at h
 split at h
 ·rename_i ht hx hy
  split at h
  ·rename_i hr
   split at h
   ·rename_i hc
    cases h
    obtain ⟨k1,k2,k3,k4,k5,k6⟩:=zI ht
    obtain ⟨c1,c2,c3,c4,c5,c6,c7⟩:=hc
    subst c1;subst c2;subst c3
    exact ⟨zih ho k1 k2 k3 k4 k5 hx rfl hy c4 c5 c6 (by unfold maxLen;omega),fun p hp=>by simp at hp;subst hp;exact hr⟩
   ·cases h
  ·cases h
 ·rename_i ht hx hy
  split at h
  ·rename_i hc
   cases h
   obtain ⟨k1,k2,k3,k4,k5,k6⟩:=zI ht
   exact .mk0 (zhA ho k1 k2 k3 k4 k5 hx rfl hy hc.1 hc.2.1 (by unfold maxLen;omega))
  ·cases h
 ·rename_i ht hx hy
  split at h
  ·rename_i hc
   cases h
   obtain ⟨k1,k2,k3,k4,k5,k6⟩:=zI ht
   exact .mk0 (zhz ho k1 k2 k3 k4 k5 hx rfl hy hc.1 hc.2.1 hc.2.2.1 (by unfold maxLen;omega))
  ·cases h
 ·rename_i ht hx hy
  split at h
  ·rename_i hm
   split at h
   ·rename_i hc
    cases h
    obtain ⟨k1,k2,k3,k4,k5,k6⟩:=zI ht
    obtain ⟨c1,c2,c3,c4,c5,c6,c7,c8⟩:=hc
    subst c1;subst c2;subst c3;subst c4
    exact ⟨zjn ho k1 k2 k3 k4 k5 hx c5 rfl hy c6 c7 (by unfold maxLen;omega),fun p hp=>by simp at hp;subst hp;exact qo hm⟩
   ·cases h
  ·cases h
 ·cases h
theorem zi2 {t tn:TypeId} {x y:Operand} (ho:o.op=.call { callee:=.builtin .append,args:=#[x,y],argTypes:=#[t,tn] }) (h:zeh P σ t tn (zl s x) (zl s y)=some st):Gives P o s σ id st:=by
 unfold zeh at h
 split at h
 ·rename_i ht htn hx hy
  split at h
  ·rename_i hr
   split at h
   ·rename_i hc
    cases h
    obtain ⟨k1,k2,k3,k4,k5,k6⟩:=zI ht
    obtain ⟨c1,c2,c3,c4,c5,c6,c7,c8⟩:=hc
    subst c1;subst c2;subst c3
    exact ⟨zcK ho k1 htn k2 k3 k4 k5 c5 k6 hx hy c4 c6 c7 c8,fun p hp=>by simp at hp;subst hp;exact hr⟩
   ·cases h
  ·cases h
 ·cases h
theorem zmD {t ts:TypeId} {x y:Operand} (ho:o.op=.call { callee:=.builtin .copy,args:=#[x,y],argTypes:=#[t,ts] }) (h:zkO P σ t (zl s x) (zl s y)=some st):Gives P o s σ id st:=by
 unfold zkO at h
 split at h
 ·rename_i ht hx hy
  split at h
  ·rename_i hm
   split at h
   ·rename_i hc
    cases h
    obtain ⟨k1,k2,k3,k4,k5,k6⟩:=zI ht
    obtain ⟨c1,c2,c3,c4,c5⟩:=hc
    subst c1;subst c2;subst c3
    exact ⟨zlE ho k1 k2 hx c4 rfl hy c5 rfl,fun p hp=>by simp at hp;subst hp;exact qo hm⟩
   ·cases h
  ·cases h
 ·rename_i ht hx hy
  split at h
  ·rename_i hb
   split at h
   ·rename_i hg
    split at h
    ·rename_i hc
     cases h
     obtain ⟨k1,k2,k3,k4,k5,k6⟩:=zI ht
     rcases zcg hb with ⟨_,he⟩ | ⟨hf,_⟩
     ·exact ⟨zlD ho k1 k2 hx hg hc.1 hc.2.1 hc.2.2.1 rfl hy hc.2.2.2 rfl,fun p hp=>by simp at hp;subst hp;exact he⟩
     ·cases hf
    ·cases h
   ·cases h
  ·cases h
 ·cases h
theorem zlo {t:TypeId} {x:Operand} (ho:o.op=.call { callee:=.builtin .clear,args:=#[x],argTypes:=#[t] }) (h:zi4 P σ t (zl s x)=some st):Gives P o s σ id st:=by
 unfold zi4 at h
 split at h
 ·rename_i ht hx
  split at h
  ·rename_i hm
   split at h
   ·rename_i hc
    cases h
    obtain ⟨k1,k2,k3,k4,k5,k6⟩:=zI ht
    obtain ⟨c1,c2,c3,c4,c5⟩:=hc
    subst c1;subst c2;subst c3
    exact ⟨zks ho k1 k2 k4 k5 c5 k6 hx c4,fun p hp=>by simp at hp;subst hp;exact qo hm⟩
   ·cases h
  ·cases h
 ·cases h
theorem zi3 {b:Builtin} {args:Array Operand} {ts:Array TypeId} (ho:o.op=.call { callee:=.builtin b,args:=args,argTypes:=ts }) (h:zch P s σ id b args.toList ts.toList=some st):Gives P o s σ id st:=by
 unfold zch at h
 split at h
 ·rename_i x t ha ht
  rw [ze6 ha,ze6 ht] at ho
  unfold zut at h
  split at h
  ·rename_i hx
   split at h
   ·rename_i hc
    cases h
    obtain ⟨⟨e,size,bytes,z⟩,ht⟩:=Option.isSome_iff_exists.1 hc
    exact .mk0 (zeq ho (zI ht).1 (by rw [hx];exact AV.le_refl _))
   ·cases h
  ·rename_i hx
   split at h
   ·rename_i hc
    cases h
    obtain ⟨⟨e,size,bytes,z⟩,ht⟩:=Option.isSome_iff_exists.1 hc
    exact .mk0 (zkt ho (zI ht).1 hx)
   ·cases h
  ·rename_i hx
   split at h
   ·rename_i hc
    cases h
    obtain ⟨⟨e,size,bytes,z⟩,ht⟩:=Option.isSome_iff_exists.1 hc
    exact .mk0 (zeq ho (zI ht).1 (by rw [hx];exact AV.le_clip _))
   ·cases h
  ·rename_i hx
   split at h
   ·rename_i hc
    cases h
    obtain ⟨⟨e,size,bytes,z⟩,ht⟩:=Option.isSome_iff_exists.1 hc
    exact .mk0 (zmU ho (zI ht).1 hx)
   ·cases h
  ·rename_i hx
   split at h
   ·rename_i hc
    cases h
    obtain ⟨⟨e,size,bytes,z⟩,ht⟩:=Option.isSome_iff_exists.1 hc
    exact .mk0 (zmT ho (zI ht).1 hx)
   ·cases h
  ·rename_i hx
   split at h
   ·rename_i hc;cases h;exact .mk0 (zlG ho hc hx)
   ·cases h
  ·cases h
 ·rename_i x y ha
  rw [zbZ ha] at ho
  unfold zuv at h
  split at h
  ·rename_i hx hy;cases h;exact .mk0 (zrj ho hx hy)
  ·cases h
 ·rename_i x y ha
  rw [zbZ ha] at ho
  unfold zuu at h
  split at h
  ·rename_i hx hy;cases h;exact .mk0 (zri ho hx hy)
  ·cases h
 ·rename_i x y t t' ha ht
  rw [zbZ ha,zbZ ht] at ho
  split at h
  ·rename_i htt
   subst htt
   exact zkn ho h
  ·exact zi2 ho h
 ·rename_i x y t t' ha ht
  rw [zbZ ha,zbZ ht] at ho
  exact zmD ho h
 ·rename_i x t ha ht
  rw [ze6 ha,ze6 ht] at ho
  exact zlo ho h
 ·cases h
theorem zi5 {src dst:TypeId} {x:Operand} (ho:o.op=.convert src dst x) (h:zgr P src dst id (zl s x)=some st):Gives P o s σ id st:=by
 unfold zgr at h
 split at h
 ·rename_i hx
  split at h
  ·rename_i h1 h2;cases h;exact .mk0 (zhE ho h1 h2 hx)
  ·cases h
 ·rename_i hx
  split at h
  ·rename_i hc;cases h;simp only [Bool.and_eq_true] at hc;exact .mk0 (zhF ho hc.1 hc.2 hx)
  ·split at h
   ·rename_i hd
    split at h
    ·rename_i hc
     cases h
     exact .mk0 ((zaE ho hc.1 hd hc.2.1 hc.2.2.1 hx (by unfold maxLen;omega)).freezeNew (by simp))
    ·cases h
   ·cases h
 ·rename_i hx
  split at h
  ·rename_i h1
   split at h
   ·rename_i hc
    cases h
    simp only [Bool.and_eq_true] at hc
    exact .mk0 (zaQ (bs:=[]) ho h1 hc.1 hc.2 (by rw [hx];exact AV.le_nils0))
   ·cases h
  ·cases h
 ·rename_i hx
  split at h
  ·rename_i h1 h2
   split at h
   ·rename_i hc;cases h;simp only [Bool.and_eq_true] at hc;rw [zgg h2] at hx;exact .mk0 (zfN ho h1 hc.1 hc.2 hx)
   ·cases h
  ·cases h
 ·cases h
theorem zmF {t:TypeId} {x:Operand} (ho:o.op=.load t x) (h:zkP P σ t (zl s x)=some st):Gives P o s σ id st:=by
 unfold zkP at h
 split at h
 ·rename_i hx
  split at h
  ·rename_i hb
   split at h
   ·rename_i hy
    split at h
    ·rename_i hc
     cases h
     obtain ⟨h1,_⟩:=kZ hc.2
     refine ⟨?_,fun p hp=>by simp at hp;subst hp;rfl⟩
     rcases zcg hb with ⟨_,he⟩ | ⟨_,he⟩
     ·exact zkQ ho hx (.inl he) hy hc.1 h1
     ·exact zkQ ho hx (.inr he) hy hc.1 h1
    ·cases h
   ·cases h
  ·cases h
 ·rename_i hx
  split at h
  ·rename_i hc;cases h;exact .mk0 (zjr ho hx (kZ hc).1)
  ·cases h
 ·rename_i hx
  split at h
  ·rename_i hm
   split at h
   ·rename_i hy
    split at h
    ·rename_i hc
     cases h
     exact ⟨zlH ho hx hy hc.1 (kZ hc.2).1,fun p hp=>by simp at hp;subst hp;exact qo hm⟩
    ·cases h
   ·cases h
  ·cases h
 ·cases h
theorem zlt {t:TypeId} {x y:Operand} (ho:o.op=.store t x y) (h:zja P σ t (zl s x) (zl s y)=some st):Gives P o s σ id st:=by
 unfold zja at h
 split at h
 ·rename_i hx
  split at h
  ·rename_i hb
   split at h
   ·rename_i hy ht
    split at h
    ·rename_i hc
     cases h
     rcases zcg hb with ⟨_,he⟩ | ⟨hf,_⟩
     ·exact ⟨zok ho hx rfl hy hc.1 hc.2.1 (by rw [← hc.2.2.1];exact (kZ ht).2) hc.2.2.2,fun p hp=>by simp at hp;subst hp;exact he⟩
     ·cases hf
    ·cases h
   ·cases h
  ·cases h
 ·rename_i hx
  split at h
  ·rename_i hm
   split at h
   ·rename_i hy ht hput
    split at h
    ·rename_i hc
     cases h
     exact ⟨zkw ho hx rfl hy hc.1 hc.2.1 (by rw [← hc.2.2.1];exact (kZ ht).2) hc.2.2.2 hput,fun p hp=>by simp at hp;subst hp;exact qo hm⟩
    ·cases h
   ·cases h
  ·cases h
 ·cases h
theorem zhn {t:TypeId} {x i:Operand} (ho:o.op=.indexAddr t x i) (h:zdz P σ t (zl s x) (zl s i)=some st):Gives P o s σ id st:=by
 unfold zdz at h
 split at h
 ·rename_i hx hi
  split at h
  ·rename_i hn
   split at h
   ·rename_i hy ht
    split at h
    ·rename_i hs
     cases h
     obtain ⟨k1,k2,_⟩:=zI ht
     exact .mk0 (zbh ho k1 (by rw [hx];exact AV.le_clip _) hi hn hy (by rw [hs];exact k2))
    ·cases h
   ·cases h
  ·cases h
 ·rename_i hx hi
  split at h
  ·rename_i hm ht
   split at h
   ·rename_i hc
    cases h
    obtain ⟨k1,k2,_⟩:=zI ht
    obtain ⟨c1,c2,c3,c4,c5⟩:=hc
    subst c3;subst c4;subst c5
    exact ⟨zgJ ho k1 k2 hx hi c1 c2,fun p hp=>by simp at hp;subst hp;exact qo hm⟩
   ·cases h
  ·cases h
 ·rename_i hx hi
  split at h
  ·rename_i ht
   split at h
   ·rename_i hc
    cases h
    obtain ⟨k1,k2,_⟩:=zI ht
    exact .mk0 (zgH ho k1 k2 hx hi hc.1 hc.2)
   ·cases h
  ·cases h
 ·rename_i hx hi
  split at h
  ·rename_i hm ht
   split at h
   ·rename_i hc
    cases h
    obtain ⟨k1,k2⟩:=vH ht
    exact ⟨zgI ho k1 k2 hx hi hc.1 hc.2,fun p hp=>by simp at hp;subst hp;exact qo hm⟩
   ·cases h
  ·cases h
 ·rename_i hx hi
  split at h
  ·rename_i hn
   split at h
   ·rename_i hy ht
    split at h
    ·rename_i hs
     cases h
     obtain ⟨k1,k2,_⟩:=zI ht
     exact .mk0 (zbh ho k1 (by rw [hx];exact AV.le_refl _) hi hn hy (by rw [hs];exact k2))
    ·cases h
   ·cases h
  ·cases h
 ·rename_i hx hi
  split at h
  ·rename_i ht
   split at h
   ·rename_i hc
    cases h
    obtain ⟨k1,k2⟩:=vH ht
    exact .mk0 (zfP ho k1 k2 hx hi hc.1 hc.2)
   ·cases h
  ·cases h
 ·rename_i hx hi
  split at h
  ·rename_i ht hy
   split at h
   ·rename_i hc
    cases h
    obtain ⟨k1,k2⟩:=vH ht
    exact .mk0 (zfc ho k1 k2 hx hi hc.1 hc.2.1 hy hc.2.2)
   ·cases h
  ·cases h
 ·cases h
theorem zls {t:TypeId} {x:Operand} {lo hi mx:Option Operand} (ho:o.op=.slice t x lo hi mx) (h:zlr P s σ t (zl s x) lo hi mx=some st):Gives P o s σ id st:=by
 unfold zlr at h
 split at h
 ·rename_i hx
  split at h
  ·rename_i ht hl hh
   split at h
   ·rename_i hc
    cases h
    obtain ⟨k1,k2,_⟩:=zI ht
    exact .mk0 (zdd ho k1 k2 (by rw [hx];exact AV.le_refl _) hl hh hc.1 hc.2.1 hc.2.2)
   ·cases h
  ·cases h
 ·rename_i hx
  split at h
  ·rename_i ht hl hh
   split at h
   ·rename_i hc
    cases h
    obtain ⟨k1,k2,_⟩:=zI ht
    exact .mk0 (zdd ho k1 k2 (by rw [hx];exact AV.le_clip _) hl hh hc.1 hc.2.1 hc.2.2)
   ·cases h
  ·cases h
 ·rename_i hx
  split at h
  ·rename_i hm ht hl hh
   split at h
   ·rename_i hc
    cases h
    obtain ⟨k1,k2,_⟩:=zI ht
    obtain ⟨c1,c2,c3,c4,c5⟩:=hc
    subst c3;subst c4;subst c5
    exact ⟨zkv ho k1 k2 hx hl hh c1 c2,fun p hp=>by simp at hp;subst hp;exact qo hm⟩
   ·cases h
  ·cases h
 ·rename_i hx
  split at h
  ·rename_i y ht hl hh
   cases h
   obtain ⟨e,size,bytes,z⟩:=y
   obtain ⟨k1,k2,_⟩:=zI ht
   exact .mk0 (zil ho k1 k2 hx hl hh)
  ·cases h
 ·rename_i hx
  split at h
  ·rename_i hl hh
   split at h
   ·rename_i hc;cases h;exact .mk0 (zjw ho hc.1 hx hl hh hc.2.1 hc.2.2)
   ·cases h
  ·cases h
 ·rename_i hx
  unfold zhq at h
  split at h
  ·rename_i b n e size hb ht
   split at h
   ·rename_i hy hl hh
    split at h
    ·rename_i hc
     cases h
     obtain ⟨c1,c2,c3,c4,c5,c6⟩:=hc
     refine ⟨zik (!b) ho ht hx hy c1 c2 c3 hl hh c4 c5 (by unfold maxLen;omega),fun p hp=>?_⟩
     simp at hp
     subst hp
     rcases zcg hb with ⟨rfl,he⟩ | ⟨rfl,he⟩ <;> simpa using he
    ·cases h
   ·cases h
  ·cases h
 ·rename_i hx
  split at h
  ·rename_i ht
   split at h
   ·rename_i hl hh
    split at h
    ·rename_i hc
     cases h
     exact .mk0 (zim ho ht hx hc.1 hc.2.1 hl hh hc.2.2.1 hc.2.2.2.1 (by unfold maxLen;omega))
    ·cases h
   ·cases h
  ·cases h
 ·rename_i hx
  split at h
  ·rename_i ht hl hh hm
   split at h
   ·rename_i hc
    cases h
    obtain ⟨k1,k2,_⟩:=zI ht
    obtain ⟨c1,c2,c3,c4,c5⟩:=hc
    subst c2
    exact .mk0 (zbx ho k1 k2 (by rw [hx];exact AV.le_refl _) hl hh hm c1 c3 c4 c5)
   ·cases h
  ·cases h
 ·rename_i hx
  split at h
  ·rename_i ht hl hh hm
   split at h
   ·rename_i hc
    cases h
    obtain ⟨k1,k2,_⟩:=zI ht
    obtain ⟨c1,c2,c3,c4,c5⟩:=hc
    subst c2
    exact .mk0 (zbx ho k1 k2 (by rw [hx];exact AV.le_clip _) hl hh hm c1 c3 c4 c5)
   ·cases h
  ·cases h
 ·rename_i hx
  split at h
  ·rename_i y ht hl hh hm
   split at h
   ·rename_i hc
    cases h
    obtain ⟨e,size,bytes,z⟩:=y
    obtain ⟨k1,k2,_⟩:=zI ht
    have:=zbx (id:=id) ho k1 k2 (own:=none) (xs:=[]) (by rw [hx];exact AV.le_nils0) hl hh hm hc (Nat.le_refl _) (Nat.le_refl _) rfl
    exact .mk0 this
   ·cases h
  ·cases h
 ·cases h
theorem vj (h:zac P o.op s σ id=some st):Gives P o s σ id st:=by
 cases ho:o.op <;> rw [ho] at h <;> simp only [zac] at h <;> try (cases h;done)
 case move x=>cases h;exact .mk0 (zp1 ho)
 case assign x=>cases h;exact .mk0 (zmS ho)
 case pick c x y=>
  unfold zq4 at h
  split at h
  ·rename_i hc;cases h;exact .mk0 (zp2 ho hc)
  ·cases h
 case extract x i=>
  unfold zi6 at h
  split at h
  ·rename_i hx
   split at h
   ·rename_i hy;cases h;exact .mk0 (zlF ho hx hy)
   ·cases h
  ·cases h
 case nilCheck x=>
  unfold zhp at h
  split at h
  ·rename_i hx;cases h;rw [← hx];exact .mk0 (za5 ho (by rw [hx];trivial))
  ·rename_i hx;cases h;rw [← hx];exact .mk0 (za5 ho (by rw [hx];trivial))
  ·rename_i hx;cases h;rw [← hx];exact .mk0 (za5 ho (by rw [hx];trivial))
  ·rename_i hx;cases h;rw [← hx];exact .mk0 (za5 ho (by rw [hx];trivial))
  ·cases h
 case makeFunc fn first cap=>
  unfold zho at h
  split at h
  ·rename_i f hf;cases h;rw [zqs hf] at ho;exact .mk0 (zku ho)
  ·cases h
 case binOp op t x y yt=>
  unfold evBin at h
  split at h
  ·rename_i hx hy
   split at h
   ·rename_i hr;cases h;exact .mk0 (zoh ho hx hy hr)
   ·split at h
    ·rename_i hr;cases h;exact .mk0 (zjt ho hx hy hr)
    ·cases h
  ·rename_i hx hy
   split at h
   ·rename_i hr;cases h;exact .mk0 (zrh ho hx hy hr)
   ·cases h
  ·split at h
   ·rename_i hr;cases h;exact .mk0 (zjt ho rfl rfl hr)
   ·cases h
 case unOp op t x=>
  unfold zyn at h
  split at h
  ·rename_i hx
   split at h
   ·rename_i hr;cases h;exact .mk0 (zp3 ho hx hr)
   ·cases h
  ·cases h
 case convert src dst x=>exact zi5 ho h
 case index t x i=>
  unfold zn6 at h
  split at h
  ·rename_i hx hi
   split at h
   ·rename_i hc
    split at h
    ·rename_i hb;cases h;exact .mk0 (zjq ho hc.1 hx hi hc.2 hb)
    ·cases h
   ·cases h
  ·cases h
 case fieldAddr t x f=>
  unfold zfE at h
  split at h
  ·rename_i hx hk;cases h;exact .mk0 (zfO ho hx hk)
  ·rename_i hx hk
   split at h
   ·rename_i hm
    cases h
    exact ⟨zgG ho hx hk,fun p hp=>by simp at hp;subst hp;exact qo hm⟩
   ·cases h
  ·rename_i hx hk
   split at h
   ·rename_i hy
    split at h
    ·rename_i hs;cases h;exact .mk0 (zfa ho hx hk hy hs)
    ·cases h
   ·cases h
  ·cases h
 case load t x=>exact zmF ho h
 case store t x y=>exact zlt ho h
 case box t x=>cases h;exact .mk0 (zrg ho rfl)
 case alloc t=>
  unfold zn5 at h
  split at h
  ·rename_i hz;cases h;exact .mk0 (zog ho hz)
  ·cases h
 case indexAddr t x i=>exact zhn ho h
 case build t parts=>
  unfold evBuild at h
  split at h
  ·rename_i hz hp
   split at h
   ·rename_i hf;cases h;exact .mk0 (zgF ho hz hp hf)
   ·cases h
  ·rename_i hz hp ht
   split at h
   ·rename_i hf
    cases h
    obtain ⟨k1,k2⟩:=vH ht
    exact .mk0 (zhD ho hz k1 k2 hf)
   ·cases h
  ·cases h
 case buildSlice t len parts=>
  unfold zei at h
  split at h
  ·rename_i ht
   split at h
   ·rename_i hf
    split at h
    ·rename_i hc
     cases h
     obtain ⟨k1,k2,k3,k4,k5,k6⟩:=zI ht
     exact .mk0 (zii ho k1 k2 k4 k6 k5 hc.1 hf hc.2.1 hc.2.2)
    ·cases h
   ·cases h
  ·cases h
 case slice t x lo hi mx=>exact zls ho h
 case makeInterface t x=>
  split at h
  ·rename_i hc;cases h;exact .mk0 (zfQ ho hc)
  ·cases h
 case typeAssert x xt t ok=>
  cases ok with
  | false=>cases h
  | true=>
   simp only [Option.map_eq_some_iff] at h
   obtain ⟨v,hv,rfl⟩:=h
   exact .mk0 (zin ho hv)
 case makeSlice t x y=>
  unfold zfF at h
  split at h
  ·rename_i ht hx hy
   split at h
   ·rename_i hc
    cases h
    obtain ⟨k1,k2,k3,k4,k5,k6⟩:=zI ht
    exact .mk0 (zjs ho k1 k2 k3 k4 k5 k6 hx hy hc.1 hc.2.1 hc.2.2.1 hc.2.2.2)
   ·cases h
  ·cases h
 case call c=>
  unfold zkN at h
  obtain ⟨callee,args,ts⟩:=c
  cases callee with
  | builtin b=>exact zi3 ho h
  | value=>cases h
  | invoke=>cases h
end
abbrev Trace:=List (Nat × Foot × Foot)
def addT (i:Nat) (st:Step) (T:Trace):Trace:=
 match st.pre,st.post with
 | [],[]=>T
 | p,q=>(i,p,q)::T
def AStepX (P:Program) (o:Oper) (c:Cfg) (id:Nat) (k:Step→Prop):Prop:=∃ st,Gives P o c.s c.σ id st∧k st
def zeP (ops:Array Oper) (gd:Option (Nat × Bool)) (s:Slots):Option Bool:=
 match gd with
 | none=>some true
 | some (j,want)=>
  match (ops[j]?).bind (·.dst) with
  | none=>none
  | some d=>
   match s d with
   | .lit (.bool b)=>some (b == want)
   | .tup []=>some false
   | _=>none
theorem yY (ops:Array Oper) (s:Slots):zeP ops none s=some true:=rfl
def astep (P:Program) (o:Oper) (c:Cfg) (id:Nat) (k:Step→Prop):Prop:=AStepX P o c id k
theorem znO {P:Program} {o:Oper} {c:Cfg} {id:Nat} {k:Step→Prop} (h:astep P o c id k):∃ st,Gives P o c.s c.σ id st∧k st:=h
def aguard (b:Option Bool) (A B:Prop):Prop:=
 match b with
 | some b=>(b=true→A)∧(b=false→B)
 | none=>False
theorem xl (A B:Prop):aguard (some true) A B=A:=by simp [aguard]
theorem zms (A B:Prop):aguard (some false) A B=B:=by simp [aguard]
@[congr] theorem ztF {b b':Option Bool} (h:b=b') (A B:Prop):aguard b A B=aguard b' A B:=by rw [h]
def aops (P:Program) (ops:Array Oper) (m:Nat):List Oper→Nat→Trace→(Cfg→Trace→Prop)→Cfg→Prop
 | [],_,T,k,c=>k c T
 | o::r,i,T,k,c=>aguard (zdN ops o c.s) (astep P o c (m+i) fun st=>aops P ops m r (i+1) (addT i st T) k (c.after o.dst st)) (aops P ops m r (i+1) T k (c.after o.dst ⟨[],.tup [],[]⟩))
theorem vp (P:Program) (ops:Array Oper) (m i:Nat) (T:Trace) (k:Cfg→Trace→Prop) (d:Option Tmp) (op:Op) (ty:TypeId) (pos:String) (after:Array Edge) (gd:Option (Nat × Bool)) (r:List Oper) (s:Slots) (σ:Nat→Ent) (n:Nat):
  aops P ops m (⟨d,op,ty,pos,after,gd⟩::r) i T k ⟨s,σ,n⟩=aguard (zeP ops gd s) (AStepX P ⟨d,op,ty,pos,after,gd⟩ ⟨s,σ,n⟩ (m+i) fun st=>aops P ops m r (i+1) (addT i st T) k ⟨znB s d st.v,wr σ st.post,n⟩) (aops P ops m r (i+1) T k ⟨znB s d (.tup []),σ,n⟩):=rfl
@[congr] theorem zva {c c':Cfg} {T T':Trace} (h:c=c') (hT:T=T') (P:Program) (ops:Array Oper) (m:Nat) (l:List Oper) (i:Nat) (k:Cfg→Trace→Prop):aops P ops m l i T k c=aops P ops m l i T' k c':=by rw [h,hT]
@[congr] theorem ztC {c c':Cfg} (h:c=c') (P:Program) (o:Oper) (id:Nat) (k:Step→Prop):AStepX P o c id k=AStepX P o c' id k:=by rw [h]
def zll:List Oper→List Nat→List Nat
 | [],ms=>ms
 | o::r,ms=>zll r (ms++[o.after.toList.foldl (fun s e=>if Region.binds .any e then s ||| 2 ^ e.on ||| ms.getD e.on 0 else s) 0])
def depB (ops:Array Oper) (i j:Nat):Bool:=((zll ops.toList []).getD j 0).testBit i
theorem zfh (ops:Array Oper):∀ (l:List Oper) (k:Nat) (ms:List Nat),(∀ j,l[j]?=ops[k+j]?)→ms.length=k→(∀ i j,(ms.getD j 0).testBit i=true→Dep ops i j) →
  ∀ i j,((zll l ms).getD j 0).testBit i=true→Dep ops i j
 | [],_,ms,_,_,h=>h
 | o::l,k,ms,hl,hlen,h=>by
  have h0:ops[k]?=some o:=by simpa using (hl 0).symm
  refine zfh ops l (k+1) _ (fun j=>by have:=hl (j+1);simpa [Nat.add_assoc,Nat.add_comm 1 j] using this) (by simp [hlen]) fun i j hb=>?_
  by_cases hj:j < ms.length
  ·rw [List.getD_eq_getElem?_getD,List.getElem?_append_left hj,← List.getD_eq_getElem?_getD] at hb
   exact h i j hb
  ·by_cases hjk:j=k
   ·subst hjk
    rw [List.getD_eq_getElem?_getD,List.getElem?_append_right oo,hlen] at hb
    simp only [Nat.sub_self,List.getElem?_cons_zero,Option.getD_some] at hb
    have key:∀ (es:List Edge) (s0:Nat),(∀ e∈es,e∈o.after.toList)→((s0.testBit i=true→Dep ops i j)) →
      (es.foldl (fun s e=>if Region.binds .any e then s ||| 2 ^ e.on ||| ms.getD e.on 0 else s) s0).testBit i=true→Dep ops i j:=by
     intro es
     induction es with
     | nil=>intro s0 _ h0 hb;exact h0 hb
     | cons e r ih=>
      intro s0 hm h1 hb
      refine ih _ (fun e' he'=>hm e' (List.mem_cons_of_mem _ he')) ?_ hb
      intro hb'
      simp only at hb'
      split at hb'
      ·rename_i hbe
       have he:e∈o.after:=by have:=hm e (List.mem_cons_self ..);simpa using this
       have hd:Dep ops e.on j:=.edge e.on j o e h0 he hbe rfl
       rw [Nat.testBit_or,Nat.testBit_or,Bool.or_eq_true,Bool.or_eq_true] at hb'
       rcases hb' with (hb' | hb') | hb'
       ·exact h1 hb'
       ·rw [Nat.testBit_two_pow] at hb'
        have:e.on=i:=by simpa using hb'
        rw [← this];exact hd
       ·exact .trans i e.on j (h i e.on hb') hd
      ·exact h1 hb'
    exact key _ 0 (fun e he=>he) (fun hb=>by simp at hb) hb
   ·rw [List.getD_eq_getElem?_getD,List.getElem?_append_right oo] at hb
    have:(List.length ms)+1≤j:=by omega
    rw [List.getElem?_eq_none (by simp;omega)] at hb
    simp at hb
theorem zpR {ops:Array Oper} {i j:Nat} (h:depB ops i j=true):Dep ops i j:=
 zfh ops ops.toList 0 [] (fun j=>by simp) rfl (fun i j hb=>by simp at hb) i j h
def zpD (x y:Foot × Foot):Prop:=(∀ p∈x.2,∀ q∈y.1++y.2,p.1≠q.1)∧(∀ p∈x.1,∀ q∈y.2,p.1≠q.1)
def Ind (ops:Array Oper) (i j:Nat) (x y:Foot × Foot):Prop:=depB ops i j=true∨zpD x y
def CFy (ops:Array Oper) (y:Nat × Foot × Foot):Trace→Prop
 | []=>True
 | x::r=>Ind ops x.1 y.1 x.2 y.2∧CFy ops y r
def CF (ops:Array Oper):Trace→Prop
 | []=>True
 | y::r=>CFy ops y r∧CF ops r
section
variable {P:Program} {ops:Array Oper} {m:Nat}
def zgb:Nat→List Step→Trace→Trace
 | _,[],T=>T
 | i,st::r,T=>zgb (i+1) r (addT i st T)
theorem zle {Q:Cfg→Trace→Prop}:∀ (l:List Oper) (i:Nat) (T:Trace) (c:Cfg),aops P ops m l i T Q c →
  ∃ outs:List Step,outs.length=l.length∧∀ out:Nat→Step,(∀ j,j < l.length→out (i+j)=outs.getD j default)→zwr P ops m out (fun c'=>Q c' (zgb i outs T)) l i c
 | [],i,T,c,h=>⟨[],rfl,fun out _=>h⟩
 | o::l,i,T,c,h=>by
  simp only [aops,aguard] at h
  cases hw:zdN ops o c.s with
  | none=>rw [hw] at h;exact h.elim
  | some b=>
   rw [hw] at h
   cases b with
   | true=>
    obtain ⟨st,hg,hk⟩:=znO (h.1 rfl)
    obtain ⟨outs,hl,hr⟩:=zle l (i+1) _ _ hk
    refine ⟨st::outs,by simp [hl],fun out ho=>?_⟩
    have h0:out i=st:=by simpa using ho 0 (by simp)
    refine ⟨.inl ⟨hw,?_⟩,?_⟩
    ·rw [h0];exact hg
    ·rw [h0]
     exact hr out fun j hj=>by
      have:=ho (j+1) (by simp;omega)
      rw [show i+(j+1)=i+1+j from by omega] at this
      simpa using this
   | false=>
    obtain ⟨outs,hl,hr⟩:=zle l (i+1) _ _ (h.2 rfl)
    refine ⟨⟨[],.tup [],[]⟩::outs,by simp [hl],fun out ho=>?_⟩
    have h0:out i=⟨[],.tup [],[]⟩:=by simpa using ho 0 (by simp)
    refine ⟨.inr ⟨hw,h0⟩,?_⟩
    ·rw [h0]
     exact hr out fun j hj=>by
      have:=ho (j+1) (by simp;omega)
      rw [show i+(j+1)=i+1+j from by omega] at this
      simpa using this
def IndS (ops:Array Oper) (i j:Nat) (x y:Step):Prop:=Ind ops i j (x.pre,x.post) (y.pre,y.post)
theorem zqA {y:Nat × Foot × Foot}:∀ {T:Trace},CFy ops y T→∀ x∈T,Ind ops x.1 y.1 x.2 y.2
 | [],_,x,hx=>by cases hx
 | z::r,h,x,hx=>by
  rcases List.mem_cons.1 hx with rfl | hx
  ·exact h.1
  ·exact zqA h.2 x hx
theorem zmg:∀ (outs:List Step) (i:Nat) (T:Trace),CF ops (zgb i outs T) →
  CF ops T∧(∀ x∈T,∀ (j:Nat) (st:Step),outs[j]?=some st→Ind ops x.1 (i+j) x.2 (st.pre,st.post)) ∧
  (∀ (j k:Nat) (st st':Step),j < k→outs[j]?=some st→outs[k]?=some st'→IndS ops (i+j) (i+k) st st')
 | [],i,T,h=>⟨h,fun x _ j st hst=>by simp at hst,fun j k st st' _ hst _=>by simp at hst⟩
 | st0::outs,i,T,h=>by
  obtain ⟨h1,h2,h3⟩:=zmg outs (i+1) (addT i st0 T) h
  by_cases he:st0.pre=[]∧st0.post=[]
  ·have hT:addT i st0 T=T:=by simp [addT,he.1,he.2]
   rw [hT] at h1 h2
   refine ⟨h1,fun x hx j st hst=>?_,fun j k st st' hjk hst hst'=>?_⟩
   ·cases j with
    | zero=>
     simp at hst;subst hst
     exact .inr ⟨by simp [he.1,he.2],by simp [he.2]⟩
    | succ j=>
     have:=h2 x hx j st (by simpa using hst)
     rwa [show i+(j+1)=i+1+j from by omega]
   ·cases j with
    | zero=>
     simp at hst;subst hst
     exact .inr ⟨by simp [he.2],by simp [he.1]⟩
    | succ j=>
     cases k with
     | zero=>omega
     | succ k=>
      have:=h3 j k st st' oo (by simpa using hst) (by simpa using hst')
      rwa [show i+(j+1)=i+1+j from by omega,show i+(k+1)=i+1+k from by omega]
  ·have hT:addT i st0 T=(i,st0.pre,st0.post)::T:=by
    unfold addT
    split
    ·rename_i a b;exact absurd ⟨a,b⟩ he
    ·rfl
   rw [hT] at h1 h2
   refine ⟨h1.2,fun x hx j st hst=>?_,fun j k st st' hjk hst hst'=>?_⟩
   ·cases j with
    | zero=>simp at hst;subst hst;exact zqA h1.1 x hx
    | succ j=>
     have:=h2 x (List.mem_cons_of_mem _ hx) j st (by simpa using hst)
     rwa [show i+(j+1)=i+1+j from by omega]
   ·cases j with
    | zero=>
     simp at hst;subst hst
     cases k with
     | zero=>omega
     | succ k=>
      have:=h2 (i,st0.pre,st0.post) (List.mem_cons_self ..) k st' (by simpa using hst')
      unfold IndS
      rwa [show i+(k+1)=i+1+k from by omega]
    | succ j=>
     cases k with
     | zero=>omega
     | succ k=>
      have:=h3 j k st st' oo (by simpa using hst) (by simpa using hst')
      rwa [show i+(j+1)=i+1+j from by omega,show i+(k+1)=i+1+k from by omega]
theorem zny {W0:World} {g:Ghost} {N:Nat} {c:Cfg} {a:Act} {w:World} {id:Nat} {draw:Bool} {Q:Cfg→Prop} {Q':Exit→Act→World→Prop} (hmix:P.follows .mixedOrders=true) (hN:zhQ N ops=true)
  (hB:draw=true→Region.lexB .any ops=true) (hS:SimA W0 g N c a w) (h:aops P ops c.n ops.toList 0 [] (fun c' T=>(draw=true→CF ops T)∧Q c') { c with n:=c.n+ops.size })
  (hQ:∀ c g' a' w,g.le g'→SimA W0 g' N c a' w→a'.defers=a.defers→Q c→Q' .normal a' w) {ro:Option Nat}:(Code.region id ops draw).wpIn (wideAt ro) 0 P Q' a w:=by
 obtain ⟨outs,hl,hr⟩:=zle _ _ _ _ h
 have hlex:=hr (fun j=>outs.getD j default) fun j _=>by simp
 have hS':SimA W0 g N { c with n:=c.n+ops.size } a w:=⟨hS.sim.more (by simp),hS.size,hS.slots⟩
 have hfree:∀ j,c.σ (c.n+j)=.none:=fun j=>hS.sim.bound _ oo
 cases draw with
 | false=>
  refine wpIn_region ?_
  have:=zkR (ro:=ro) (m:=c.n) (P:=P) (ops:=ops) (out:=fun j=>outs.getD j default) (Q:=fun c'=>(false=true→CF ops (zgb 0 outs []))∧Q c') (Q':=Q') (W0:=W0) g hN (fun c g' a w hg hs hd hq=>hQ c g' a w hg hs hd hq.2) ops.toList 0 { c with n:=c.n+ops.size } g a w
   (fun j=>by simp) (by simp) g.le_refl hS' rfl (Nat.le_refl _) (fun j _ _=>hfree j) hlex
  rw [List.range_eq_range']
  simpa using this
 | true=>
  have hB':=hB rfl
  simp only [Region.lexB,Bool.and_eq_true] at hB'
  have hdis:CF ops (zgb 0 outs [])→∀ i j,i < j→¬ Dep ops i j→Disj (outs.getD i default) (outs.getD j default):=by
   intro hCF i j hij hnd
   obtain ⟨_,_,h3⟩:=zmg outs 0 [] hCF
   by_cases hj:j < outs.length
   ·have hi:i < outs.length:=by omega
    have:=h3 i j outs[i] outs[j] hij (List.getElem?_eq_getElem hi) (List.getElem?_eq_getElem hj)
    have e1:outs.getD i default=outs[i]:=by simp [List.getD,List.getElem?_eq_getElem hi]
    have e2:outs.getD j default=outs[j]:=by simp [List.getD,List.getElem?_eq_getElem hj]
    rw [e1,e2]
    rcases this with hd | hd
    ·simp only [Nat.zero_add] at hd
     exact absurd (zpR hd) hnd
    ·exact hd
   ·have e2:outs.getD j default=(default:Step):=by simp [List.getD,List.getElem?_eq_none (Nat.not_lt.1 hj)]
    rw [e2]
    refine ⟨fun p _ q hq=>?_,fun p _ q hq=>?_⟩
    ·exact (List.not_mem_nil hq).elim
    ·exact (List.not_mem_nil hq).elim
  refine wpIn_region_any hmix ?_
  by_cases hCF:CF ops (zgb 0 outs [])
  ·have hany:=zoW (P:=P) (ops:=ops) (m:=c.n) (out:=fun j=>outs.getD j default) (Q:=fun c'=>(true=true→CF ops (zgb 0 outs []))∧Q c') (hdis hCF) ops.toList 0 (Array.replicate ops.size false) { c with n:=c.n+ops.size }
    (fun j=>by simp) (fun k o ho hk=>by
     exfalso
     rcases Nat.lt_or_ge k ops.size with h' | h'
     ·simp [h'] at hk
     ·simp [h'] at hk) (fun j hj=>by omega) (by simpa using hB'.2) hlex
   have:=zkI (ro:=ro) (W0:=W0) (Q':=Q') g hN (fun c g' a w hg hs hd hq=>hQ c g' a w hg hs hd hq.2) ops.toList.length (Array.replicate ops.size false) _ g a { w with drawn:=w.drawn+1 } g.le_refl ⟨hS'.sim.drew,hS'.size,hS'.slots⟩ rfl (Nat.le_refl _) (fun j _ _=>hfree j) hany
   simpa using this
  ·exfalso
   have fin:∀ (l:List Oper) (k:Nat) (c:Cfg) (mm:Nat),zwr P ops mm (fun j=>outs.getD j default) (fun c'=>(true=true→CF ops (zgb 0 outs []))∧Q c') l k c→CF ops (zgb 0 outs []):=by
    intro l
    induction l with
    | nil=>intro k c mm hx;exact hx.1 rfl
    | cons o r ih=>intro k c mm hx;exact ih _ _ _ hx.2
   exact hCF (fin _ _ _ _ hlex)
end
inductive AExit where
 | normal
 | exit (id:Nat)
 | ret
def aThen (next:Cfg→Prop) (Q:AExit→Cfg→Prop):AExit→Cfg→Prop
 | .normal,c=>next c
 | e,c=>Q e c
def aBlk (id:Nat) (Q:AExit→Cfg→Prop):AExit→Cfg→Prop
 | .exit id',c=>if id'=id then Q .normal c else Q (.exit id') c
 | e,c=>Q e c
def acond (v:AV) (A B:Prop):Prop:=
 match v with
 | .lit (.bool b)=>(b=true→A)∧(b=false→B)
 | _=>False
def zrz (p:Nat × Nat):Deferred:={ target:=.collected p.2,args:=#[] }
def Marks (g g':Ghost) (D D':List Deferred):Prop:=∃ L:List (Nat × Nat),D'=L.map zrz++D∧(L.map (·.1)).Nodup∧∀ p∈L,¬ g.has p.1∧g'.loc p.1=some p.2∧g'.row p.1≠none
theorem Marks.refl (g g':Ghost) (D:List Deferred):Marks g g' D D:=⟨[],rfl,List.nodup_nil,fun d hd=>(by cases hd)⟩
theorem Marks.of_eq {g g':Ghost} {D D':List Deferred} (h:D'=D):Marks g g' D D':=h ▸ .refl g g' D
theorem Marks.trans {g g1 g2:Ghost} {D D1 D2:List Deferred} (hle:g.le g1) (hle2:g1.le g2) (h:Marks g g1 D D1) (h':Marks g1 g2 D1 D2):Marks g g2 D D2:=by
 obtain ⟨M,rfl,hn,hM⟩:=h
 obtain ⟨M',rfl,hn',hM'⟩:=h'
 refine ⟨M'++M,by simp,?_,fun d hd=>?_⟩
 ·rw [List.map_append,List.nodup_append]
  refine ⟨hn',hn,fun a ha b hb hab=>?_⟩
  obtain ⟨p,hp,rfl⟩:=List.mem_map.1 ha
  obtain ⟨q,hq,rfl⟩:=List.mem_map.1 hb
  exact (hM' p hp).1 (.inl (by rw [hab,(hM q hq).2.1];simp))
 ·rcases List.mem_append.1 hd with hd | hd
  ·obtain ⟨h2,h3,h4⟩:=hM' d hd
   exact ⟨fun hj=>h2 (hle.has hj),h3,h4⟩
  ·obtain ⟨h2,h3,h4⟩:=hM d hd
   exact ⟨h2,hle2.loc _ _ h3,hle2.row_ne h4⟩
def LQ (W0:World) (g:Ghost) (N:Nat) (D:List Deferred) (Q:AExit→Cfg→Prop):Exit→Act→World→Prop:=fun e a w=>
 ∃ c g',g.le g'∧SimA W0 g' N c a w∧Marks g g' D a.defers∧match e with
  | .normal=>Q .normal c
  | .exit id=>Q (.exit id) c
  | .ret=>Q .ret c
  | _=>False
theorem LQ.mono {W0:World} {g g':Ghost} {N:Nat} {D D':List Deferred} {Q:AExit→Cfg→Prop} (hg:g.le g') (hM:Marks g g' D D') {e:Exit} {a:Act} {w:World} (h:LQ W0 g' N D' Q e a w):LQ W0 g N D Q e a w:=
 let ⟨c,g'',hle,hs,hm,hq⟩:=h
 ⟨c,g'',hg.trans hle,hs,hM.trans hg hle hm,hq⟩
def kReg (ops:Array Oper) (draw:Bool) (Q:AExit→Cfg→Prop) (c:Cfg) (T:Trace):Prop:=(draw=true→CF ops T)∧Q .normal c
theorem zp6 (ops:Array Oper) (Q:AExit→Cfg→Prop) (c:Cfg) (T:Trace):kReg ops false Q c T=Q .normal c:=by simp [kReg]
theorem zjy (ops:Array Oper) (Q:AExit→Cfg→Prop) (c:Cfg) (T:Trace):kReg ops true Q c T=(CF ops T∧Q .normal c):=by simp [kReg]
theorem zvF (ops:Array Oper) (x:Nat × Foot × Foot):CF ops [x]=True:=by simp [CF,CFy]
@[congr] theorem zuc {v v':AV} (h:v=v') (A B:Prop):acond v A B=acond v' A B:=by rw [h]
def wJ (N:Nat):Code→Bool
 | .seq x y=>wJ N x && wJ N y
 | .cond x y z=>zjE x && wJ N y && wJ N z
 | .block _ b=>wJ N b
 | .loop b=>wJ N b
 | .scope b=>wJ N b
 | .region _ ops draw=>zhQ N ops && (!draw || Region.lexB .any ops)
 | .rangeFunc f _ a b=>zjE f && wJ N a && wJ N b
 | _=>true
@[congr] theorem zub {c c':Cfg} (h:c=c') (Q:AExit→Cfg→Prop) (next:Cfg→Prop) (e:AExit):aThen next Q e c=aThen next Q e c':=by rw [h]
@[congr] theorem zu7 {c c':Cfg} (h:c=c') (Q:AExit→Cfg→Prop) (id:Nat) (e:AExit):aBlk id Q e c=aBlk id Q e c':=by rw [h]
@[congr] theorem zvt {c c':Cfg} {T T':Trace} (h:c=c') (hT:T=T') (ops:Array Oper) (draw:Bool) (Q:AExit→Cfg→Prop):kReg ops draw Q c T=kReg ops draw Q c' T':=by rw [h,hT]
def zbA:Code→Bool
 | .seq x y=>zbA x && zbA y
 | .cond _ y z=>zbA y && zbA z
 | .block _ b=>zbA b
 | .loop b=>zbA b
 | .scope b=>zbA b
 | .rangeFunc ..=>false
 | _=>true
def roOK (ro:Option Nat) (b:Code):Prop:=ro=none∨zbA b=true
theorem roOK.seq {ro:Option Nat} {x y:Code} (h:roOK ro (.seq x y)):roOK ro x∧roOK ro y:=by
 rcases h with h | h
 ·exact ⟨.inl h,.inl h⟩
 ·simp only [zbA,Bool.and_eq_true] at h;exact ⟨.inr h.1,.inr h.2⟩
theorem roOK.cond {ro:Option Nat} {c:Operand} {x y:Code} (h:roOK ro (.cond c x y)):roOK ro x∧roOK ro y:=by
 rcases h with h | h
 ·exact ⟨.inl h,.inl h⟩
 ·simp only [zbA,Bool.and_eq_true] at h;exact ⟨.inr h.1,.inr h.2⟩
theorem roOK.block {ro:Option Nat} {id:Nat} {x:Code} (h:roOK ro (.block id x)):roOK ro x:=h.imp (fun h=>h) fun h=>h
theorem roOK.loop {ro:Option Nat} {x:Code} (h:roOK ro (.loop x)):roOK ro x:=h
theorem roOK.scope {ro:Option Nat} {x:Code} (h:roOK ro (.scope x)):roOK ro x:=h
def aw (P:Program) (N:Nat) (b:Code) (Q:AExit→Cfg→Prop) (c:Cfg):Prop:=
 wJ N b=true→P.follows .mixedOrders=true→∀ (ro:Option Nat),roOK ro b→∀ W0 g a w,SimA W0 g N c a w→b.wpIn (wideAt ro) 0 P (LQ W0 g N a.defers Q) a w
abbrev ALoop (P:Program) (N:Nat) (b:Code) (Q:AExit→Cfg→Prop) (c:Cfg):Prop:=aw P N (.loop b) Q c
theorem za2 {P:Program} {b:Frame} {a:Act} {k:List Item} {cs:List Frame} {w:World} {c:Code}:step P (lone (b.atR a (.code (.scope c)::k)) cs w)=.next (lone (b.atR a (.code c::.inScope c::k)) cs w):=
 step_lone_go (by simp [stepG,stepG.exec,Frame.atR])
theorem zl4 {P:Program} {b:Frame} {a:Act} {k:List Item} {cs:List Frame} {w:World} {c:Code}:step P (lone (b.atR a (.inScope c::k)) cs w)=.next (lone (b.atR a k) cs w):=
 step_lone_go (by simp [stepG,stepG.exec,Frame.atR])
theorem zf6 {F:Fence} {m:Nat} {P:Program} {Q:Exit→Act→World→Prop} {a:Act} {w:World} {c:Code} (h:c.wpIn F m P (Exit.noGoto Q) a w):(Code.scope c).wpIn F m P Q a w:=by
 intro b k cs hro hb hr
 have h0:(lone (b.atR a (.code (.scope c)::k)) cs w).fenced P F:=fenced_calm hb hr rfl
 obtain ⟨e,a₁,w₁,hq,harr⟩:=h b (.inScope c::k) cs hro hb hr
 cases e with
 | normal=>exact ⟨.normal,a₁,w₁,hq,.head h0 za2 (StepsIn.trans harr (.one (fenced_calm hb hr rfl) zl4))⟩
 | exit id=>
  have hx:exitTo id (.inScope c::k)=exitTo id k:=by simp [exitTo]
  exact ⟨.exit id,a₁,w₁,hq,fun k' hk=>.head h0 za2 (harr.1 k' (by rw [hx];exact hk)),
   fun hr' hk=>let ⟨k₁,h1,h2⟩:=harr.2 hr' (by rw [hx];exact hk);⟨k₁,h1,.head h0 za2 h2⟩⟩
 | goto l=>exact hq.elim
 | ret=>exact ⟨_,a₁,w₁,hq,.of_steps (.one h0 za2) harr⟩
 | panic ch=>exact ⟨_,a₁,w₁,hq,.of_steps (.one h0 za2) harr⟩
 | outgrown=>exact ⟨_,a₁,w₁,hq,.of_steps (.one h0 za2) harr⟩
section
variable {P:Program} {N:Nat} {Q:AExit→Cfg→Prop} {c:Cfg}
@[congr] theorem zxo {c c':Cfg} (h:c=c') (P:Program) (N:Nat) (Q:AExit→Cfg→Prop) (b:Code):aw P N b Q c=aw P N b Q c':=by rw [h]
theorem zjl (h:Q .normal c):aw P N .skip Q c:=fun _ _ _ _ _ g _ _ hS=>wpIn_skip ⟨c,g,g.le_refl,hS,.refl _ _ _,h⟩
theorem zgC {l:Nat} (h:Q .normal c):aw P N (.label l) Q c:=fun _ _ _ _ _ g _ _ hS=>wpIn_label ⟨c,g,g.le_refl,hS,.refl _ _ _,h⟩
theorem zji {id:Nat} (h:Q (.exit id) c):aw P N (.exit id) Q c:=fun _ _ _ _ _ g _ _ hS=>wpIn_exit ⟨c,g,g.le_refl,hS,.refl _ _ _,h⟩
theorem zmN (h:Q .ret c):aw P N .ret Q c:=fun _ _ _ _ _ g _ _ hS=>wpIn_ret ⟨c,g,g.le_refl,hS,.refl _ _ _,h⟩
theorem zmO {x y:Code} (h:aw P N x (aThen (aw P N y Q) Q) c):aw P N (.seq x y) Q c:=fun hok hmix ro hro W0 g a w hS=>by
 simp only [wJ,Bool.and_eq_true] at hok
 refine wpIn_seq (wpIn_mono (h hok.1 hmix ro hro.seq.1 W0 g a w hS) fun e a' w' hq=>?_)
 obtain ⟨c',g',hle,hS',hM,hq⟩:=hq
 cases e with
 | normal=>exact wpIn_mono (hq hok.2 hmix ro hro.seq.2 W0 g' a' w' hS') fun e a w hq=>hq.mono hle hM
 | exit id=>exact ⟨c',g',hle,hS',hM,hq⟩
 | ret=>exact ⟨c',g',hle,hS',hM,hq⟩
 | goto=>exact hq.elim
 | panic=>exact hq.elim
 | outgrown=>exact hq.elim
theorem zra {x:Operand} {y z:Code} {b:Bool} (hv:zl c.s x=.lit (.bool b)) (h1:b=true→aw P N y Q c) (h2:b=false→aw P N z Q c):aw P N (.cond x y z) Q c:=fun hok hmix ro hro W0 g a w hS=>by
 simp only [wJ,Bool.and_eq_true] at hok
 have hr:=hS.eval hok.1.1
 rw [hv] at hr
 exact wpIn_cond_split (zN hr) (fun hb'=>h1 hb' hok.1.2 hmix ro hro.cond.1 W0 g a w hS) (fun hb'=>h2 hb' hok.2 hmix ro hro.cond.2 W0 g a w hS)
theorem zlw {x:Operand} {y z:Code} (hv:zl c.s x=.lit (.bool true)) (h:aw P N y Q c):aw P N (.cond x y z) Q c:=zra hv (fun _=>h) (fun h=>by cases h)
theorem zgx {x:Operand} {y z:Code} (hv:zl c.s x=.lit (.bool false)) (h:aw P N z Q c):aw P N (.cond x y z) Q c:=zra hv (fun h=>by cases h) (fun _=>h)
theorem zgw {id:Nat} {b:Code} (h:aw P N b (aBlk id Q) c):aw P N (.block id b) Q c:=fun hok hmix ro hro W0 g a w hS=>by
 refine wpIn_block (wpIn_mono (h hok hmix ro hro.block W0 g a w hS) fun e a' w' hq=>?_)
 obtain ⟨c',g',hle,hS',hM,hq⟩:=hq
 cases e with
 | normal=>exact ⟨c',g',hle,hS',hM,hq⟩
 | exit id'=>
  simp only [aBlk] at hq
  simp only [Exit.inBlock]
  split at hq
  ·rename_i he;rw [if_pos he];exact ⟨c',g',hle,hS',hM,hq⟩
  ·rename_i he;rw [if_neg he];exact ⟨c',g',hle,hS',hM,hq⟩
 | ret=>exact ⟨c',g',hle,hS',hM,hq⟩
 | goto=>exact hq.elim
 | panic=>exact hq.elim
 | outgrown=>exact hq.elim
theorem zgD {b:Code} (h:aw P N b Q c):aw P N (.scope b) Q c:=fun hok hmix ro hro W0 g a w hS=>by
 refine zf6 (wpIn_mono (h hok hmix ro hro.scope W0 g a w hS) fun e a' w' hq=>?_)
 obtain ⟨c',g',hle,hS',hM,hq⟩:=hq
 cases e with
 | normal=>exact ⟨c',g',hle,hS',hM,hq⟩
 | exit id=>exact ⟨c',g',hle,hS',hM,hq⟩
 | ret=>exact ⟨c',g',hle,hS',hM,hq⟩
 | goto=>exact hq.elim
 | panic=>exact hq.elim
 | outgrown=>exact hq.elim
theorem xI {id:Nat} {l:List Oper} {draw:Bool} {s:Slots} {σ:Nat→Ent} {n n':Nat} (hn:n+l.length=n') (h:aops P l.toArray n l 0 [] (kReg l.toArray draw Q) ⟨s,σ,n'⟩):aw P N (.region id l.toArray draw) Q ⟨s,σ,n⟩:=fun hok hmix ro hro W0 g a w hS=>by
 subst hn
 simp only [wJ,Bool.and_eq_true,Bool.or_eq_true,Bool.not_eq_true'] at hok
 exact zny hmix hok.1 (fun hd=>hok.2.resolve_left (by simp [hd])) hS h fun c g' a w hg hs hd hq=>⟨c,g',hg,hs,.of_eq hd,hq⟩
theorem za0 {b:Code} (h:ALoop P N b Q c):aw P N (.loop b) Q c:=h
theorem qF {b:Code} {c':Cfg} (hg:∀ W0 g a w,SimA W0 g N c a w→∃ g',g.le g'∧SimA W0 g' N c' a w) (h:aw P N b Q c'):aw P N b Q c:=fun hok hmix ro hro W0 g a w hS=>by
 obtain ⟨g',hle,hS'⟩:=hg W0 g a w hS
 exact wpIn_mono (h hok hmix ro hro W0 g' a w hS') fun e a w hq=>hq.mono hle (.refl _ _ _)
theorem zhZ {b:Code} {Q':AExit→Cfg→Prop} (h:aw P N b Q' c) (hq:∀ e c',Q' e c'→Q e c'):aw P N b Q c:=fun hok hmix ro hro W0 g a w hS=>
 wpIn_mono (h hok hmix ro hro W0 g a w hS) fun e a w ⟨c',g',hle,hS',hM,hQ⟩=>⟨c',g',hle,hS',hM,by cases e <;> first | exact hq _ _ hQ | exact hQ.elim⟩
end
theorem zdO {F:Fence} {m:Nat} {P:Program} {Q:Exit→Act→World→Prop} {a:Act} {w:World} {c:Code} {X:Type} (I:X→Act→World→Prop) (μ:X→Nat) (x:X) (h₀:I x a w)
  (round:∀ x a w,I x a w→c.wpIn F m P (Exit.then (fun a' w'=>∃ y,I y a' w'∧μ y < μ x) Q) a w):(Code.loop c).wpIn F m P Q a w:=by
 intro b k cs hro hb hr
 have key:∀ n x a w,μ x=n→I x a w →
   ∃ e a' w',Q e a' w'∧ArrivesIn (Machine.fenced P F) P (lone (b.atR a (.code c::.inLoop c::k)) cs w) b k cs e a' w':=by
  intro n
  induction n using Nat.strongRecOn with
  | _ n ih=>
   intro x a w hn hI
   obtain ⟨e,a₁,w₁,hq,harr⟩:=round x a w hI b (.inLoop c::k) cs hro hb hr
   cases e with
   | normal=>
    obtain ⟨y,hI₁,hlt⟩:=hq
    obtain ⟨e₂,a₂,w₂,hq₂,harr₂⟩:=ih (μ y) (hn ▸ hlt) y a₁ w₁ rfl hI₁
    exact ⟨e₂,a₂,w₂,hq₂,.of_steps (StepsIn.trans harr (.one (fenced_calm hb hr rfl) stepR_inLoop)) harr₂⟩
   | exit id=>exact ⟨_,a₁,w₁,hq,.pass (x:=.inLoop c) rfl (fun _ _=>.inl (by simp)) harr⟩
   | goto l=>exact ⟨_,a₁,w₁,hq,.pass (x:=.inLoop c) rfl (fun _ _=>.inl (by simp)) harr⟩
   | ret=>exact ⟨_,a₁,w₁,hq,.pass (x:=.inLoop c) rfl (fun _ _=>.inl (by simp)) harr⟩
   | panic ch=>exact ⟨_,a₁,w₁,hq,.pass (x:=.inLoop c) rfl (fun _ _=>.inl (by simp)) harr⟩
   | outgrown=>exact ⟨_,a₁,w₁,hq,.pass (x:=.inLoop c) rfl (fun _ _=>.inl (by simp)) harr⟩
 obtain ⟨e,a',w',hq,harr⟩:=key _ x a w rfl h₀
 exact ⟨e,a',w',hq,.of_steps (.one (fenced_calm hb hr rfl) stepR_loop) harr⟩
theorem zhh {P:Program} {N:Nat} {b:Code} {Q:AExit→Cfg→Prop} {c:Cfg} (_hmix:P.follows .mixedOrders=true) (_hok:wJ N b=true) (I:Cfg→Prop) (μ:Cfg→Nat) (h0:I c)
  (round:∀ c,I c→aw P N b (aThen (fun c'=>I c'∧μ c' < μ c) Q) c):ALoop P N b Q c:=by
 intro hok hmix ro hro W0 g a w hS
 refine zdO (X:=Cfg) (fun x a' w=>∃ g',g.le g'∧SimA W0 g' N x a' w∧Marks g g' a.defers a'.defers∧I x) μ c ⟨g,g.le_refl,hS,.refl _ _ _,h0⟩ fun x a w ⟨g',hle,hS',hM,hI⟩=>?_
 refine wpIn_mono (round x hI hok hmix ro hro.loop W0 g' a w hS') fun e a' w' ⟨c',g'',hle',hS'',hM',hq⟩=>?_
 cases e with
 | normal=>exact ⟨c',⟨g'',hle.trans hle',hS'',hM.trans hle hle' hM',hq.1⟩,hq.2⟩
 | exit id=>exact ⟨c',g'',hle.trans hle',hS'',hM.trans hle hle' hM',hq⟩
 | ret=>exact ⟨c',g'',hle.trans hle',hS'',hM.trans hle hle' hM',hq⟩
 | goto=>exact hq.elim
 | panic=>exact hq.elim
 | outgrown=>exact hq.elim
end Go.Ab
