/- Texts A8, A9, A10, A11, A12, A13, A14, joined. -/
import Derived.Test.YtglmjglbobhbbaaGreatDoorM1
import Derived.Laws.BytesString
import Derived.Laws.MakeOwn
import Derived.Laws.IdiomStrings
import Derived.Laws.Build
namespace Go.Ab
open Go.RowKit
def bnd (s:Slots) (d:Nat):Option Operand→Option Nat
 | none=>some d
 | some x=>match zl s x with
  | .lit (.int _ n)=>if 0≤n then some n.toNat else none
  | _=>none
theorem zgv (vs:List Value) (size:Nat) (hs:∀ v∈vs,v.cells.size=size) (l:Nat):yG (vs.drop l)=(yG vs).drop (l * size):=by
 induction vs generalizing l with
 | nil=>simp [yG]
 | cons v r ih=>
  cases l with
  | zero=>simp
  | succ l=>
   have hv:v.cells.toList.length=size:=by simpa using hs v (List.mem_cons_self ..)
   have e:(l+1) * size=v.cells.toList.length+l * size:=by rw [hv,Nat.add_mul];omega
   rw [List.drop_succ_cons,ih (fun u hu=>hs u (List.mem_cons_of_mem _ hu)),xX,e,List.drop_length_add_append]
theorem yI (vs:List Value) (size:Nat) (hs:∀ v∈vs,v.cells.size=size) (h:Nat):yG (vs.take h)=(yG vs).take (h * size):=by
 induction vs generalizing h with
 | nil=>simp [yG]
 | cons v r ih=>
  cases h with
  | zero=>simp [yG]
  | succ h=>
   have hv:v.cells.toList.length=size:=by simpa using hs v (List.mem_cons_self ..)
   have e:(h+1) * size=v.cells.toList.length+h * size:=by rw [hv,Nat.add_mul];omega
   rw [List.take_succ_cons,xX,ih (fun u hu=>hs u (List.mem_cons_of_mem _ hu)),xX,e,List.take_length_add_append]
section
variable {P:Program} {o:Oper} {s:Slots} {id:Nat}
theorem zeI {a:Act} {g:Ghost} {d:Nat} {lo:Option Operand} {l:Nat} (h:bnd s d lo=some l) (hr:∀ x,lo=some x→Rep g (zl s x) (a.eval x)):
  (lo=none∧l=d)∨∃ x k n,lo=some x∧a.eval x=.int k n∧0≤n∧n.toNat=l:=by
 cases lo with
 | none=>simp [bnd] at h;exact .inl ⟨rfl,h.symm⟩
 | some x=>
  have hx:=hr x rfl
  simp only [bnd] at h
  split at h
  ·rename_i k n he
   rw [he] at hx
   split at h <;> cases h
   rename_i h0
   exact .inr ⟨x,k,n,rfl,zN hx,h0,rfl⟩
  ·cases h
theorem ju {a:Act} {g:Ghost} {len cap l h:Nat} {lo hi:Option Operand} (hl:bnd s 0 lo=some l) (hh:bnd s len hi=some h) (hr:∀ x,lo=some x→Rep g (zl s x) (a.eval x)) (hr':∀ x,hi=some x→Rep g (zl s x) (a.eval x))
  (h1:l≤h) (h2:h≤cap) (isS:Bool) (w:World):(Instr.sliceBounds isS len cap (lo.map a.eval) (hi.map a.eval) none).run P w=.ok (l,h,cap) w:=by
 rcases zeI hh hr' with ⟨rfl,rfl⟩ | ⟨x,k,n,rfl,he,h0,rfl⟩ <;> rcases zeI hl hr with ⟨rfl,rfl⟩ | ⟨x',k',n',rfl,he',h0',rfl⟩
 ·simp [Instr.sliceBounds]
 ·simp [Instr.sliceBounds,he',run_sliceBound w k' n' h _ h0' oo]
 ·simp [Instr.sliceBounds,he,run_sliceBound w k n cap _ h0 oo]
 ·simp [Instr.sliceBounds,he,he',run_sliceBound w k n cap _ h0 oo,run_sliceBound w k' n' n.toNat _ h0' oo]
theorem Rep.sub {g:Ghost} {xs:List AV} {vs:List Value} {A:Option Addr} {c size l h:Nat} (hl:vs.length=xs.length) (hc:xs.length≤c) (hm:c≤maxLen) (hr:∀ (i:Nat) (x:AV) (v:Value),xs[i]?=some x→vs[i]?=some v→Rep g x v)
  (hs:∀ v∈vs,v.cells.size=size) (hcell:xs.length=0∨∃ b o,A=some ⟨b,o,none⟩∧∀ (j:Nat) (u:Value),(yG vs)[j]?=some u→g.G b (o+j)=some u) (h1:l≤h) (h2:h≤xs.length):
  Rep g (.slice none ((xs.take h).drop l)) (.slice (if c=l then A else A.map (·.add (l * size))) (h - l) (c - l)):=by
 have e:((xs.take h).drop l).length=h - l:=by simp;omega
 rw [← e]
 refine .slice none _ ((vs.take h).drop l) _ _ size (by simp [hl]) (by rw [e];omega) oo (fun i x v hx hv=>?_) (fun v hv=>hs v (List.mem_of_mem_take (List.mem_of_mem_drop hv))) ?_ (fun id hid=>by cases hid)
 ·rw [List.getElem?_drop,List.getElem?_take] at hx hv
  split at hx
  ·rename_i hlt;rw [if_pos hlt] at hv;exact hr _ x v hx hv
  ·cases hx
 ·rw [e]
  by_cases h0:h - l=0
  ·exact .inl h0
  ·rcases hcell with h' | ⟨b,o,rfl,hG⟩
   ·omega
   ·refine .inr ⟨b,o+l * size,by rw [if_neg oo];simp [Addr.add_lit],fun j u hu=>?_⟩
    rw [zgv _ size (fun v hv=>hs v (List.mem_of_mem_take hv)),yI _ size hs,List.getElem?_drop,List.getElem?_take] at hu
    split at hu
    ·rw [Nat.add_assoc];exact hG _ _ hu
    ·cases hu
theorem zdd {t e:TypeId} {x:Operand} {lo hi:Option Operand} {own:Option Nat} {xs:List AV} {l h size:Nat} (ho:o.op=.slice t x lo hi none) (ht:zT P t=some e) (hs:xL P e size=true) (hx:AV.le (zl s x) (.slice own xs))
  (hl:bnd s 0 lo=some l) (hh:bnd s xs.length hi=some h) (h1:l≤h) (h2:h≤xs.length) (hsz:xs.all (fun y=>y.sz == size)=true):OpHolds P o s id [] (.slice none ((xs.take h).drop l)) []:=
 yj fun g w a hr=>by
  have h3:=hx _ _ (hr x (by simp [ho,Op.operands]))
  have hlo:∀ x,lo=some x→Rep g (zl s x) (a.eval x):=fun x hx=>hr x (by simp [ho,Op.operands,hx])
  have hhi:∀ x,hi=some x→Rep g (zl s x) (a.eval x):=fun x hx=>hr x (by simp [ho,Op.operands,hx])
  generalize hv:a.eval x=v at h3
  obtain ⟨ie,hie,hsi⟩:=yo hs
  cases h3 with
  | slice _ _ vs A c size' hvl hc hm hvr hvs hcell hown=>
   have hvs':=jS hvl hvr hsz
   refine ⟨_,?_,Rep.sub hvl hc hm hvr hvs' hcell h1 h2⟩
   have hb:=ju (P:=P) hl hh hlo hhi h1 (by omega:h≤c) true w
   simp only [execOp,ho,Sem.run_bind,Instr.sliceAt,run_underlying (zD ht),Result.andThen_ok,hv,Instr.slice,Option.map_none,hb,sizeOf,typeInfo,run_program,hie,Sem.run_pure,hsi]
theorem zil {t e:TypeId} {x:Operand} {lo hi:Option Operand} {size:Nat} (ho:o.op=.slice t x lo hi none) (ht:zT P t=some e) (hs:xL P e size=true) (hx:zl s x=.nils)
  (hl:bnd s 0 lo=some 0) (hh:bnd s 0 hi=some 0):OpHolds P o s id [] .nils []:=
 yj fun g w a hr=>by
  have h3:=hr x (by simp [ho,Op.operands])
  have hlo:∀ x,lo=some x→Rep g (zl s x) (a.eval x):=fun x hx=>hr x (by simp [ho,Op.operands,hx])
  have hhi:∀ x,hi=some x→Rep g (zl s x) (a.eval x):=fun x hx=>hr x (by simp [ho,Op.operands,hx])
  rw [hx] at h3
  generalize hv:a.eval x=v at h3
  obtain ⟨ie,hie,hsi⟩:=yo hs
  cases h3 with
  | nils=>
   refine ⟨_,?_,.nils⟩
   have hb:=ju (P:=P) hl hh hlo hhi (Nat.le_refl 0) (Nat.le_refl 0) true w
   simp only [execOp,ho,Sem.run_bind,Instr.sliceAt,run_underlying (zD ht),Result.andThen_ok,hv,Instr.slice,Option.map_none,hb,sizeOf,typeInfo,run_program,hie,Sem.run_pure]
   rfl
theorem zjw {t:TypeId} {x:Operand} {lo hi:Option Operand} {b:ByteArray} {l h:Nat} (ho:o.op=.slice t x lo hi none) (ht:zM P t=true) (hx:zl s x=.lit (.string b))
  (hl:bnd s 0 lo=some l) (hh:bnd s b.size hi=some h) (h1:l≤h) (h2:h≤b.size):OpHolds P o s id [] (.lit (.string (b.extract l h))) []:=
 yj fun g w a hr=>by
  have h3:=hr x (by simp [ho,Op.operands])
  have hlo:∀ x,lo=some x→Rep g (zl s x) (a.eval x):=fun x hx=>hr x (by simp [ho,Op.operands,hx])
  have hhi:∀ x,hi=some x→Rep g (zl s x) (a.eval x):=fun x hx=>hr x (by simp [ho,Op.operands,hx])
  rw [hx] at h3
  have e1:=zN h3
  refine ⟨_,?_,.lit _ rfl⟩
  have hb:=ju (P:=P) hl hh hlo hhi h1 h2 false w
  simp only [execOp,ho,Sem.run_bind,Instr.sliceAt,run_underlying (wV ht),Result.andThen_ok,e1,Instr.slice,Option.map_none,hb,Option.isSome_none,Bool.false_eq_true,if_false]
  rfl
theorem yK {a:Act} {b:Builtin} {args:Array Operand} {ts:Array TypeId} (ho:o.op=.call { callee:=.builtin b,args:=args,argTypes:=ts }) (w:World):
  ∃ cs,(execOp a.eval o).run P w=(builtin b ts o.type cs (args.map a.eval)).run P w:=by
 refine ⟨args.map fun | .const _=>true | _=>false,?_⟩
 simp only [execOp,ho,resolve,invoke,Sem.run_bind,Sem.run_pure,Result.andThen_ok]
 rfl
theorem zeq {t e:TypeId} {x:Operand} {own:Option Nat} {xs:List AV} (ho:o.op=.call { callee:=.builtin .len,args:=#[x],argTypes:=#[t] }) (ht:zT P t=some e) (hx:AV.le (zl s x) (.slice own xs)):
  OpHolds P o s id [] (.lit (.int .i64 xs.length)) []:=
 yj fun g w a hr=>by
  have h3:=hx _ _ (hr x (by simp [ho,Op.operands,Call.operands]))
  generalize hv:a.eval x=v at h3
  cases h3 with
  | slice _ _ vs A c size' hvl hc hm hvr hvs hcell hown=>
   obtain ⟨cs,he⟩:=yK (P:=P) (a:=a) ho w
   refine ⟨_,?_,.lit _ rfl⟩
   rw [he]
   simp [builtin,Builtin.len_,run_underlying (zD ht),hv,goInt]
theorem zkt {t e:TypeId} {x:Operand} (ho:o.op=.call { callee:=.builtin .len,args:=#[x],argTypes:=#[t] }) (ht:zT P t=some e) (hx:zl s x=.nils):
  OpHolds P o s id [] (.lit (.int .i64 0)) []:=
 yj fun g w a hr=>by
  have h3:=hr x (by simp [ho,Op.operands,Call.operands])
  rw [hx] at h3
  generalize hv:a.eval x=v at h3
  cases h3 with
  | nils=>
   obtain ⟨cs,he⟩:=yK (P:=P) (a:=a) ho w
   refine ⟨_,?_,.lit _ rfl⟩
   rw [he]
   simp [builtin,Builtin.len_,run_underlying (zD ht),hv,goInt]
theorem zlG {t:TypeId} {x:Operand} {b:ByteArray} (ho:o.op=.call { callee:=.builtin .len,args:=#[x],argTypes:=#[t] }) (ht:zM P t=true) (hx:zl s x=.lit (.string b)):
  OpHolds P o s id [] (.lit (.int .i64 b.size)) []:=
 yj fun g w a hr=>by
  have h3:=hr x (by simp [ho,Op.operands,Call.operands])
  rw [hx] at h3
  have e1:=zN h3
  obtain ⟨cs,he⟩:=yK (P:=P) (a:=a) ho w
  refine ⟨_,?_,.lit _ rfl⟩
  rw [he]
  simp only [builtin,List.map_toArray,List.map_cons,List.map_nil,e1]
  simp [Builtin.len_,run_underlying (wV ht),goInt]
theorem zrj {ts:Array TypeId} {x y:Operand} {k k':IntKind} {m n:Int} (ho:o.op=.call { callee:=.builtin .min,args:=#[x,y],argTypes:=ts }) (hx:zl s x=.lit (.int k m)) (hy:zl s y=.lit (.int k' n)):
  OpHolds P o s id [] (.lit (.int k (if n < m then n else m))) []:=
 yj fun g w a hr=>by
  have h1:=hr x (by simp [ho,Op.operands,Call.operands])
  have h2:=hr y (by simp [ho,Op.operands,Call.operands])
  rw [hx] at h1
  rw [hy] at h2
  have e1:=zN h1
  have e2:=zN h2
  obtain ⟨cs,he⟩:=yK (P:=P) (a:=a) ho w
  refine ⟨_,?_,.lit _ rfl⟩
  rw [he]
  simp only [builtin,List.map_toArray,List.map_cons,List.map_nil,e1,e2]
  simp [Builtin.min_,Builtin.min2]
theorem zri {ts:Array TypeId} {x y:Operand} {k k':IntKind} {m n:Int} (ho:o.op=.call { callee:=.builtin .max,args:=#[x,y],argTypes:=ts }) (hx:zl s x=.lit (.int k m)) (hy:zl s y=.lit (.int k' n)):
  OpHolds P o s id [] (.lit (.int k (if n > m then n else m))) []:=
 yj fun g w a hr=>by
  have h1:=hr x (by simp [ho,Op.operands,Call.operands])
  have h2:=hr y (by simp [ho,Op.operands,Call.operands])
  rw [hx] at h1
  rw [hy] at h2
  have e1:=zN h1
  have e2:=zN h2
  obtain ⟨cs,he⟩:=yK (P:=P) (a:=a) ho w
  refine ⟨_,?_,.lit _ rfl⟩
  rw [he]
  simp only [builtin,List.map_toArray,List.map_cons,List.map_nil,e1,e2]
  simp [Builtin.max_,Builtin.max2]
theorem wM (g o:Nat) (t:TypeId) (fz:Nat × Nat):∀ (vs:List Value) (i:Nat) (cur:Array Value) (w:World),w.heap[g]?=some (.cells cur t fz)→noFz fz cur.size→o+i+vs.length≤cur.size→(∀ v∈vs,v.oneCell'=true) →
  (storeCells ⟨g,o,none⟩ vs i).run P w=.ok () (w.setRow g (cur.toList.take (o+i)++vs++cur.toList.drop (o+i+vs.length)).toArray)
 | [],i,cur,w,hg,_,_,_=>by
  simp only [storeCells,List.append_nil,List.length_nil,Nat.add_zero,List.take_append_drop,Array.toArray_toList]
  rw [setRow_self w g cur t fz hg]
  rfl
 | v::rest,i,cur,w,hg,hz,hl,h1=>by
  have hi:o+i < cur.size:=by simp at hl;omega
  have hadd:(⟨g,o,none⟩:Addr).add i=⟨g,o+i,none⟩:=by unfold Addr.add;split <;> simp_all
  have hcell:w.cell? ⟨g,o+i,none⟩=some cur[o+i]:=by simp [World.cell?,hg,hi]
  have hfro:w.frozen? ⟨g,o+i,none⟩=false:=by
   have:=hz.at (o+i) hi
   simp only [World.frozen?,hg]
   exact this
  have hst:(store ((⟨g,o,none⟩:Addr).add i) v).run P w=.ok () (w.setRow g (cur.setIfInBounds (o+i) v)):=by
   rw [hadd,run_store P w _ v _ (h1 v (by simp)),hcell]
   simp [hfro,setCell_eq_setRow w g (o+i) cur t fz v hg]
  have ih:=wM g o t fz rest (i+1) (cur.setIfInBounds (o+i) v) (w.setRow g (cur.setIfInBounds (o+i) v)) (setRow_heap w g cur _ t _ hg) (by simpa using hz) (by simp at hl ⊢;omega) (fun x hx=>h1 x (by simp [hx]))
  simp only [storeCells,Sem.run_bind,hst,Result.andThen_ok,ih,setRow_setRow]
  congr 3
  have e:=list_seg_step cur.toList (o+i) v rest (by simp at hl ⊢;omega)
  simpa [Array.toList_setIfInBounds,Nat.add_assoc] using e
theorem zdT (w:World) (t ty e:TypeId) (i:TypeInfo) (ht:P.underlying t=some (.slice e)) (hi:P.info? e=some i)
  (g sLen sCap:Nat) (cur:Array Value) (fz:Nat × Nat) (hg:w.heap[g]?=some (.cells cur e fz)) (hz:noFz fz cur.size)
  (a:Addr) (m c:Nat) (news:List Value) (hl:news.length=m * i.size) (hnews:∀ (j:Nat) (u:Value),news[j]?=some u→w.cell? (a.add j)=some u) (h1:∀ u∈news,u.oneCell'=true)
  (hroom:sLen+m≤sCap) (hfit:sLen * i.size+news.length≤cur.size):
  (Builtin.append_ #[t,t] ty #[.slice (some ⟨g,0,none⟩) sLen sCap,.slice (some a) m c]).run P w =
   .ok (.slice (some ⟨g,0,none⟩) (sLen+m) sCap) (w.setRow g (cur.toList.take (sLen * i.size)++news++cur.toList.drop (sLen * i.size+news.length)).toArray):=by
 have hf:=run_firstCells_some (P:=P) w i.size m a m c news hl hnews
 have hst:=wM (P:=P) g (sLen * i.size) e fz news 0 cur w hg hz (by simpa using hfit) h1
 simp only [Nat.add_zero] at hst
 simp [Builtin.append_,run_underlying ht,sizeOf,typeInfo,hi,Builtin.lenOf,hroom,hf,Addr.add_lit,hst]
theorem zfl {w:World} {base:Nat} {t ty e:TypeId} {i:TypeInfo} {z:Value} (ht:P.underlying t=some (.slice e)) (hi:P.info? e=some i) (hz:i.zero=some z) (hzs:z.cells.size=i.size)
  {v:Value} {n:Nat} {xs:List Value} (hown:ownsR w base e i.size v n xs) {a:Addr} {m c:Nat} {news:List Value} (hl:news.length=m * i.size) (hnews:∀ (j:Nat) (u:Value),news[j]?=some u→w.cell? (a.add j)=some u) (h1:∀ u∈news,u.oneCell'=true)
  (hm:0 < m) (hbytes:(n+m) * i.bytes≤140737488355328) (h63:n+m≤maxLen) (hbase:base≤w.heap.size):
  ∃ v' w',(Builtin.append_ #[t,t] ty #[v,.slice (some a) m c]).run P w=.ok v' w'∧ownsR w' base e i.size v' (n+m) (xs++news)∧zdX v'=n+m∧w'.os=w.os∧w'.tape=w.tape∧w'.output=w.output∧w.heap.size≤w'.heap.size ∧
   ((0 < m∧v'.ownBlock=v.ownBlock∧∀ j,v.ownBlock≠some j→j < w.heap.size→w'.heap[j]?=w.heap[j]?)∨(0 < m∧v'.ownBlock=some w.heap.size∧∀ j,j < w.heap.size→w'.heap[j]?=w.heap[j]?)):=by
 have hsmall:n+m≤9223372036854775807:=by simp only [maxLen] at h63;omega
 have hlen:(xs++news).length=(n+m) * i.size:=by rw [List.length_append,hown.1,hl,Nat.add_mul]
 have grown:∀ (old:Nat),old < n+m →
   ownsR (w.drew.alloc (.cells (xs.toArray++news.toArray++Builtin.zeroCells z.cells (grownCap w (n+m) old e - (n+m))) e)) base e i.size
    (.slice (some ⟨w.heap.size,0,none⟩) (n+m) (grownCap w (n+m) old e)) (n+m) (xs++news):=by
  intro old _
  have hge:=grownCap_ge w (n+m) old e
  have hcm:grownCap w (n+m) old e≤maxLen:=grownCap_le_maxLen w (n+m) old e h63
  refine ⟨hlen,.inr ⟨w.heap.size,_,_,(0,0),rfl,hbase,heap_alloc_new w.drew _,jJ _,hge,hcm,?_,?_⟩⟩
  ·simp only [Array.size_append,List.size_toArray,size_zeroCells,hzs,hown.1,hl,← Nat.add_mul]
   congr 1
   omega
  ·simp only [Array.toList_append,List.append_assoc]
   rw [← List.append_assoc,← hlen]
   exact List.take_left
 have oldkept:∀ o' j,j < w.heap.size→(w.drew.alloc o').heap[j]?=w.heap[j]?:=fun o' j hj=>heap_alloc_old w.drew o' j hj
 rcases hown.2 with ⟨rfl,rfl⟩ | ⟨g,cap,cur,fz,rfl,hbg,hg,hfz,hnc,hcm,hcs,htake⟩
 ·have hx:xs=[]:=List.eq_nil_of_length_eq_zero (by simpa using hown.1)
  subst hx
  have hr:=run_append_nil (P:=P) w t ty e i z ht hi hz a m c news hl hnews hm oo (by have hb:=hbytes;simp only [Nat.zero_add] at hb;omega)
  have hgr:=grown 0 oo
  simp only [Nat.zero_add,List.nil_append,Array.empty_append] at hgr ⊢
  exact ⟨_,_,hr,hgr,rfl,rfl,rfl,rfl,by simp,.inr ⟨hm,rfl,oldkept _⟩⟩
 ·by_cases hroom:n+m≤cap
  ·have hfit:n * i.size+news.length≤cur.size:=by rw [hl,hcs,← Nat.add_mul];exact Nat.mul_le_mul_right _ hroom
   have hr:=zdT (P:=P) w t ty e i ht hi g n cap cur fz hg hfz a m c news hl hnews h1 hroom hfit
   have hcz:(cur.toList.take (n * i.size)++news++cur.toList.drop (n * i.size+news.length)).toArray.size=cur.size:=by
    simp only [List.size_toArray,List.length_append,List.length_take,List.length_drop,Array.length_toList]
    omega
   refine ⟨_,_,hr,⟨hlen,.inr ⟨g,cap,_,fz,rfl,hbg,setRow_heap w g cur _ e _ hg,by rw [hcz];exact hfz,hroom,hcm,?_,?_⟩⟩,rfl,rfl,rfl,rfl,by simp [World.setRow],.inl ⟨hm,rfl,fun k hk _=>setRow_other w g k _ (fun e=>hk (by simp [Value.ownBlock,e]))⟩⟩
   ·simp only [List.size_toArray,List.length_append,List.length_take,List.length_drop,Array.length_toList]
    omega
   ·rw [htake,← hlen]
    exact List.take_left
  ·have holds:∀ j u,xs[j]?=some u→w.cell? ((⟨g,0,none⟩:Addr).add j)=some u:=fun j u hu=>by rw [Addr.add_lit,Nat.zero_add];exact hown.cells (g:=g) rfl j u hu
   have hr:=run_append_grow (P:=P) w t ty e i z ht hi hz ⟨g,0,none⟩ n cap xs hown.1 holds a m c news hl hnews oo oo (growslice_fits oo hbytes)
   exact ⟨_,_,hr,grown cap oo,rfl,rfl,rfl,rfl,by simp,.inr ⟨hm,rfl,oldkept _⟩⟩
theorem zjV {w:World} {base:Nat} {t ty e:TypeId} {i:TypeInfo} {z:Value} (ht:P.underlying t=some (.slice e)) (hi:P.info? e=some i) (hz:i.zero=some z) (hzs:z.cells.size=i.size)
  {A:Addr} {n:Nat} {xs:List Value} (hxl:xs.length=n * i.size) (hxc:∀ (j:Nat) (u:Value),xs[j]?=some u→w.cell? (A.add j)=some u) {a:Addr} {m c:Nat} {news:List Value} (hl:news.length=m * i.size) (hnews:∀ (j:Nat) (u:Value),news[j]?=some u→w.cell? (a.add j)=some u)
  (hm:0 < m) (hbytes:(n+m) * i.bytes≤140737488355328) (h63:n+m≤maxLen) (hbase:base≤w.heap.size):
  ∃ v' w',(Builtin.append_ #[t,t] ty #[.slice (some A) n n,.slice (some a) m c]).run P w=.ok v' w'∧ownsR w' base e i.size v' (n+m) (xs++news)∧zdX v'=n+m∧w'.os=w.os∧w'.tape=w.tape∧w'.output=w.output∧w.heap.size≤w'.heap.size ∧
   (0 < m∧v'.ownBlock=some w.heap.size∧∀ j,j < w.heap.size→w'.heap[j]?=w.heap[j]?):=by
 have hsmall:n+m≤9223372036854775807:=by simp only [maxLen] at h63;omega
 have hlen:(xs++news).length=(n+m) * i.size:=by rw [List.length_append,hxl,hl,Nat.add_mul]
 have hge:=grownCap_ge w (n+m) n e
 have hcm:grownCap w (n+m) n e≤maxLen:=grownCap_le_maxLen w (n+m) n e h63
 have hr:=run_append_grow (P:=P) w t ty e i z ht hi hz A n n xs hxl hxc a m c news hl hnews oo oo (growslice_fits oo hbytes)
 refine ⟨_,_,hr,⟨hlen,.inr ⟨w.heap.size,_,_,(0,0),rfl,hbase,heap_alloc_new w.drew _,jJ _,hge,hcm,?_,?_⟩⟩,rfl,rfl,rfl,rfl,by simp,hm,rfl,fun j hj=>heap_alloc_old w.drew _ j hj⟩
 ·simp only [Array.size_append,List.size_toArray,size_zeroCells,hzs,hxl,hl,← Nat.add_mul]
  congr 1
  omega
 ·simp only [Array.toList_append,List.append_assoc]
  rw [← List.append_assoc,← hlen]
  exact List.take_left
theorem run_append_none' {w:World} {t ty e:TypeId} {i:TypeInfo} (ht:P.underlying t=some (.slice e)) (hi:P.info? e=some i)
  {B:Option Addr} {n cap:Nat} (hnc:n≤cap) {A:Option Addr} {c:Nat}:(Builtin.append_ #[t,t] ty #[.slice B n cap,.slice A 0 c]).run P w=.ok (.slice B n cap) w:=by
 cases A <;> cases B <;> simp [Builtin.append_,run_underlying ht,sizeOf,typeInfo,hi,Builtin.lenOf,Builtin.firstCells,hnc,storeCells,loadCells,loadCellsFrom]
theorem zjW {w:World} {base:Nat} {t ty e:TypeId} {i:TypeInfo} (ht:P.underlying t=some (.slice e)) (hi:P.info? e=some i)
  {v:Value} {n:Nat} {xs:List Value} (hown:ownsR w base e i.size v n xs) {A:Option Addr} {c:Nat}:(Builtin.append_ #[t,t] ty #[v,.slice A 0 c]).run P w=.ok v w:=by
 rcases hown.2 with ⟨rfl,rfl⟩ | ⟨g,cap,cur,fz,rfl,_,_,_,hnc,_⟩
 ·cases A <;> simp [Builtin.append_,run_underlying ht,sizeOf,typeInfo,hi,Builtin.lenOf,Builtin.firstCells,loadCells,loadCellsFrom]
 ·cases A <;> simp [Builtin.append_,run_underlying ht,sizeOf,typeInfo,hi,Builtin.lenOf,Builtin.firstCells,hnc,storeCells,loadCells,loadCellsFrom]
theorem Sim.ofClip {W0:World} {g:Ghost} {σ:Nat→Ent} {n:Nat} {w:World} (hS:Sim W0 g σ n w) {k:Nat} {e:TypeId} {size:Nat} {xs:List AV} {A:Option Addr} {m:Nat} (hk:σ k=.none) (hn:k < n) (hr:Rep g (.slice none xs) (.slice A m m)) (hsx:xs.all (fun x=>x.sz == size)=true):
  ∃ g',g.le g'∧Sim W0 g' (upd σ k (.row e size xs.length)) n w∧g'.row k=some (.slice A m m)∧Rep g' (.slice (some k) xs) (.slice A m m):=by
 cases hr with
 | slice _ _ vs _ _ size' hvl hc hm hvr hvs hcell hown=>
  have hvs':=jS hvl hvr hsx
  have done:∀ g',g.le g'→g'.row k=some (.slice A xs.length xs.length)→Rep g' (.slice (some k) xs) (.slice A xs.length xs.length):=fun g' hle hrow=>
   .slice (some k) xs vs A _ size hvl hc hm (fun i x v h1 h2=>(hvr i x v h1 h2).mono hle) hvs' (hcell.imp (fun h=>h) (fun ⟨b,o,h1,h2⟩=>⟨b,o,h1,fun j u hu=>hle.G _ _ _ (h2 j u hu)⟩)) (fun id hid=>by cases hid;exact ⟨_,hrow,by simp [zdX],fun _=>rfl⟩)
  rcases hcell with h0 | ⟨b,o,rfl,hcell⟩
  ·cases A with
   | none=>
    obtain ⟨g',h1,h2,h3,_⟩:=hS.addRow (k:=k) (e:=e) (size:=size) (m:=0) (u:=.slice none 0 0) (cells:=[]) hk hn (kz w _ e size) rfl (fun b hb=>by simp [Value.ownBlock] at hb) (fun b hb=>by simp [Value.ownBlock] at hb)
    rw [h0] at *
    exact ⟨g',h1,h2,h3,by rw [h0] at done;exact done g' h1 h3⟩
   | some ad=>
    obtain ⟨g',h1,h2,h3⟩:=hS.addClip (k:=k) (e:=e) (size:=size) (m:=xs.length) (A:=ad) (cells:=[]) hk hn (by simp [h0]) hm (fun j v h=>by simp at h)
    exact ⟨g',h1,h2,h3,done g' h1 h3⟩
  ·obtain ⟨g',h1,h2,h3⟩:=hS.addClip (k:=k) (e:=e) (size:=size) (m:=xs.length) (A:=⟨b,o,none⟩) (cells:=yG vs) hk hn (by rw [yL vs size hvs',hvl]) hm (fun j v hv=>⟨rfl,hcell j v hv⟩)
   exact ⟨g',h1,h2,h3,done g' h1 h3⟩
def AV.elems:AV→Option (List AV)
 | .nils=>some []
 | .slice _ xs=>some xs
 | .clip xs=>some xs
 | .lit (.slice _ 0 _)=>some []
 | _=>none
def kH (P:Program) (e:TypeId) (bytes:Nat):Bool:=
 match P.info? e with
 | some i=>i.bytes == bytes
 | _=>false
theorem zhm {g:Ghost} {size:Nat} {Y:AV} {y:Value} {ys:List AV} (hY:Y.elems=some ys) (hry:Rep g Y y) (hsy:ys.all (fun x=>x.sz == size)=true):
  ∃ A m c,∃ us:List Value,y=.slice A m c∧m=ys.length∧us.length=ys.length∧(∀ (i:Nat) (x:AV) (v:Value),ys[i]?=some x→us[i]?=some v→Rep g x v)∧(∀ v∈us,v.cells.size=size) ∧
   (ys.length=0∨∃ b o,A=some ⟨b,o,none⟩∧∀ (j:Nat) (u:Value),(yG us)[j]?=some u→g.G b (o+j)=some u):=by
 cases hry <;> simp [AV.elems] at hY
 case lit hv=>
  split at hY
  ·rename_i h;simp at h
  ·rename_i h;simp at h
  ·rename_i h;simp at h
  ·rename_i A c h
   simp at h hY
   subst h;subst hY
   exact ⟨A,0,c,[],rfl,rfl,rfl,fun i x v h _=>by simp at h,fun v hv=>by simp at hv,.inl rfl⟩
  ·cases hY
 case nils=>
  subst hY
  exact ⟨none,0,0,[],rfl,rfl,rfl,fun i x v h _=>by simp at h,fun v hv=>by simp at hv,.inl rfl⟩
 case clip xs' A n hcl=>
  subst hY
  cases hcl with
  | slice _ _ us _ _ size' hvl hc hm hvr hvs hcell hown'=>
   exact ⟨A,_,_,us,rfl,rfl,hvl,hvr,jS hvl hvr hsy,hcell⟩
 case slice own xs' us A c size' hvl hc hm hvr hvs hcell hown'=>
  subst hY
  exact ⟨A,_,c,us,rfl,rfl,hvl,hvr,jS hvl hvr hsy,hcell⟩
theorem zkJ {e:TypeId} {size k:Nat} {z:AV} (hs:xL P e size=true) (hz:zK P e=some z) (hzs:z.sz=size)
  {W0:World} {g:Ghost} {σ:Nat→Ent} {n:Nat} {w:World} {r:Nat} {u:Value} {xs ys:List AV} {us:List Value} {R:Value→World→Prop} (hS:Sim W0 g σ n w) (hx:σ r=.row e size k) (hu:g.row r=some u) (hk:xs.length=k)
  (hru:xs.length=0∨Rep g (.slice (some r) xs) u) (hsx:xs.all (fun x=>x.sz == size)=true)
  (hul:us.length=ys.length) (hur:∀ (i:Nat) (x:AV) (v:Value),ys[i]?=some x→us[i]?=some v→Rep g x v) (hus:∀ v∈us,v.cells.size=size)
  (h0:ys.length=0→(∃ A c,u=.slice A k c∧k≤c)→R u w)
  (hown:∀ (i:TypeInfo) (zv:Value) (cells:List Value),P.info? e=some i→i.zero=some zv→i.size=size→zv.cells.size=i.size→Rep g z zv→ownsR w W0.heap.size e i.size u k cells→0 < ys.length→∃ u' w',R u' w'∧ownsR w' W0.heap.size e i.size u' (k+ys.length) (cells++yG us)∧zdX u'=k+ys.length∧w'.os=w.os∧w'.tape=w.tape∧w'.output=w.output∧w.heap.size≤w'.heap.size ∧
   ((0 < ys.length∧u'.ownBlock=u.ownBlock∧∀ j,u.ownBlock≠some j→j < w.heap.size→w'.heap[j]?=w.heap[j]?)∨(0 < ys.length∧u'.ownBlock=some w.heap.size∧∀ j,j < w.heap.size→w'.heap[j]?=w.heap[j]?)))
  (hfull:∀ (i:TypeInfo) (zv:Value) (A:Addr) (cells:List Value),P.info? e=some i→i.zero=some zv→i.size=size→zv.cells.size=i.size→Rep g z zv→u=.slice (some A) k k→cells.length=k * i.size→(∀ (j:Nat) (v:Value),cells[j]?=some v→w.cell? (A.add j)=some v)→0 < ys.length→∃ u' w',R u' w'∧ownsR w' W0.heap.size e i.size u' (k+ys.length) (cells++yG us)∧zdX u'=k+ys.length∧w'.os=w.os∧w'.tape=w.tape∧w'.output=w.output∧w.heap.size≤w'.heap.size ∧
   (0 < ys.length∧u'.ownBlock=some w.heap.size∧∀ j,j < w.heap.size→w'.heap[j]?=w.heap[j]?)):
  ∃ u' w' g',R u' w'∧g.le g'∧Sim W0 g' (upd σ r (.row e size (k+ys.length))) n w'∧Rep g' (.slice (some r) (xs++ys)) u':=by
 obtain ⟨i,hi,hsi⟩:=yo hs
 have hE:=hS.ents r
 rw [hx] at hE
 obtain ⟨hl,u0,cells,hu0,hlen,hdis⟩:=hE
 rw [hu] at hu0;cases hu0
 obtain ⟨i',zv,hi',hzv,hrz⟩:=vO hz g
 rw [hi] at hi';cases hi'
 have hzc:zv.cells.size=i.size:=by rw [hrz.size,hzs,hsi]
 have hcl:cells.length=k * size:=by
  rcases hdis with ⟨h1,_⟩ | ⟨_,h1,_⟩
  ·exact h1.1
  ·exact h1
 have hG:∀ b,g.own r=some b→∀ (o:Nat),g.G b o=cells[o]?:=by
  intro b hb
  rcases hdis with ⟨_,h1,h2⟩ | ⟨h1,_⟩
  ·exact h2 b (h1 ▸ hb)
  ·rw [h1] at hb;cases hb
 obtain ⟨vs,hvl,hvr,hvs,hvc⟩:∃ vs:List Value,vs.length=xs.length∧(∀ (i:Nat) (x:AV) (v:Value),xs[i]?=some x→vs[i]?=some v→Rep g x v)∧(∀ v∈vs,v.cells.size=size)∧yG vs=cells:=by
  rcases hru with h0 | hru
  ·refine ⟨[],by simp [h0],fun i x v _ hv=>by simp at hv,fun v hv=>by simp at hv,?_⟩
   have:cells.length=0:=by rw [hcl,← hk,h0];simp
   rw [List.eq_nil_of_length_eq_zero this];rfl
  ·cases hru with
   | slice _ _ vs A c size' hvl hc hm hvr hvs hcell hown'=>
    have hvs':=jS hvl hvr hsx
    refine ⟨vs,hvl,hvr,hvs',?_⟩
    have hfl:(yG vs).length=cells.length:=by rw [yL vs size hvs',hvl,hk,hcl]
    rcases hcell with h0 | ⟨b,off,hA,hcell⟩
    ·have h1:cells.length=0:=by rw [hcl,← hk,h0];simp
     rw [List.eq_nil_of_length_eq_zero h1,List.eq_nil_of_length_eq_zero (hfl.trans h1)]
    ·apply List.ext_getElem?
     intro j
     by_cases hj:j < (yG vs).length
     ·have hcj:=hcell j _ (List.getElem?_eq_getElem hj)
      rcases hdis with ⟨hown,ho,hG'⟩ | ⟨_,_,_,A',hu',hG'⟩
      ·have hob:(Value.slice A xs.length c).ownBlock=some b:=by rw [hA];rfl
       have hoff:off=0:=by
        rcases hown.2 with ⟨hv0,_⟩ | ⟨g0,cap,cur,fz,hv0,_⟩
        ·rw [hA] at hv0;simp at hv0
        ·rw [hA] at hv0;simp at hv0;exact hv0.1.2
       rw [hoff,Nat.zero_add,hG' b hob] at hcj
       rw [hcj,List.getElem?_eq_getElem hj]
      ·rw [hA] at hu'
       simp at hu'
       obtain ⟨rfl,_,_⟩:=hu'
       have hj':j < cells.length:=by omega
       have:=(hG' j _ (List.getElem?_eq_getElem hj')).2
       simp only at this
       rw [hcj] at this
       rw [List.getElem?_eq_getElem hj,List.getElem?_eq_getElem hj',this]
     ·rw [List.getElem?_eq_none oo,List.getElem?_eq_none oo]
 have hful:(yG us).length=ys.length * size:=by rw [yL us size hus,hul]
 have hall:∀ v∈vs++us,v.cells.size=size:=fun v hv=>(List.mem_append.1 hv).elim (hvs v) (hus v)
 have finish:∀ (u':Value) (w':World),ownsR w' W0.heap.size e size u' (k+ys.length) (cells++yG us)→zdX u'=k+ys.length→w'.os=w.os→w'.tape=w.tape→w'.output=w.output→w.heap.size≤w'.heap.size →
   ((u'=u∧ys.length=0∧g.own r=u.ownBlock∧w'.heap=w.heap)∨(0 < ys.length∧u'.ownBlock=u.ownBlock∧g.own r=u.ownBlock∧∀ j,u.ownBlock≠some j→j < w.heap.size→w'.heap[j]?=w.heap[j]?) ∨
   (0 < ys.length∧u'.ownBlock=some w.heap.size∧∀ j,j < w.heap.size→w'.heap[j]?=w.heap[j]?)) →
   ∃ g',g.le g'∧Sim W0 g' (upd σ r (.row e size (k+ys.length))) n w'∧Rep g' (.slice (some r) (xs++ys)) u':=by
  intro u' w' k1 k2 k3 k4 k5 k6 k7
  obtain ⟨g',hle,hS',hrow,hG'⟩:=hS.grow hx hu hG k1 hlen k2 k3 k4 k5 k6 k7
  refine ⟨g',hle,hS',?_⟩
  have hlen':(xs++ys).length=k+ys.length:=by rw [List.length_append,hk]
  have hrep:∀ (A':Option Addr) (c':Nat),u'=.slice A' (k+ys.length) c'→k+ys.length≤c'→c'≤maxLen→(k+ys.length=0∨∃ b,A'=some ⟨b,0,none⟩∧u'.ownBlock=some b)→Rep g' (.slice (some r) (xs++ys)) u':=by
   intro A' c' hu' hc' hcm' hA'
   have:=Rep.slice (g:=g') (some r) (xs++ys) (vs++us) A' c' size (by simp [hvl,hul]) (by rw [hlen'];exact hc') hcm'
    (fun j x v h1 h2=>by
     by_cases hj:j < xs.length
     ·rw [List.getElem?_append_left hj] at h1
      rw [List.getElem?_append_left oo] at h2
      exact (hvr j x v h1 h2).mono hle
     ·rw [List.getElem?_append_right oo] at h1
      rw [List.getElem?_append_right oo,hvl] at h2
      exact (hur _ x v h1 h2).mono hle) hall
    (hA'.imp (fun h=>by rw [hlen'];exact h) (fun ⟨b,hb1,hb2⟩=>⟨b,0,hb1,fun j q hq=>by rw [Nat.zero_add,hG' b hb2,← hvc,← qY];exact hq⟩))
    (fun id' hid=>by cases hid;exact ⟨u',hrow,by rw [hlen',k2];exact Nat.le_refl _,fun _=>by rw [hlen',hu']⟩)
   rw [hlen'] at this
   rw [hu']
   exact this
  rcases k1.2 with ⟨hv0,hn0⟩ | ⟨g0,cap,cur,fz,hv0,_,_,_,hnc,hcm,_⟩
  ·exact hrep none 0 (by rw [hv0,hn0]) oo (by unfold maxLen;omega) (.inl hn0)
  ·exact hrep _ cap hv0 hnc hcm (.inr ⟨g0,rfl,by rw [hv0];rfl⟩)
 have hfu:ys.length=0→yG us=[]:=fun h0=>List.eq_nil_of_length_eq_zero (by rw [hful,h0];simp)
 have hys:ys.length=0→ys=[]:=List.eq_nil_of_length_eq_zero
 rcases hdis with ⟨hownR,ho,_⟩ | ⟨ho,_,hkm,A0,rfl,hG'⟩
 ·have hownsi:ownsR w W0.heap.size e i.size u k cells:=by rw [hsi];exact hownR
  by_cases hy0:ys.length=0
  ·have hr:=h0 hy0 (by
    rcases hownR.2 with ⟨rfl,rfl⟩ | ⟨g0,cap,cur,fz,rfl,_,_,_,hnc,_⟩
    ·exact ⟨none,0,rfl,Nat.le_refl _⟩
    ·exact ⟨_,cap,rfl,hnc⟩)
   obtain ⟨g',k1,k2,k3⟩:=finish u w (by rw [hfu hy0,List.append_nil,hy0];exact hownR) (by rw [hy0];exact hlen) rfl rfl rfl (Nat.le_refl _) (.inl ⟨rfl,hy0,ho,rfl⟩)
   exact ⟨u,w,g',hr,k1,k2,k3⟩
  ·obtain ⟨u',w',hr,k1,k2,k3,k4,k5,k6,k7⟩:=hown i zv cells hi hzv hsi hzc hrz hownsi oo
   obtain ⟨g',j1,j2,j3⟩:=finish u' w' (by rw [← hsi];exact k1) k2 k3 k4 k5 k6 (.inr (k7.imp (fun ⟨q1,q2,q3⟩=>⟨q1,q2,ho,q3⟩) fun h=>h))
   exact ⟨u',w',g',hr,j1,j2,j3⟩
 ·by_cases hy0:ys.length=0
  ·have hr:=h0 hy0 ⟨_,_,rfl,Nat.le_refl _⟩
   refine ⟨_,w,g,hr,g.le_refl,?_,?_⟩
   ·have e1:upd σ r (.row e size (k+ys.length))=σ:=by
     funext id
     by_cases hid:id=r
     ·subst hid;rw [zr,hx,hy0];rfl
     ·rw [zg _ _ _ _ hid]
    rw [e1];exact hS
   ·rw [hys hy0,List.append_nil]
    rcases hru with hx0 | hru
    ·have hx0':xs=[]:=List.eq_nil_of_length_eq_zero hx0
     have hk0:k=0:=by omega
     subst hx0' hk0
     exact .slice (some r) [] [] _ 0 size rfl (Nat.le_refl _) oo (fun i x v h _=>by simp at h) (fun v hv=>by simp at hv) (.inl rfl) (fun id hid=>by cases hid;exact ⟨_,hu,by simp,fun _=>rfl⟩)
    ·exact hru
  ·obtain ⟨u',w',hr,k1,k2,k3,k4,k5,k6,k7⟩:=hfull i zv A0 cells hi hzv hsi hzc hrz rfl (by rw [hsi];exact hcl) (fun j q hq=>by
    obtain ⟨h1,h2⟩:=hG' j q hq
    obtain ⟨b0,o0,s0⟩:=A0
    simp only at h1 h2
    subst h1
    rw [Addr.add_lit];exact hS.imm _ _ _ h2) oo
   obtain ⟨g',j1,j2,j3⟩:=finish u' w' (by rw [← hsi];exact k1) k2 k3 k4 k5 k6 (.inr (.inr k7))
   exact ⟨u',w',g',hr,j1,j2,j3⟩
theorem zfv {t ty e:TypeId} {size bytes k:Nat} {z:AV} (ht:zT P t=some e) (hs:xL P e size=true) (hb:kH P e bytes=true) (hz:zK P e=some z) (hzs:z.sz=size)
  {W0:World} {g:Ghost} {σ:Nat→Ent} {n:Nat} {w:World} {r:Nat} {u y:Value} {xs ys:List AV} {Y:AV} (hS:Sim W0 g σ n w) (hx:σ r=.row e size k) (hu:g.row r=some u) (hk:xs.length=k)
  (hru:xs.length=0∨Rep g (.slice (some r) xs) u) (hY:Y.elems=some ys) (hry:Rep g Y y) (hsx:xs.all (fun x=>x.sz == size)=true) (hsy:ys.all (fun x=>x.sz == size && x.cell)=true) (hbytes:(xs.length+ys.length) * bytes≤140737488355328)
  (hmx:xs.length+ys.length≤maxLen):
  ∃ u' w' g',(Builtin.append_ #[t,t] ty #[u,y]).run P w=.ok u' w'∧g.le g'∧Sim W0 g' (upd σ r (.row e size (k+ys.length))) n w'∧Rep g' (.slice (some r) (xs++ys)) u':=by
 have hsy1:ys.all (fun x=>x.sz == size)=true:=by
  rw [List.all_eq_true] at hsy ⊢
  intro x hx
  have:=hsy x hx
  simp only [Bool.and_eq_true] at this
  exact this.1
 obtain ⟨A,m,c,us,hy,hm,hul,hur,hus,huc⟩:=zhm hY hry hsy1
 subst hy
 subst hm
 have hone:∀ q∈yG us,q.oneCell'=true:=by
  intro q hq
  obtain ⟨v,hv,hq⟩:=mem_flat.1 hq
  obtain ⟨j,hj⟩:=List.getElem?_of_mem hv
  have hlt:j < ys.length:=by rw [← hul];exact (List.getElem?_eq_some_iff.1 hj).1
  have hc:=List.all_eq_true.1 hsy ys[j] (List.getElem_mem hlt)
  simp only [Bool.and_eq_true] at hc
  exact (hur j _ v (List.getElem?_eq_getElem hlt) hj).cell_ok hc.2 q hq
 have hful:(yG us).length=ys.length * size:=by rw [yL us size hus,hul]
 obtain ⟨i0,hi0,_⟩:=yo hs
 have hbi:∀ i,P.info? e=some i→i.bytes=bytes:=fun i hi=>by unfold kH at hb;rw [hi] at hb;simpa using hb
 refine zkJ (P:=P) (R:=fun u' w'=>(Builtin.append_ #[t,t] ty #[u,.slice A ys.length c]).run P w=.ok u' w') hs hz hzs hS hx hu hk hru hsx hul hur hus (fun h0 ⟨A',c',hu',hc'⟩=>?_) (fun i zv cells hi hzv hsi hzc hrz hown hpos=>?_) (fun i zv A0 cells hi hzv hsi hzc hrz hu' hcl hcells hpos=>?_)
 ·subst hu'
  rw [h0]
  exact run_append_none' (P:=P) (zD ht) hi0 hc'
 ·rcases huc with h' | ⟨b,off,rfl,huc⟩
  ·omega
  ·exact zfl (P:=P) (ty:=ty) (zD ht) hi hzv hzc hown (a:=⟨b,off,none⟩) (m:=ys.length) (c:=c) (news:=yG us) (by rw [hsi];exact hful)
    (fun j q hq=>by rw [Addr.add_lit];exact hS.imm _ _ _ (huc j q hq)) hone oo (by rw [hbi i hi,← hk];exact hbytes) (by rw [← hk];exact hmx) hS.below.size
 ·subst hu'
  rcases huc with h' | ⟨b,off,rfl,huc⟩
  ·omega
  ·exact zjV (P:=P) (ty:=ty) (base:=W0.heap.size) (zD ht) hi hzv hzc (A:=A0) (n:=k) (xs:=cells) hcl hcells
    (a:=⟨b,off,none⟩) (m:=ys.length) (c:=c) (news:=yG us) (by rw [hsi];exact hful) (fun j q hq=>by rw [Addr.add_lit];exact hS.imm _ _ _ (huc j q hq)) oo (by rw [hbi i hi,← hk];exact hbytes) (by rw [← hk];exact hmx) hS.below.size
end
section
variable {P:Program} {o:Oper} {s:Slots} {id:Nat}
theorem zih {t e:TypeId} {size bytes r:Nat} {z Y:AV} {x y:Operand} {xs ys:List AV} (ho:o.op=.call { callee:=.builtin .append,args:=#[x,y],argTypes:=#[t,t] }) (ht:zT P t=some e) (hs:xL P e size=true) (hb:kH P e bytes=true)
  (hz:zK P e=some z) (hzs:z.sz=size) (hx:zl s x=.slice (some r) xs) (hy:zl s y=Y) (hY:Y.elems=some ys)
  (hsx:xs.all (fun x=>x.sz == size)=true) (hsy:ys.all (fun x=>x.sz == size && x.cell)=true) (hbytes:(xs.length+ys.length) * bytes≤140737488355328) (hmx:xs.length+ys.length≤maxLen):
  OpHolds P o s id [(r,.row e size xs.length)] (.slice (some r) (xs++ys)) [(r,.row e size (xs.length+ys.length))]:=by
 refine ⟨fun p hp=>by simp at hp;subst hp;simp,fun q hq=>.inr ⟨(r,.row e size xs.length),by simp,by simp at hq;subst hq;rfl⟩,fun W0 g σ n w a hS hr _ _ hp=>?_⟩
 have h1:=hr x (by simp [ho,Op.operands,Call.operands])
 have h2:=hr y (by simp [ho,Op.operands,Call.operands])
 rw [hx] at h1
 rw [hy] at h2
 have hp':σ r=.row e size xs.length:=hp (r,.row e size xs.length) (by simp)
 obtain ⟨cs,he⟩:=yK (P:=P) (a:=a) ho w
 have hE:=hS.ents r
 rw [hp'] at hE
 obtain ⟨hl,u,cells,hu,hlen,_⟩:=hE
 have hxu:a.eval x=u:=by
  generalize hv:a.eval x=v at h1
  cases h1 with
  | slice _ _ vs A c size' hvl hc hm hvr hvs hcell hown'=>
   obtain ⟨u',hu',_,h3⟩:=hown' r rfl
   rw [hu] at hu'
   cases hu'
   exact h3 hlen.symm
 obtain ⟨u',w',g',hrun,hle,hS',hrep⟩:=zfv (P:=P) (ty:=o.type) ht hs hb hz hzs hS hp' hu rfl (.inr (by rw [← hxu];exact h1)) hY h2 hsx hsy hbytes hmx
 unfold runsTo
 have hexec:(execOp a.eval o).run P w=.ok (.value u') w':=by
  rw [he]
  simp [builtin,hxu,hrun]
 rw [hexec]
 exact ⟨g',hle,hS',hrep⟩
theorem zhA {t e:TypeId} {size bytes:Nat} {z Y:AV} {x y:Operand} {ys:List AV} (ho:o.op=.call { callee:=.builtin .append,args:=#[x,y],argTypes:=#[t,t] }) (ht:zT P t=some e) (hs:xL P e size=true) (hb:kH P e bytes=true)
  (hz:zK P e=some z) (hzs:z.sz=size) (hx:zl s x=.nils) (hy:zl s y=Y) (hY:Y.elems=some ys)
  (hsy:ys.all (fun x=>x.sz == size && x.cell)=true) (hbytes:ys.length * bytes≤140737488355328) (hmx:ys.length≤maxLen):
  OpHolds P o s id [] (.slice (some id) ys) [(id,.row e size ys.length)]:=by
 refine ⟨fun p hp=>(by cases hp),fun q hq=>.inl (by simp at hq;subst hq;rfl),fun W0 g σ n w a hS hr hf hn _=>?_⟩
 have h1:=hr x (by simp [ho,Op.operands,Call.operands])
 have h2:=hr y (by simp [ho,Op.operands,Call.operands])
 rw [hx] at h1
 rw [hy] at h2
 have hxu:a.eval x=.slice none 0 0:=by
  generalize hv:a.eval x=v at h1
  cases h1;rfl
 obtain ⟨cs,he⟩:=yK (P:=P) (a:=a) ho w
 obtain ⟨g1,hle1,hS1,hrow1,_⟩:=hS.addRow (k:=id) (e:=e) (size:=size) (m:=0) (u:=.slice none 0 0) (cells:=[]) hf hn (kz w _ e size) rfl (fun b hb=>by simp [Value.ownBlock] at hb) (fun b hb=>by simp [Value.ownBlock] at hb)
 obtain ⟨u',w',g',hrun,hle,hS',hrep⟩:=zfv (P:=P) (ty:=o.type) (xs:=[]) ht hs hb hz hzs hS1 (zr _ _ _) hrow1 rfl (.inl rfl) hY (h2.mono hle1) rfl hsy (by simpa using hbytes) (by simpa using hmx)
 unfold runsTo
 have hexec:(execOp a.eval o).run P w=.ok (.value u') w':=by
  rw [he]
  simp [builtin,hxu,hrun]
 rw [hexec]
 refine ⟨g',hle1.trans hle,?_,by simpa using hrep⟩
 rw [zcT] at hS'
 simpa [wr] using hS'
theorem zhz {t e:TypeId} {size bytes:Nat} {z Y:AV} {x y:Operand} {xs ys:List AV} (ho:o.op=.call { callee:=.builtin .append,args:=#[x,y],argTypes:=#[t,t] }) (ht:zT P t=some e) (hs:xL P e size=true) (hb:kH P e bytes=true)
  (hz:zK P e=some z) (hzs:z.sz=size) (hx:zl s x=.clip xs) (hy:zl s y=Y) (hY:Y.elems=some ys)
  (hsx:xs.all (fun x=>x.sz == size)=true) (hsy:ys.all (fun x=>x.sz == size && x.cell)=true) (hbytes:(xs.length+ys.length) * bytes≤140737488355328) (hmx:xs.length+ys.length≤maxLen):
  OpHolds P o s id [] (.slice (some id) (xs++ys)) [(id,.row e size (xs.length+ys.length))]:=by
 refine ⟨fun p hp=>(by cases hp),fun q hq=>.inl (by simp at hq;subst hq;rfl),fun W0 g σ n w a hS hr hf hn _=>?_⟩
 have h1:=hr x (by simp [ho,Op.operands,Call.operands])
 have h2:=hr y (by simp [ho,Op.operands,Call.operands])
 rw [hx] at h1
 rw [hy] at h2
 obtain ⟨cs,he⟩:=yK (P:=P) (a:=a) ho w
 generalize hv:a.eval x=v at h1
 cases h1 with
 | clip _ A m hcl=>
  obtain ⟨g1,hle1,hS1,hrow1,hrep1⟩:=hS.ofClip (k:=id) (e:=e) (size:=size) hf hn hcl hsx
  obtain ⟨u',w',g',hrun,hle,hS',hrep⟩:=zfv (P:=P) (ty:=o.type) (xs:=xs) ht hs hb hz hzs hS1 (zr _ _ _) hrow1 rfl (.inr hrep1) hY (h2.mono hle1) hsx hsy hbytes hmx
  unfold runsTo
  have hexec:(execOp a.eval o).run P w=.ok (.value u') w':=by
   rw [he]
   simp [builtin,hv,hrun]
  rw [hexec]
  refine ⟨g',hle1.trans hle,?_,hrep⟩
  rw [zcT] at hS'
  simpa [wr] using hS'
theorem zjs {t e:TypeId} {size bytes:Nat} {z:AV} {x y:Operand} {k k':IntKind} {n c:Int} (ho:o.op=.makeSlice t x y) (ht:zT P t=some e) (hs:xL P e size=true) (hb:kH P e bytes=true) (hz:zK P e=some z) (hzs:z.sz=size) (hpos:0 < size)
  (hx:zl s x=.lit (.int k n)) (hy:zl s y=.lit (.int k' c)) (h0:0≤n) (h1:n≤c) (h2:c≤140737488355328) (h3:bytes * c≤140737488355328):
  OpHolds P o s id [] (.slice (some id) (List.replicate n.toNat z)) [(id,.row e size n.toNat)]:=by
 refine ⟨fun p hp=>(by cases hp),fun q hq=>.inl (by simp at hq;subst hq;rfl),fun W0 g σ N w a hS hr hf hn _=>?_⟩
 have e1:=hr x (by simp [ho,Op.operands])
 have e2:=hr y (by simp [ho,Op.operands])
 rw [hx] at e1
 rw [hy] at e2
 have e1:=zN e1
 have e2:=zN e2
 obtain ⟨i,hi,hsi⟩:=yo hs
 have hbi:i.bytes=bytes:=by unfold kH at hb;rw [hi] at hb;simpa using hb
 obtain ⟨i',zv,hi',hzv,hrz⟩:=vO hz g
 rw [hi] at hi';cases hi'
 have hzc:zv.cells.size=size:=by rw [hrz.size,hzs]
 obtain ⟨n',rfl⟩:=Int.eq_ofNat_of_zero_le h0
 obtain ⟨c',rfl⟩:=Int.eq_ofNat_of_zero_le (Int.le_trans h0 h1)
 have hc0:(0:Int)≤(c':Int):=by omega
 have hbc:(i.bytes:Int) * (c':Int)≤281474976710656:=by rw [hbi];omega
 have hrun:=run_make (P:=P) w t e i zv (zD ht) hi hzv k k' (n':Int) (c':Int) h0 h1 hbc oo
 simp only [Int.toNat_natCast] at hrun ⊢
 have hcur:(madeCells zv.cells (c' * i.size)).toList=yG (List.replicate c' zv):=by
  rw [hsi];exact qz c' zv size hzc hpos
 have hfl:(yG (List.replicate n' zv)).length=n' * size:=by rw [yL _ size (fun v hv=>by rw [List.eq_of_mem_replicate hv];exact hzc),List.length_replicate]
 have hcm:c'≤maxLen:=by unfold maxLen;omega
 obtain ⟨g',hle,hS',hrow,hG⟩:=hS.newRow (e:=e) (size:=size) (m:=n') (cells:=yG (List.replicate n' zv)) hf hn (madeCells zv.cells (c' * i.size)) c' hfl oo hcm
  (by rw [← Array.length_toList,hcur,yL _ size (fun v hv=>by rw [List.eq_of_mem_replicate hv];exact hzc),List.length_replicate])
  (by rw [hcur,← yI _ size (fun v hv=>by rw [List.eq_of_mem_replicate hv];exact hzc),List.take_replicate,Nat.min_eq_left oo])
 unfold runsTo
 have hexec:(execOp a.eval o).run P w=.ok (.value (.slice (some ⟨w.heap.size,0,none⟩) n' c')) (w.alloc (.cells (madeCells zv.cells (c' * i.size)) e)):=by
  simp only [execOp,ho,e1,e2,Sem.run_bind,hrun,Result.andThen_ok,Sem.run_pure]
 rw [hexec]
 refine ⟨g',hle,hS',?_⟩
 have:=Rep.slice (g:=g') (some id) (List.replicate n' z) (List.replicate n' zv) (some ⟨w.heap.size,0,none⟩) c' size (by simp) (by simp;omega) hcm (fun i x v h1 h2=>(kh hrz n' i x v h1 h2).mono hle)
  (fun v hv=>by rw [List.eq_of_mem_replicate hv];exact hzc) (.inr ⟨_,_,rfl,fun j u hu=>by rw [Nat.zero_add,hG];exact hu⟩) (fun id' hid=>by cases hid;exact ⟨_,hrow,by simp [zdX],fun _=>by simp⟩)
 simpa using this
def za (b:UInt8):AV:=.lit (.int .u8 (b.toNat:Int))
def zuV (l:List UInt8):Value:=.string ⟨l.toArray⟩
theorem zmx (b:UInt8):(za b).sz=1:=rfl
theorem znR (b:UInt8):(za b).cell=true:=rfl
theorem znV (bs:List UInt8) (acc:ByteArray):(bs.map fun b=>(b.toNat:Int)).foldl (fun r n=>r.push (UInt8.ofNat n.toNat)) acc=⟨acc.data++bs.toArray⟩:=by
 induction bs generalizing acc with
 | nil=>simp
 | cons b r ih=>
  simp only [List.map_cons,List.foldl_cons,Int.toNat_natCast,UInt8.ofNat_toNat]
  rw [ih]
  simp [ByteArray.push]
theorem zda (vs:List Value) (h:∀ v∈vs,v.oneCell'=true):yG vs=vs:=by
 induction vs with
 | nil=>rfl
 | cons v r ih=>
  rw [xX,ih fun u hu=>h u (List.mem_cons_of_mem _ hu),jo (h v (List.mem_cons_self ..))]
  rfl
theorem zjS {g:Ghost} {bs:List UInt8} {vs:List Value} (hl:vs.length=(bs.map za).length) (h:∀ (i:Nat) (x:AV) (v:Value),(bs.map za)[i]?=some x→vs[i]?=some v→Rep g x v):vs=bs.map fun b=>.int .u8 (b.toNat:Int):=by
 apply List.ext_getElem?
 intro i
 by_cases hi:i < bs.length
 ·have hv:i < vs.length:=by rw [hl];simpa using hi
  have:=h i (za bs[i]) vs[i] (by simp [hi]) (List.getElem?_eq_getElem hv)
  have e:=zN this
  rw [List.getElem?_eq_getElem hv,e]
  simp [hi]
 ·rw [List.getElem?_eq_none (by rw [hl];simpa using hi),List.getElem?_eq_none (by simpa using hi)]
def zq (P:Program) (e:TypeId):Bool:=
 match P.underlying e with
 | some (.int .u8)=>true
 | _=>false
theorem zaQ {src dst e:TypeId} {x:Operand} {own:Option Nat} {bs:List UInt8} (ho:o.op=.convert src dst x) (hs:zT P src=some e) (he:zq P e=true) (hd:zM P dst=true) (hx:AV.le (zl s x) (.slice own (bs.map za))):
  OpHolds P o s id [] (.lit (zuV bs)) []:=
 w9 (fun p hp=>(by cases hp)) fun W0 g σ n w a hS hr _=>by
  have h1:=hx _ _ (hr x (by simp [ho,Op.operands]))
  generalize hv:a.eval x=v at h1
  have he':P.underlying e=some (.int .u8):=by
   unfold zq at he
   split at he
   ·assumption
   ·cases he
  cases h1 with
  | slice _ _ vs A c size hvl hc hm hvr hvs hcell hown=>
   have hvb:=zjS hvl hvr
   have hfl:yG vs=vs:=zda vs (by rw [hvb];intro v hv;obtain ⟨b,_,rfl⟩:=List.mem_map.1 hv;rfl)
   refine ⟨_,?_,.lit _ rfl⟩
   have hconv:=run_convert_bytes_string (P:=P) w src dst e A (bs.map za).length c (zD hs) he' (wV hd)
   simp only [execOp,ho,hv,Sem.run_bind,hconv]
   rcases hcell with h0 | ⟨b,off,rfl,hG⟩
   ·have hb0:bs=[]:=by simpa using h0
    subst hb0
    cases A <;> simp [Conv.bytesToString,loadCells,loadCellsFrom,zuV] <;> rfl
   ·have hload:(loadCells ⟨b,off,none⟩ (bs.map za).length).run P w=.ok ((bs.map fun b=>(b.toNat:Int)).map (Value.int .u8)).toArray w:=by
     have:=run_loadCells_list (P:=P) w ⟨b,off,none⟩ (yG vs) (fun j u hu=>by rw [Addr.add_lit];exact hS.imm _ _ _ (hG j u hu))
     rw [hfl] at this
     rw [← hvl,this,hvb]
     simp
    rw [run_bytesToString w ⟨b,off,none⟩ _ c _ hload,znV]
    simp [zuV]
theorem zfN {src dst e:TypeId} {x:Operand} {own:Option Nat} {bs:List UInt8} (ho:o.op=.convert src dst x) (hs:zT P src=some e) (he:zq P e=true) (hd:zM P dst=true) (hx:zl s x=.slice own (bs.map za)):
  OpHolds P o s id [] (.lit (zuV bs)) []:=zaQ ho hs he hd (by rw [hx];exact AV.le_refl _)
end
def zz (P:Program) (t:TypeId):Nat:=
 match P.underlying t with
 | some (.slice _)=>1
 | some (.pointer _)=>2
 | some (.func _ _ _)=>3
 | _=>0
def zbD:Value→Option (Nat × Bool)
 | .slice A _ _=>some (1,A.isNone)
 | .pointer A=>some (2,A.isNone)
 | .nilFunc=>some (3,true)
 | .func _ _ _=>some (3,false)
 | _=>none
def zqe:AV→Option (Nat × Bool)
 | .nils=>some (1,true)
 | .slice _ xs=>if xs.isEmpty then none else some (1,false)
 | .ptr _ _ _=>some (2,false)
 | .view _=>some (2,false)
 | .mp _ _ _ _=>some (2,false)
 | .bs _ _ _ _ _=>some (1,false)
 | .fn _ _=>some (3,false)
 | .lit v=>zbD v
 | _=>none
theorem zjC {g:Ghost} {x:AV} {v:Value} {kb:Nat × Bool} (h:zqe x=some kb) (hr:Rep g x v):zbD v=some kb:=by
 cases hr with
 | any _ _=>cases h
 | lit v _=>exact h
 | nils=>exact h
 | slice own xs vs A c size hvl hc hm _ hs hcell hown=>
  cases xs with
  | nil=>simp [zqe] at h
  | cons x xs=>
   simp only [zqe,List.isEmpty_cons] at h
   rcases hcell with h0 | ⟨b,o,hA,_⟩
   ·simp at h0
   ·subst hA;simpa [zbD] using h
 | agg=>cases h
 | ptr=>exact h
 | view=>exact h
 | fn=>exact h
 | tup=>cases h
 | clip=>cases h
 | ms=>cases h
 | mp=>exact h
 | bs=>exact h
 | iface=>cases h
theorem zjY {P:Program} {t:TypeId} {a b:Value} {k:Nat} {p:Bool} (ha:zbD a=some (k,p)) (hb:zbD b=some (k,true)) (ht:zz P t=k) (d:Nat) (w:World):(Op.equalIn (d+1) t a b).run P w=.ok p w:=by
 unfold zz at ht
 cases a <;> simp [zbD] at ha <;> obtain ⟨rfl,rfl⟩:=ha <;> cases b <;> simp [zbD] at hb
 all_goals
  split at ht <;> simp at ht
  rename_i hu
  try subst hb
 all_goals first
  | (rename_i A _ _ _ _ _ _ _;cases A <;> simp [Op.equalIn,run_underlying hu];done)
  | (rename_i A _ _ _ _ _ _;cases A <;> simp [Op.equalIn,run_underlying hu];done)
  | (rename_i A _ _ _ _ _;cases A <;> simp [Op.equalIn,run_underlying hu];done)
  | (rename_i A _ _ _ _;cases A <;> simp [Op.equalIn,run_underlying hu];done)
  | (rename_i A _ _ _;cases A <;> simp [Op.equalIn,run_underlying hu];done)
  | (rename_i A _ _;cases A <;> simp [Op.equalIn,run_underlying hu];done)
  | (rename_i A _;cases A <;> simp [Op.equalIn,run_underlying hu];done)
  | (simp [Op.equalIn,run_underlying hu];done)
theorem zl1 {P:Program} {t:TypeId} {a b:Value} {k:Nat} {p:Bool} (ha:zbD a=some (k,p)) (hb:zbD b=some (k,true)) (ht:zz P t=k) (w:World):(Op.equal t a b).run P w=.ok p w:=
 zjY ha hb ht 9999 w
theorem zlh {t:TypeId} {a b:Value} {kp:Nat × Bool} (ha:zbD a=some kp):binOp .eql t a b=(do pure (.bool (← Op.equal t a b))):=by
 cases a <;> simp [zbD] at ha <;> rfl
theorem zli {t:TypeId} {a b:Value} {kp:Nat × Bool} (ha:zbD a=some kp):binOp .neq t a b=(do pure (.bool !(← Op.equal t a b))):=by
 cases a <;> simp [zbD] at ha <;> rfl
def zi9 (P:Program) (op:BinOp) (t:TypeId) (u v:AV):Option Bool:=
 match zqe u,zqe v with
 | some (k,p),some (k',true)=>if k=k'∧zz P t=k then
   match op with
   | .eql=>some p
   | .neq=>some !p
   | _=>none
  else none
 | _,_=>none
theorem zjt {P:Program} {o:Oper} {s:Slots} {id:Nat} {op:BinOp} {t yt:TypeId} {x y:Operand} {u v:AV} {r:Bool} (ho:o.op=.binOp op t x y yt) (hx:zl s x=u) (hy:zl s y=v) (h:zi9 P op t u v=some r):
  OpHolds P o s id [] (.lit (.bool r)) []:=
 yj fun g w a hr=>by
  have h1:=hr x (by simp [ho,Op.operands])
  have h2:=hr y (by simp [ho,Op.operands])
  rw [hx] at h1
  rw [hy] at h2
  refine ⟨.bool r,?_,.lit _ rfl⟩
  unfold zi9 at h
  split at h
  ·rename_i k p k' e1 e2
   split at h
   ·rename_i hc
    obtain ⟨rfl,hk⟩:=hc
    have a1:=zjC e1 h1
    have a2:=zjC e2 h2
    have hrun:=zl1 (P:=P) a1 a2 hk w
    simp only [execOp,ho]
    generalize a.eval x=X at *
    generalize a.eval y=Y at *
    have hg:∀ op,eqGuard op t x y X Y=pure ():=by
     intro op
     unfold eqGuard
     cases X <;> simp [zbD] at a1 <;> cases Y <;> simp [zbD] at a2 <;> cases op <;> rfl
    rw [hg]
    split at h
    ·cases h
     rw [zlh a1]
     simp only [Sem.run_bind,Sem.run_pure,Result.andThen_ok,hrun]
    ·cases h
     rw [zli a1]
     simp only [Sem.run_bind,Sem.run_pure,Result.andThen_ok,hrun]
    ·cases h
   ·cases h
  ·cases h
section
variable {P:Program} {o:Oper} {s:Slots} {id:Nat}
theorem runsTo.mono {a:Act} {w:World} {R R':Value→World→Prop} (h:runsTo P o a w R) (hR:∀ u w',R u w'→R' u w'):runsTo P o a w R':=by
 unfold runsTo at *
 generalize (execOp a.eval o).run P w=r at *
 cases r with
 | ok x w'=>
  cases x <;> simp only [zdK] at *
  ·exact hR _ _ h
  ·exact hR _ _ h
  ·exact h.mono fun e w'' ⟨u,he,hu⟩=>⟨u,he,hR _ _ hu⟩
  ·exact h.mono fun e w'' ⟨u,he,hu⟩=>⟨u,he,hR _ _ hu⟩
 | halt x w'=>simp [zdK] at h
theorem Rep.msFrozen {g g':Ghost} {id ver size:Nat} {xs:List AV} {vs:List Value} {u v:Value} (hr:Rep g (.ms id ver size 0 xs.length) v) (hle:g.le g') (hm:g.mr id=some (ver,u)) (hlen:zdX u=xs.length) (hrow:g'.row id=some u) (hvl:vs.length=xs.length)
  (hvr:∀ (i:Nat) (x:AV) (v:Value),xs[i]?=some x→vs[i]?=some v→Rep g x v) (hvs:∀ v∈vs,v.cells.size=size) (hG:∀ b,u.ownBlock=some b→∀ (o:Nat),g'.G b o=(yG vs)[o]?):
  Rep g' (.slice (some id) xs) v:=by
 cases hr with
 | ms _ _ _ _ _ ver' u' A c hm' hv hl hc h=>
  rw [hm] at hm';cases hm'
  obtain ⟨A0,n0,c0,rfl,h1,h2,h3⟩:=h rfl
  obtain ⟨rfl,rfl⟩:=h2 rfl
  simp only [zdX] at hlen
  subst hlen
  refine .slice (some id) xs vs A c size hvl hl hc (fun i x v h1 h2=>(hvr i x v h1 h2).mono hle) hvs ?_ (fun id' hid=>by cases hid;exact ⟨_,hrow,by simp [zdX],fun _=>rfl⟩)
  by_cases h0:xs.length=0
  ·exact .inl h0
  ·obtain ⟨b,hb,_⟩:=h3 oo
   exact .inr ⟨b,0,hb,fun j q hq=>by rw [Nat.zero_add,hG b (by rw [hb];rfl)];exact hq⟩
theorem OpHolds.freezeNew {size:Nat} {e:TypeId} {ys:List AV} {n:Nat} (h:OpHolds P o s id [] (.ms id 0 size 0 n) [(id,.mrow 0 e size ys)]) (hn:ys.length=n):OpHolds P o s id [] (.slice (some id) ys) [(id,.row e size n)]:=by
 subst hn
 obtain ⟨h1,h2,h3⟩:=h
 refine ⟨h1,fun q hq=>.inl (by simp at hq;subst hq;rfl),fun W0 g σ n w a hS hr hf hn hp=>(h3 W0 g σ n w a hS hr hf hn hp).mono ?_⟩
 rintro u w' ⟨g',hle,hS',hrep⟩
 obtain ⟨g2,hle2,hS2,u2,vs,k1,k2,k3,k4,k5,k6,k7,k8⟩:=hS'.freezeM (id:=id) (ver:=0) (e:=e) (size:=size) (xs:=ys) (by simp [wr,zr])
 refine ⟨g2,hle.trans hle2,?_,hrep.msFrozen hle2 k1 k3 k2 k4 k5 k6 k8⟩
 have:upd (wr σ [(id,Ent.mrow 0 e size ys)]) id (.row e size ys.length)=wr σ [(id,.row e size ys.length)]:=by simp [wr,zcT]
 rw [← this];exact hS2
theorem Sim.newM {W0:World} {g:Ghost} {σ:Nat→Ent} {n:Nat} {w:World} (h:Sim W0 g σ n w) {k:Nat} {e:TypeId} {size:Nat} {xs:List AV} {vs:List Value} (hk:σ k=.none) (hn:k < n) (cur:Array Value) (cap:Nat) (hvl:vs.length=xs.length)
  (hvr:∀ (i:Nat) (x:AV) (v:Value),xs[i]?=some x→vs[i]?=some v→Rep g x v) (hvs:∀ v∈vs,v.cells.size=size) (hmc:xs.length≤cap) (hcm:cap≤maxLen) (hcur:cur.size=cap * size) (htake:cur.toList.take (xs.length * size)=yG vs) {fz:Nat × Nat} (hz:noFz fz cur.size):
  ∃ g',g.le g'∧Sim W0 g' (upd σ k (.mrow 0 e size xs)) n (w.alloc (.cells cur e fz))∧Rep g' (.ms k 0 size 0 xs.length) (.slice (some ⟨w.heap.size,0,none⟩) xs.length cap):=by
 have hfl:(yG vs).length=xs.length * size:=by rw [yL vs size hvs,hvl]
 have hown:ownsR (w.alloc (.cells cur e fz)) W0.heap.size e size (.slice (some ⟨w.heap.size,0,none⟩) xs.length cap) xs.length (yG vs):=
  ⟨hfl,.inr ⟨w.heap.size,cap,cur,fz,rfl,h.below.size,heap_alloc_new w _,hz,hmc,hcm,hcur,htake⟩⟩
 obtain ⟨h1,h2⟩:=(h.alloc (.cells cur e fz)).addM hk hn hown rfl hvl hvr hvs (fun b hb o=>by simp [Value.ownBlock] at hb;subst hb;exact h.G_new o) (fun b hb i=>by simp [Value.ownBlock] at hb;subst hb;exact h.blk_new i)
 exact ⟨_,h1,h2,.ms k 0 size 0 xs.length 0 _ _ cap (by simp [zr];rfl) (Nat.le_refl _) hmc hcm fun _=>⟨_,_,_,rfl,by omega,fun _=>⟨rfl,rfl⟩,fun _=>⟨_,rfl,by simp⟩⟩⟩
theorem zhC {t e:TypeId} {len size:Nat} {parts:Array (Nat × Operand)} {ys:List AV} {z:AV} (ho:o.op=.buildSlice t len parts) (ht:zT P t=some e) (hs:xL P e size=true) (hz:zK P e=some z) (hpos:0 < size) (hzs:z.sz=size)
  (hlen:len * size≤16777216) (hf:zdU (fun i=>some (i * size,size)) (List.replicate len z) (parts.toList.map fun p=>(p.1,zl s p.2))=some ys) (hys:ys.length=len) (hsz:ys.all (fun x=>x.sz == size)=true):
  OpHolds P o s id [] (.ms id 0 size 0 len) [(id,.mrow 0 e size ys)]:=by
 refine ⟨fun p hp=>(by cases hp),fun q hq=>.inl (by simp at hq;subst hq;rfl),fun W0 g σ n w a hS hr hf0 hn _=>?_⟩
 obtain ⟨i,zv,hi,hzv,hrep⟩:=vO hz g
 obtain ⟨ie,hie,hsi⟩:=yo hs
 rw [hi] at hie;cases hie
 have hzc:zv.cells.size=size:=by rw [hrep.size,hzs]
 have hcells:((Array.range (len * size)).map ((if len * size=0 then #[] else zv.cells)[· % (if len * size=0 then #[] else zv.cells).size]!)).toList=yG (List.replicate len zv):=by
  by_cases h0:len * size=0
  ·have:len=0:=by
    rcases Nat.mul_eq_zero.1 h0 with h | h
    ·exact h
    ·omega
   subst this
   simp [yG]
  ·rw [if_neg h0];exact qz len zv size hzc hpos
 obtain ⟨us,cells',k1,k2,k3,k4⟩:=zcj _ ((parts.map fun (p:Nat × Operand)=>(p.1,a.eval p.2)).toList) (List.replicate len z) ys (List.replicate len zv) _ hf (by simp) (zgQ (by simpa [ho,Op.operands] using hr)) (by simp) (kh hrep len) hcells
 have hus:∀ v∈us,v.cells.size=size:=jS k1 k2 hsz
 have hfl:(yG us).length=len * size:=by rw [yL us size hus,k1,hys]
 have hm:len≤maxLen:=by
  have:len≤len * size:=Nat.le_mul_of_pos_right _ hpos
  unfold maxLen;omega
 obtain ⟨g',hle,hS',hrp⟩:=hS.newM (e:=e) (size:=size) (xs:=ys) (vs:=us) hf0 hn cells' len k1 k2 hus oo hm (by rw [← Array.length_toList,k3,hfl]) (by rw [k3,List.take_of_length_le (by rw [hfl,hys];exact Nat.le_refl _)]) (jJ _)
 unfold runsTo
 have hexec:(execOp a.eval o).run P w=.ok (.value (.slice (some ⟨w.heap.size,0,none⟩) len len)) (w.alloc (.cells cells' e)):=by
  have hbig:¬ len * size > 2 ^ 24:=by omega
  simp only [execOp,ho,Instr.buildSlice,Sem.run_bind,run_underlying (zD ht),Result.andThen_ok,sizeOf,typeInfo,run_program,hi,Sem.run_pure,hsi,if_neg hbig]
  by_cases h0:len * size=0
  ·simp only [if_pos h0] at k4 ⊢
   simp only [Sem.run_bind,Sem.run_pure,Result.andThen_ok]
   rw [k4]
   rfl
  ·simp only [if_neg h0] at k4 ⊢
   simp only [Sem.run_bind,Sem.run_pure,Result.andThen_ok,zeroValue,typeInfo,run_program,hi,hzv]
   rw [k4]
   rfl
 rw [hexec]
 rw [hys] at hrp
 exact ⟨g',hle,hS',hrp⟩
theorem zij {t e:TypeId} {size bytes:Nat} {z:AV} {x y:Operand} {k k':IntKind} {n c:Int} (ho:o.op=.makeSlice t x y) (ht:zT P t=some e) (hs:xL P e size=true) (hb:kH P e bytes=true) (hz:zK P e=some z) (hzs:z.sz=size) (hpos:0 < size)
  (hx:zl s x=.lit (.int k n)) (hy:zl s y=.lit (.int k' c)) (h0:0≤n) (h1:n≤c) (h2:c≤140737488355328) (h3:bytes * c≤140737488355328):
  OpHolds P o s id [] (.ms id 0 size 0 n.toNat) [(id,.mrow 0 e size (List.replicate n.toNat z))]:=by
 refine ⟨fun p hp=>(by cases hp),fun q hq=>.inl (by simp at hq;subst hq;rfl),fun W0 g σ N w a hS hr hf hn _=>?_⟩
 have e1:=hr x (by simp [ho,Op.operands])
 have e2:=hr y (by simp [ho,Op.operands])
 rw [hx] at e1
 rw [hy] at e2
 have e1:=zN e1
 have e2:=zN e2
 obtain ⟨i,hi,hsi⟩:=yo hs
 have hbi:i.bytes=bytes:=by unfold kH at hb;rw [hi] at hb;simpa using hb
 obtain ⟨i',zv,hi',hzv,hrz⟩:=vO hz g
 rw [hi] at hi';cases hi'
 have hzc:zv.cells.size=size:=by rw [hrz.size,hzs]
 obtain ⟨n',rfl⟩:=Int.eq_ofNat_of_zero_le h0
 obtain ⟨c',rfl⟩:=Int.eq_ofNat_of_zero_le (Int.le_trans h0 h1)
 have hbc:(i.bytes:Int) * (c':Int)≤281474976710656:=by rw [hbi];omega
 have hrun:=run_make (P:=P) w t e i zv (zD ht) hi hzv k k' (n':Int) (c':Int) h0 h1 hbc oo
 simp only [Int.toNat_natCast] at hrun ⊢
 have hcur:(madeCells zv.cells (c' * i.size)).toList=yG (List.replicate c' zv):=by
  rw [hsi];exact qz c' zv size hzc hpos
 have hcm:c'≤maxLen:=by unfold maxLen;omega
 have hall:∀ m,∀ v∈List.replicate m zv,v.cells.size=size:=fun m v hv=>by rw [List.eq_of_mem_replicate hv];exact hzc
 obtain ⟨g',hle,hS',hrp⟩:=hS.newM (e:=e) (size:=size) (xs:=List.replicate n' z) (vs:=List.replicate n' zv) hf hn (madeCells zv.cells (c' * i.size)) c' (by simp) (kh hrz n') (hall n') (by simp;omega) hcm
  (by rw [← Array.length_toList,hcur,yL _ size (hall c'),List.length_replicate])
  (by rw [hcur,← yI _ size (hall c'),List.take_replicate,List.length_replicate,Nat.min_eq_left oo]) (jJ _)
 unfold runsTo
 have hexec:(execOp a.eval o).run P w=.ok (.value (.slice (some ⟨w.heap.size,0,none⟩) n' c')) (w.alloc (.cells (madeCells zv.cells (c' * i.size)) e)):=by
  simp only [execOp,ho,e1,e2,Sem.run_bind,hrun,Result.andThen_ok,Sem.run_pure]
 rw [hexec]
 simp only [List.length_replicate] at hrp
 exact ⟨g',hle,hS',hrp⟩
end
section
variable {P:Program} {o:Oper} {s:Slots} {id:Nat}
theorem Sim.mrowAt {W0:World} {g:Ghost} {σ:Nat→Ent} {n:Nat} {w:World} (h:Sim W0 g σ n w) {r ver:Nat} {e:TypeId} {size:Nat} {xs:List AV} (hx:σ r=.mrow ver e size xs):
  ∃ u vs,g.mr r=some (ver,u)∧zdX u=xs.length∧vs.length=xs.length∧(∀ (i:Nat) (x:AV) (v:Value),xs[i]?=some x→vs[i]?=some v→Rep g x v)∧(∀ v∈vs,v.cells.size=size)∧ownsR w W0.heap.size e size u xs.length (yG vs):=by
 have hE:=h.ents r
 rw [hx] at hE
 obtain ⟨_,_,_,u,vs,h1,h2,h3,h4,h5,h6,_⟩:=hE
 exact ⟨u,vs,h1,h2,h3,h4,h5,h6⟩
theorem zjn {t e:TypeId} {size bytes r ver k:Nat} {z Y:AV} {x y:Operand} {xs ys:List AV} (ho:o.op=.call { callee:=.builtin .append,args:=#[x,y],argTypes:=#[t,t] }) (ht:zT P t=some e) (hs:xL P e size=true) (hb:kH P e bytes=true)
  (hz:zK P e=some z) (hzs:z.sz=size) (hx:zl s x=.ms r ver size 0 k) (hk:k≤xs.length) (hy:zl s y=Y) (hY:Y.elems=some ys)
  (hsy:ys.all (fun x=>x.sz == size && x.cell)=true) (hbytes:(k+ys.length) * bytes≤140737488355328) (hmx:k+ys.length≤maxLen):
  OpHolds P o s id [(r,.mrow ver e size xs)] (.ms r (ver+1) size 0 (k+ys.length)) [(r,.mrow (ver+1) e size (xs.take k++ys))]:=by
 refine ⟨fun p hp=>by simp at hp;subst hp;simp,fun q hq=>.inr ⟨(r,.mrow ver e size xs),by simp,by simp at hq;subst hq;rfl⟩,fun W0 g σ n w a hS hr _ _ hp=>?_⟩
 have h1:=hr x (by simp [ho,Op.operands,Call.operands])
 have h2:=hr y (by simp [ho,Op.operands,Call.operands])
 rw [hx] at h1
 rw [hy] at h2
 have hp':σ r=.mrow ver e size xs:=hp (r,.mrow ver e size xs) (by simp)
 obtain ⟨cs,he⟩:=yK (P:=P) (a:=a) ho w
 obtain ⟨i,hi,hsi⟩:=yo hs
 have hbi:i.bytes=bytes:=by unfold kH at hb;rw [hi] at hb;simpa using hb
 obtain ⟨i',zv,hi',hzv,hrz⟩:=vO hz g
 rw [hi] at hi';cases hi'
 have hzc:zv.cells.size=i.size:=by rw [hrz.size,hzs,hsi]
 obtain ⟨u,vs,hmr,hlen,hvl,hvr,hvs,hown⟩:=hS.mrowAt hp'
 have hsy1:ys.all (fun x=>x.sz == size)=true:=by
  rw [List.all_eq_true] at hsy ⊢
  intro x hx
  have:=hsy x hx
  simp only [Bool.and_eq_true] at this
  exact this.1
 generalize hv:a.eval x=v at h1
 generalize hw:a.eval y=yv at h2
 obtain ⟨A,m,c,us,rfl,rfl,hul,hur,hus,huc⟩:=zhm hY h2 hsy1
 have hone:∀ q∈yG us,q.oneCell'=true:=by
  intro q hq
  obtain ⟨v,hv,hq⟩:=mem_flat.1 hq
  obtain ⟨j,hj⟩:=List.getElem?_of_mem hv
  have hlt:j < ys.length:=by rw [← hul];exact (List.getElem?_eq_some_iff.1 hj).1
  have hc:=List.all_eq_true.1 hsy ys[j] (List.getElem_mem hlt)
  simp only [Bool.and_eq_true] at hc
  exact (hur j _ v (List.getElem?_eq_getElem hlt) hj).cell_ok hc.2 q hq
 have hful:(yG us).length=ys.length * size:=by rw [yL us size hus,hul]
 have htk:∀ v∈vs.take k,v.cells.size=size:=fun v hv=>hvs v (List.mem_of_mem_take hv)
 have hftk:yG (vs.take k)=(yG vs).take (k * size):=yI vs size hvs k
 cases h1 with
 | ms _ _ _ _ _ ver' u' Ax cx hm' hv' hlx hcx h=>
  rw [hmr] at hm';cases hm'
  obtain ⟨A0,n0,c0,rfl,j1,j2,j3⟩:=h rfl
  obtain ⟨rfl,rfl⟩:=j2 rfl
  simp only [zdX] at hlen
  subst hlen
  have hownk:ownsR w W0.heap.size e size (.slice Ax k cx) k (yG (vs.take k)):=by
   refine ⟨by rw [yL _ size htk,List.length_take,hvl,Nat.min_eq_left hk],?_⟩
   rcases hown.2 with ⟨h0,h00⟩ | ⟨b,cap,cur,fz,hb1,hb2,hb3,hb4,hb5,hb6,hb7,hb8⟩
   ·simp at h0
    obtain ⟨rfl,_,rfl⟩:=h0
    have:k=0:=by omega
    subst this
    exact .inl ⟨rfl,rfl⟩
   ·simp at hb1
    obtain ⟨rfl,rfl⟩:=hb1
    refine .inr ⟨b,cx,cur,fz,rfl,hb2,hb3,hb4,by omega,hb6,hb7,?_⟩
    rw [hftk,← hb8,List.take_take,Nat.min_eq_left (Nat.mul_le_mul_right _ hk)]
  have finish:∀ (u':Value) (w':World),ownsR w' W0.heap.size e size u' (k+ys.length) (yG (vs.take k)++yG us)→zdX u'=k+ys.length→w'.os=w.os→w'.tape=w.tape→w'.output=w.output→w.heap.size≤w'.heap.size →
    (u'.ownBlock=(Value.slice Ax xs.length cx).ownBlock∨u'.ownBlock=some w.heap.size)→(∀ j,(Value.slice Ax xs.length cx).ownBlock≠some j→j < w.heap.size→w'.heap[j]?=w.heap[j]?) →
    ∃ g',g.le g'∧Sim W0 g' (upd σ r (.mrow (ver+1) e size (xs.take k++ys))) n w'∧Rep g' (.ms r (ver+1) size 0 (k+ys.length)) u':=by
   intro u' w' k1 k2 k3 k4 k5 k6 k7 k8
   have hlen':(xs.take k++ys).length=k+ys.length:=by rw [List.length_append,List.length_take,Nat.min_eq_left hk]
   obtain ⟨g',hle,hS',hm2,_⟩:=hS.turnM (ver':=ver+1) (xs':=xs.take k++ys) (vs':=vs.take k++us) hp' hmr (.inr (Nat.lt_succ_self _)) (by rw [hlen',qY];exact k1) (by rw [hlen'];exact k2) (by simp [hvl,hul])
    (fun j x v h1 h2=>by
     have hxl:(xs.take k).length=k:=by rw [List.length_take,Nat.min_eq_left hk]
     have hvl':(vs.take k).length=k:=by rw [List.length_take,hvl,Nat.min_eq_left hk]
     by_cases hj:j < k
     ·rw [List.getElem?_append_left oo,List.getElem?_take,if_pos hj] at h1
      rw [List.getElem?_append_left oo,List.getElem?_take,if_pos hj] at h2
      exact hvr j x v h1 h2
     ·rw [List.getElem?_append_right oo,hxl] at h1
      rw [List.getElem?_append_right oo,hvl'] at h2
      exact hur _ x v h1 h2) (fun v hv=>(List.mem_append.1 hv).elim (htk v) (hus v)) k3 k4 k5 k6 k7 k8
   refine ⟨g',hle,hS',?_⟩
   rcases k1.2 with ⟨hv0,hn0⟩ | ⟨g0,cap,cur,fz,hv0,_,_,_,hnc,hcm,_⟩
   ·subst hv0
    rw [hn0]
    exact .ms r (ver+1) size 0 0 (ver+1) _ none 0 hm2 (Nat.le_refl _) (Nat.le_refl _) (by unfold maxLen;omega) fun _=>⟨_,_,_,rfl,by omega,fun _=>⟨rfl,rfl⟩,fun h=>absurd h oo⟩
   ·subst hv0
    exact .ms r (ver+1) size 0 _ (ver+1) _ _ cap hm2 (Nat.le_refl _) hnc hcm fun _=>⟨_,_,_,rfl,by omega,fun _=>⟨rfl,rfl⟩,fun _=>⟨g0,rfl,by simp⟩⟩
  have hexec:∀ u' w',(Builtin.append_ #[t,t] o.type #[.slice Ax k cx,.slice A ys.length c]).run P w=.ok u' w'→(execOp a.eval o).run P w=.ok (.value u') w':=fun u' w' hrun=>by
   rw [he]
   simp [builtin,hv,hw,hrun]
  unfold runsTo
  have hownsi:ownsR w W0.heap.size e i.size (.slice Ax k cx) k (yG (vs.take k)):=by rw [hsi];exact hownk
  by_cases h0:ys.length=0
  ·have hrun:=zjW (P:=P) (ty:=o.type) (zD ht) hi hownsi (A:=A) (c:=c)
   rw [← h0] at hrun
   rw [hexec _ _ hrun]
   have hfu:yG us=[]:=List.eq_nil_of_length_eq_zero (by rw [hful,h0];simp)
   exact finish _ w (by rw [hfu,List.append_nil,h0];exact hownk) (by simp [zdX,h0]) rfl rfl rfl (Nat.le_refl _) (.inl (by cases Ax <;> rfl)) fun _ _ _=>rfl
  ·rcases huc with h' | ⟨b,off,rfl,huc⟩
   ·exact absurd h' h0
   ·obtain ⟨u',w',hrun,k1,k2,k3,k4,k5,k6,k7⟩:=zfl (P:=P) (ty:=o.type) (zD ht) hi hzv hzc hownsi (a:=⟨b,off,none⟩) (m:=ys.length) (c:=c) (news:=yG us) (by rw [hsi];exact hful)
     (fun j q hq=>by rw [Addr.add_lit];exact hS.imm _ _ _ (huc j q hq)) hone oo (by rw [hbi];exact hbytes) hmx hS.below.size
    rw [hexec _ _ hrun]
    have eqb:(Value.slice Ax k cx).ownBlock=(Value.slice Ax xs.length cx).ownBlock:=by cases Ax <;> rfl
    exact finish u' w' (by rw [← hsi];exact k1) k2 k3 k4 k5 k6 (k7.imp (fun h=>h.2.1.trans eqb) (fun h=>h.2.1)) (fun j hj hlt=>by
     rcases k7 with ⟨_,_,h⟩ | ⟨_,_,h⟩
     ·exact h j (by rw [eqb];exact hj) hlt
     ·exact h j hlt)
theorem zgJ {t e:TypeId} {size r ver lo len:Nat} {x i:Operand} {xs:List AV} {k:IntKind} {n:Int} (ho:o.op=.indexAddr t x i) (ht:zT P t=some e) (hs:xL P e size=true) (hx:zl s x=.ms r ver size lo len) (hi:zl s i=.lit (.int k n)) (h0:0≤n) (hn:n.toNat < len):
  OpHolds P o s id [(r,.mrow ver e size xs)] (.mp r ver [lo+n.toNat] ((lo+n.toNat) * size)) []:=by
 refine w9 (fun p hp=>by simp at hp;subst hp;simp) fun W0 g σ N w a hS hr hp=>?_
 have h1:=hr x (by simp [ho,Op.operands])
 have h2:=hr i (by simp [ho,Op.operands])
 rw [hx] at h1
 rw [hi] at h2
 have e2:=zN h2
 have hp':σ r=.mrow ver e size xs:=hp (r,.mrow ver e size xs) (by simp)
 obtain ⟨u,vs,hmr,hlen,hvl,hvr,hvs,hown⟩:=hS.mrowAt hp'
 obtain ⟨ie,hie,hsi⟩:=yo hs
 generalize hv:a.eval x=v at h1
 cases h1 with
 | ms _ _ _ _ _ ver' u' A c hm' hv' hl hc h=>
  rw [hmr] at hm';cases hm'
  obtain ⟨A0,n0,c0,rfl,j1,j2,j3⟩:=h rfl
  obtain ⟨b,rfl,rfl⟩:=j3 oo
  obtain ⟨m,rfl⟩:=Int.eq_ofNat_of_zero_le h0
  simp only [Int.toNat_natCast] at hn ⊢
  refine ⟨.pointer (some ⟨b,(lo+m) * size,none⟩),?_,.mp r ver _ _ ver _ _ hmr (Nat.le_refl _) fun _=>⟨b,_,_,rfl,rfl⟩⟩
  have hlt:(m:Int) < (len:Int):=by omega
  simp [execOp,ho,hv,e2,Instr.indexAt,asIntOf,run_underlying (zD ht),sizeOf,typeInfo,hie,hsi,Addr.add_lit,Nat.add_mul]
  omega
theorem zgG {t:TypeId} {x:Operand} {f k i ver off:Nat} {path:List Nat} {e:TypeId} {size:Nat} {xs:List AV} (ho:o.op=.fieldAddr t x f) (hx:zl s x=.mp i ver path off) (hf:zf P t f=some k):
  OpHolds P o s id [(i,.mrow ver e size xs)] (.mp i ver (path++[f]) (off+k)) []:=by
 refine w9 (fun p hp=>by simp at hp;subst hp;simp) fun W0 g σ N w a hS hr hp=>?_
 have h1:=hr x (by simp [ho,Op.operands])
 rw [hx] at h1
 have hp':σ i=.mrow ver e size xs:=hp (i,.mrow ver e size xs) (by simp)
 obtain ⟨u,vs,hmr,_⟩:=hS.mrowAt hp'
 generalize hv:a.eval x=v at h1
 cases h1 with
 | mp _ _ _ _ ver' u' ad hm' hv' h=>
  rw [hmr] at hm';cases hm'
  obtain ⟨b,n,c,rfl,rfl⟩:=h rfl
  refine ⟨.pointer (some ⟨b,off+k,none⟩),?_,.mp i ver _ _ ver _ _ hmr (Nat.le_refl _) fun _=>⟨b,_,_,rfl,rfl⟩⟩
  have:=zcS hf b off w
  simp only [execOp,ho,hv,Sem.run_bind,this,Result.andThen_ok,Sem.run_pure]
theorem zgI {t e:TypeId} {x i:Operand} {j ver off len size:Nat} {path:List Nat} {k:IntKind} {n:Int} {e':TypeId} {size':Nat} {xs:List AV} (ho:o.op=.indexAddr t x i) (ht:zie P t=some (len,e)) (hs:xL P e size=true) (hx:zl s x=.mp j ver path off) (hi:zl s i=.lit (.int k n)) (h0:0≤n) (hn:n.toNat < len):
  OpHolds P o s id [(j,.mrow ver e' size' xs)] (.mp j ver (path++[n.toNat]) (off+n.toNat * size)) []:=by
 refine w9 (fun p hp=>by simp at hp;subst hp;simp) fun W0 g σ N w a hS hr hp=>?_
 have h1:=hr x (by simp [ho,Op.operands])
 have h2:=hr i (by simp [ho,Op.operands])
 rw [hx] at h1
 rw [hi] at h2
 have e2:=zN h2
 have hp':σ j=.mrow ver e' size' xs:=hp (j,.mrow ver e' size' xs) (by simp)
 obtain ⟨u,vs,hmr,_⟩:=hS.mrowAt hp'
 obtain ⟨ie,hie,hsi⟩:=yo hs
 generalize hv:a.eval x=v at h1
 cases h1 with
 | mp _ _ _ _ ver' u' ad hm' hv' h=>
  rw [hmr] at hm';cases hm'
  obtain ⟨b,n',c,rfl,rfl⟩:=h rfl
  obtain ⟨m,rfl⟩:=Int.eq_ofNat_of_zero_le h0
  simp only [Int.toNat_natCast] at hn ⊢
  refine ⟨.pointer (some ⟨b,off+m * size,none⟩),?_,.mp j ver _ _ ver _ _ hmr (Nat.le_refl _) fun _=>⟨b,_,_,rfl,rfl⟩⟩
  have hlt:(m:Int) < (len:Int):=by omega
  simp [execOp,ho,hv,e2,Instr.indexAt,asIntOf,run_underlying (wP ht),Instr.sureAddr,sizeOf,typeInfo,hie,hsi,Addr.add_lit]
  omega
theorem znn {xs:List AV} {vs:List Value} {path:List Nat} {y:AV} {g:Ghost} (hvl:vs.length=xs.length) (hvr:∀ (i:Nat) (x:AV) (v:Value),xs[i]?=some x→vs[i]?=some v→Rep g x v) (hg:(AV.agg xs).get path=some y):
  ∃ u,Rep g y u∧(AV.agg xs).offs path+u.cells.size≤(yG vs).length∧∀ (j:Nat) (x:Value),u.cells.toList[j]?=some x→(yG vs)[(AV.agg xs).offs path+j]?=some x:=by
 obtain ⟨u,h1,h2,h3⟩:=(Rep.agg xs vs hvl hvr).get hg
 exact ⟨u,h1,by simpa [Value.cells] using h2,by simpa [Value.cells] using h3⟩
theorem zlH {t:TypeId} {x:Operand} {i ver off:Nat} {path:List Nat} {e:TypeId} {size:Nat} {xs:List AV} {y:AV} (ho:o.op=.load t x) (hx:zl s x=.mp i ver path off) (hy:(AV.agg xs).get path=some y) (hoff:(AV.agg xs).offs path=off) (ht:zqt P t y.isAgg y.sz=true):
  OpHolds P o s id [(i,.mrow ver e size xs)] y []:=by
 refine w9 (fun p hp=>by simp at hp;subst hp;simp) fun W0 g σ N w a hS hr hp=>?_
 have h1:=hr x (by simp [ho,Op.operands])
 rw [hx] at h1
 have hp':σ i=.mrow ver e size xs:=hp (i,.mrow ver e size xs) (by simp)
 obtain ⟨u,vs,hmr,hlen,hvl,hvr,hvs,hown⟩:=hS.mrowAt hp'
 obtain ⟨q,hq,hqb,hqc⟩:=znn hvl hvr hy
 generalize hv:a.eval x=v at h1
 cases h1 with
 | mp _ _ _ _ ver' u' ad hm' hv' h=>
  rw [hmr] at hm';cases hm'
  obtain ⟨b,n',c,rfl,rfl⟩:=h rfl
  refine ⟨q,?_,hq⟩
  have:=ze3 (P:=P) hq ht (b:=b) (off:=off) (w:=w) fun j z hz=>by
   rw [← hoff]
   exact hown.cells (g:=b) rfl _ _ (hqc j z hz)
  simp [execOp,ho,hv,this]
theorem ztj {xs:List AV} {vs:List Value} {g:Ghost} (hvl:vs.length=xs.length) (hvr:∀ (i:Nat) (x:AV) (v:Value),xs[i]?=some x→vs[i]?=some v→Rep g x v) {j:Nat} {p:List Nat} {y z:AV} {u:Value} (hg:(AV.agg xs).get (j::p)=some y) (hz:Rep g z u) (hs:y.sz=z.sz):
  ∃ xs' vs',(AV.agg xs).put (j::p) z=.agg xs'∧vs'.length=xs'.length∧xs'.length=xs.length∧(∀ (i:Nat) (x:AV) (v:Value),xs'[i]?=some x→vs'[i]?=some v→Rep g x v) ∧
   yG vs'=(yG vs).take ((AV.agg xs).offs (j::p))++u.cells.toList++(yG vs).drop ((AV.agg xs).offs (j::p)+u.cells.size)∧(∀ size,(∀ v∈vs,v.cells.size=size)→∀ v∈vs',v.cells.size=size):=by
 simp only [AV.get] at hg
 cases hi:xs[j]? with
 | none=>rw [hi] at hg;cases hg
 | some q=>
  rw [hi] at hg
  have hlt:j < vs.length:=by rw [hvl];exact (List.getElem?_eq_some_iff.1 hi).1
  have hvj:vs[j]?=some vs[j]:=List.getElem?_eq_getElem hlt
  obtain ⟨v',hv',hc'⟩:=(hvr j q _ hi hvj).put hg hz hs
  obtain ⟨wv,hw,hwb,_⟩:=(hvr j q _ hi hvj).get hg
  have hwu:wv.cells.size=u.cells.size:=by rw [hw.size,hz.size,hs]
  obtain ⟨hf,hfl⟩:=za4 xs vs hvl (fun j x w h1 h2=>(hvr j x w h1 h2).size) j _ hvj
  have hsz:v'.cells.size=(vs[j]).cells.size:=by
   rw [← Array.length_toList,hc']
   simp only [List.length_append,List.length_take,List.length_drop,Array.length_toList]
   omega
  refine ⟨xs.set j (q.put p z),vs.set j v',by simp only [AV.put,hi],by simp [hvl],by simp,fun i x w h1 h2=>?_,?_,fun size hsize v hv=>?_⟩
  ·by_cases hij:i=j
   ·subst hij
    rw [List.getElem?_set_self oo] at h1
    rw [List.getElem?_set_self hlt] at h2
    cases h1;cases h2;exact hv'
   ·rw [List.getElem?_set_ne (Ne.symm hij)] at h1 h2
    exact hvr i x w h1 h2
  ·have e1:yG (vs.set j v')=yG (vs.take j)++v'.cells.toList++yG (vs.drop (j+1)):=by
    have hlt':j < (vs.set j v').length:=by simpa using hlt
    have:=(List.take_append_drop j (vs.set j v'))
    rw [← this,qY,List.drop_eq_getElem_cons hlt',xX]
    have tk:(vs.set j v').take j=vs.take j:=by
     apply List.ext_getElem?
     intro i
     rw [List.getElem?_take,List.getElem?_take]
     split
     ·rw [List.getElem?_set_ne oo]
     ·rfl
    simp [tk,List.drop_set_of_lt,List.append_assoc]
   rw [e1,hc',hf]
   simp only [AV.offs,hi]
   have l1:(yG (vs.take j)).length=AV.szl (xs.take j):=hfl
   have l2:q.offs p+u.cells.size≤(vs[j]).cells.toList.length:=by rw [Array.length_toList];omega
   rw [List.append_assoc (yG (vs.take j)) (vs[j]).cells.toList (yG (vs.drop (j+1))),← l1,List.take_length_add_append,Nat.add_assoc,List.drop_length_add_append,List.take_append_of_le_length oo,List.drop_append_of_le_length oo]
   simp [List.append_assoc]
  ·rcases List.mem_or_eq_of_mem_set hv with h | h
   ·exact hsize v h
   ·rw [h,hsz];exact hsize _ (List.getElem_mem hlt)
theorem zdJ {W0 w:World} {e:TypeId} {size b n c off:Nat} {cells news:List Value} (h:ownsR w W0.heap.size e size (.slice (some ⟨b,0,none⟩) n c) n cells) (hfit:off+news.length≤cells.length) (h1:∀ v∈news,v.oneCell'=true):
  ∃ w',(storeCells ⟨b,off,none⟩ news 0).run P w=.ok () w'∧ownsR w' W0.heap.size e size (.slice (some ⟨b,0,none⟩) n c) n (cells.take off++news++cells.drop (off+news.length)) ∧
   w'.os=w.os∧w'.tape=w.tape∧w'.output=w.output∧w.heap.size≤w'.heap.size∧∀ j,j≠b→w'.heap[j]?=w.heap[j]?:=by
 rcases h.2 with ⟨h0,_⟩ | ⟨g0,cap,cur,fz,hv,hb,hheap,hfz,hnc,hcm,hcs,htake⟩
 ·simp at h0
 ·simp at hv
  obtain ⟨rfl,rfl⟩:=hv
  have hcl:cells.length≤cur.size:=by rw [h.1,hcs];exact Nat.mul_le_mul_right _ hnc
  have hst:=wM (P:=P) b off e fz news 0 cur w hheap hfz (by simp;omega) h1
  simp only [Nat.add_zero] at hst
  have hcz:(cur.toList.take off++news++cur.toList.drop (off+news.length)).toArray.size=cur.size:=by
   simp only [List.size_toArray,List.length_append,List.length_take,List.length_drop,Array.length_toList]
   omega
  have hlen:(cells.take off++news++cells.drop (off+news.length)).length=n * size:=by
   simp only [List.length_append,List.length_take,List.length_drop,← h.1]
   omega
  refine ⟨_,hst,⟨hlen,.inr ⟨b,c,_,fz,rfl,hb,setRow_heap w b _ _ _ _ hheap,by rw [hcz];exact hfz,hnc,hcm,by rw [hcz];exact hcs,?_⟩⟩,rfl,rfl,rfl,by simp [World.setRow],fun j hj=>setRow_other w b j _ hj⟩
  have e0:cells=cur.toList.take (n * size):=htake.symm
  show (cur.toList.take off++news++cur.toList.drop (off+news.length)).take (n * size)=_
  have l0:cells.length=n * size:=h.1
  have lo:off≤n * size:=by omega
  rw [e0,List.take_take,Nat.min_eq_left lo,List.drop_take,List.take_append,List.take_append,List.take_take]
  have a1:(cur.toList.take off).length=off:=by rw [List.length_take,Array.length_toList];omega
  rw [Nat.min_eq_right lo,a1,List.take_of_length_le (l:=news) oo,List.length_append,a1]
theorem zkw {t:TypeId} {x y:Operand} {i ver off j:Nat} {p:List Nat} {e:TypeId} {size:Nat} {xs xs':List AV} {old z:AV} (ho:o.op=.store t x y) (hx:zl s x=.mp i ver (j::p) off) (hz:zl s y=z) (hy:(AV.agg xs).get (j::p)=some old) (hoff:(AV.agg xs).offs (j::p)=off)
  (hsz:old.sz=z.sz) (ht:xL P t z.sz=true) (hc:z.cell=true) (hput:(AV.agg xs).put (j::p) z=.agg xs'):OpHolds P o s id [(i,.mrow ver e size xs)] (.tup []) [(i,.mrow ver e size xs')]:=by
 refine ⟨fun p hp=>by simp at hp;subst hp;simp,fun q hq=>.inr ⟨(i,.mrow ver e size xs),by simp,by simp at hq;subst hq;rfl⟩,fun W0 g σ n w a hS hr _ _ hp=>?_⟩
 have h1:=hr x (by simp [ho,Op.operands])
 have h2:=hr y (by simp [ho,Op.operands])
 rw [hx] at h1
 rw [hz] at h2
 generalize hv:a.eval x=v at h1
 generalize hu:a.eval y=zv at h2
 have hp':σ i=.mrow ver e size xs:=hp (i,.mrow ver e size xs) (by simp)
 obtain ⟨u,vs,hmr,hlen,hvl,hvr,hvs,hown⟩:=hS.mrowAt hp'
 obtain ⟨q,hq,hqb,_⟩:=znn hvl hvr hy
 have hqz:q.cells.size=zv.cells.size:=by rw [hq.size,h2.size,hsz]
 obtain ⟨xs2,vs',k1,k2,k3,k4,k5,k6⟩:=ztj hvl hvr hy h2 hsz
 rw [hput] at k1
 cases k1
 cases h1 with
 | mp _ _ _ _ ver' u' ad hm' hv' h=>
  rw [hmr] at hm';cases hm'
  obtain ⟨b,n',c,rfl,rfl⟩:=h rfl
  simp only [zdX] at hlen
  subst hlen
  obtain ⟨w',hst,l1,l2,l3,l4,l5,l6⟩:=zdJ (P:=P) (off:=off) (news:=zv.cells.toList) hown (by rw [← hoff,Array.length_toList,← hqz];exact hqb) (h2.cell_ok hc)
  obtain ⟨ti,hti,htis⟩:=yo ht
  have hexec:(execOp a.eval o).run P w=.ok .skip w':=by
   simp [execOp,ho,hv,hu,Instr.storeAt,Instr.sureAddr,storeVar,sizeOf,typeInfo,hti,htis,h2.size,hst]
  unfold runsTo
  rw [hexec]
  rw [hoff] at k5
  have e1:zv.cells.toList.length=zv.cells.size:=Array.length_toList
  rw [e1,← k5] at l1
  obtain ⟨g',hle,hS',_,_⟩:=hS.turnM (ver':=ver) (xs':=xs') (vs':=vs') hp' hmr (.inl ⟨rfl,rfl⟩) (by rw [k3];exact l1) (by simp [zdX,k3]) k2 k4 (k6 size hvs) l2 l3 l4 l5 (.inl rfl) (fun j hj _=>l6 j (fun e=>hj (by rw [e];rfl)))
  exact ⟨g',hle,hS',.tup [] [] rfl fun i x v h _=>by simp at h⟩
theorem zmU {t e:TypeId} {x:Operand} {r ver size lo len:Nat} (ho:o.op=.call { callee:=.builtin .len,args:=#[x],argTypes:=#[t] }) (ht:zT P t=some e) (hx:zl s x=.ms r ver size lo len):OpHolds P o s id [] (.lit (.int .i64 len)) []:=
 yj fun g w a hr=>by
  have h1:=hr x (by simp [ho,Op.operands,Call.operands])
  rw [hx] at h1
  obtain ⟨cs,he⟩:=yK (P:=P) (a:=a) ho w
  generalize hv:a.eval x=v at h1
  cases h1
  refine ⟨_,?_,.lit _ rfl⟩
  rw [he]
  simp [builtin,Builtin.len_,hv,run_underlying (zD ht),goInt]
theorem zkv {t e:TypeId} {x:Operand} {lo hi:Option Operand} {r ver size l0 len l h:Nat} {xs:List AV} (ho:o.op=.slice t x lo hi none) (ht:zT P t=some e) (hs:xL P e size=true) (hx:zl s x=.ms r ver size l0 len)
  (hl:bnd s 0 lo=some l) (hh:bnd s len hi=some h) (h1:l≤h) (h2:h≤len):OpHolds P o s id [(r,.mrow ver e size xs)] (.ms r ver size (l0+l) (h - l)) []:=by
 refine w9 (fun p hp=>by simp at hp;subst hp;simp) fun W0 g σ N w a hS hr hp=>?_
 have h3:=hr x (by simp [ho,Op.operands])
 have hlo:∀ x,lo=some x→Rep g (zl s x) (a.eval x):=fun x hx=>hr x (by simp [ho,Op.operands,hx])
 have hhi:∀ x,hi=some x→Rep g (zl s x) (a.eval x):=fun x hx=>hr x (by simp [ho,Op.operands,hx])
 rw [hx] at h3
 have hp':σ r=.mrow ver e size xs:=hp (r,.mrow ver e size xs) (by simp)
 obtain ⟨u,vs,hmr,hlen,hvl,hvr,hvs,hown⟩:=hS.mrowAt hp'
 obtain ⟨ie,hie,hsi⟩:=yo hs
 generalize hv:a.eval x=v at h3
 cases h3 with
 | ms _ _ _ _ _ ver' u' A c hm' hv' hlc hc hM=>
  rw [hmr] at hm';cases hm'
  obtain ⟨A0,n0,c0,rfl,j1,j2,j3⟩:=hM rfl
  have hb:=ju (P:=P) hl hh hlo hhi h1 (by omega:h≤c) true w
  refine ⟨.slice (if c=l then A else A.map (·.add (l * size))) (h - l) (c - l),?_,.ms r ver size (l0+l) (h - l) ver _ _ (c - l) hmr (Nat.le_refl _) oo oo fun _=>⟨A0,n0,c0,rfl,?_,fun hz=>?_,fun hz=>?_⟩⟩
  ·simp only [execOp,ho,Sem.run_bind,Instr.sliceAt,run_underlying (zD ht),Result.andThen_ok,hv,Instr.slice,Option.map_none,hb,sizeOf,typeInfo,run_program,hie,Sem.run_pure,hsi]
  ·have:l0+len≤c0:=j1
   omega
  ·have hl0:l0=0:=by omega
   have hl':l=0:=by omega
   subst hl0 hl'
   obtain ⟨rfl,rfl⟩:=j2 rfl
   refine ⟨?_,by omega⟩
   split
   ·rfl
   ·cases A <;> simp [Addr.add]
  ·obtain ⟨b,rfl,rfl⟩:=j3 oo
   refine ⟨b,rfl,?_⟩
   rw [if_neg oo]
   simp [Addr.add_lit,Nat.add_mul]
end
section
variable {P:Program} {o:Oper} {s:Slots} {id:Nat}
theorem zoG {a:Act} {g:Ghost} {len cap l h:Nat} {lo hi mx:Option Operand} (hl:bnd s 0 lo=some l) (hh:bnd s len hi=some h) (hm:bnd s cap mx=some h) (hx:mx.isSome=true) (hy:hi.isSome=true) (hr:∀ x,lo=some x→Rep g (zl s x) (a.eval x)) (hr':∀ x,hi=some x→Rep g (zl s x) (a.eval x)) (hr'':∀ x,mx=some x→Rep g (zl s x) (a.eval x))
  (h1:l≤h) (h2:h≤cap) (isSlice:Bool) (w:World):(Instr.sliceBounds isSlice len cap (lo.map a.eval) (hi.map a.eval) (mx.map a.eval)).run P w=.ok (l,h,h) w:=by
 rcases zeI hm hr'' with ⟨rfl,rfl⟩ | ⟨x2,k2,n2,rfl,he2,h02,rfl⟩
 ·simp at hx
 ·rcases zeI hh hr' with ⟨rfl,rfl⟩ | ⟨x,k,n,rfl,he,h0,hn⟩
  ·simp at hy
  ·rcases zeI hl hr with ⟨rfl,rfl⟩ | ⟨x',k',n',rfl,he',h0',rfl⟩
   ·simp [Instr.sliceBounds,he,he2,run_sliceBound w k2 n2 cap _ h02 oo,hn,run_sliceBound w k n n2.toNat _ h0 oo]
   ·simp [Instr.sliceBounds,he,he',he2,run_sliceBound w k2 n2 cap _ h02 oo,hn,run_sliceBound w k n n2.toNat _ h0 oo,run_sliceBound w k' n' n2.toNat _ h0' oo]
theorem zbx {t e:TypeId} {x m:Operand} {lo hi:Option Operand} {own:Option Nat} {xs:List AV} {l h size:Nat} (ho:o.op=.slice t x lo hi (some m)) (ht:zT P t=some e) (hs:xL P e size=true) (hx:AV.le (zl s x) (.slice own xs))
  (hl:bnd s 0 lo=some l) (hh:bnd s 0 hi=some h) (hm:bnd s 0 (some m)=some h) (hy:hi.isSome=true) (h1:l≤h) (h2:h≤xs.length) (hsz:xs.all (fun y=>y.sz == size)=true):OpHolds P o s id [] (.clip ((xs.take h).drop l)) []:=
 yj fun g w a hr=>by
  have h3:=hx _ _ (hr x (by simp [ho,Op.operands]))
  have hlo:∀ x,lo=some x→Rep g (zl s x) (a.eval x):=fun x hx=>hr x (by simp [ho,Op.operands,hx])
  have hhi:∀ x,hi=some x→Rep g (zl s x) (a.eval x):=fun x hx=>hr x (by simp [ho,Op.operands,hx])
  have hmx:∀ x,some m=some x→Rep g (zl s x) (a.eval x):=fun x hx=>hr x (by simp [ho,Op.operands];simp at hx;simp [hx])
  generalize hv:a.eval x=v at h3
  obtain ⟨ie,hie,hsi⟩:=yo hs
  cases h3 with
  | slice _ _ vs A c size' hvl hc hmm hvr hvs hcell hown=>
   have hvs':=jS hvl hvr hsz
   have hhi':hi=some (hi.get hy):=by simp
   have e0:bnd s xs.length hi=some h:=by rw [hhi'] at hh ⊢;exact hh
   have e1:bnd s c (some m)=some h:=hm
   have hb:=zoG (P:=P) hl e0 e1 rfl hy hlo hhi hmx h1 (by omega:h≤c) true w
   simp only [Option.map_some] at hb
   have hcell2:h=0∨∃ b o,A=some ⟨b,o,none⟩∧∀ (j:Nat) (u:Value),(yG (vs.take h))[j]?=some u→g.G b (o+j)=some u:=by
    rcases hcell with h0 | ⟨b,o,hA,hG⟩
    ·exact .inl oo
    ·refine .inr ⟨b,o,hA,fun j u hu=>hG j u ?_⟩
     rw [yI vs size hvs',List.getElem?_take] at hu
     split at hu
     ·exact hu
     ·cases hu
   have hlen:(xs.take h).length=h:=by rw [List.length_take];omega
   have:=Rep.sub (g:=g) (xs:=xs.take h) (vs:=vs.take h) (A:=A) (c:=h) (size:=size) (l:=l) (h:=h) (by simp [hvl]) oo oo (fun i x v hx hv=>by
     rw [List.getElem?_take] at hx hv
     split at hx
     ·rename_i hlt;rw [if_pos hlt] at hv;exact hvr _ x v hx hv
     ·cases hx) (fun v hv=>hvs' v (List.mem_of_mem_take hv)) (by rw [hlen];exact hcell2) h1 oo
   rw [List.take_take,Nat.min_self] at this
   refine ⟨_,?_,.clip _ _ _ this⟩
   simp only [execOp,ho,Sem.run_bind,Instr.sliceAt,run_underlying (zD ht),Result.andThen_ok,hv,Instr.slice,Option.map_some,hb,sizeOf,typeInfo,run_program,hie,Sem.run_pure,hsi]
def zbE (P:Program) (t:TypeId):Option (Nat × TypeId × Nat):=
 match P.underlying t with
 | some (.pointer a)=>match P.underlying a with
  | some (.array n e)=>match P.info? e with
   | some i=>some (n,e,i.size)
   | none=>none
  | _=>none
 | some (.array n e)=>match P.info? e with
  | some i=>some (n,e,i.size)
  | none=>none
 | _=>none
theorem zm7 {t e:TypeId} {n size:Nat} (h:zbE P t=some (n,e,size)):((∃ a,P.underlying t=some (.pointer a)∧P.underlying a=some (.array n e))∨P.underlying t=some (.array n e))∧xL P e size=true:=by
 unfold zbE at h
 split at h
 ·rename_i a ha
  split at h
  ·rename_i n' e' hb
   split at h
   ·rename_i i hi;cases h;exact ⟨.inl ⟨a,ha,hb⟩,by simp [xL,hi]⟩
   ·cases h
  ·cases h
 ·rename_i n' e' hb
  split at h
  ·rename_i i hi;cases h;exact ⟨.inr hb,by simp [xL,hi]⟩
  ·cases h
 ·cases h
theorem zbR {t e:TypeId} {n size b off l h:Nat} (ht:zbE P t=some (n,e,size)) {lo hi:Option Value} {w:World} (hb:(Instr.sliceBounds false n n lo hi none).run P w=.ok (l,h,n) w):
  (Instr.sliceAt t (.pointer (some ⟨b,off,none⟩)) lo hi none).run P w=.ok (.slice (some (if n=l then ⟨b,off,none⟩ else ⟨b,off+l * size,none⟩)) (h - l) (n - l)) w:=by
 obtain ⟨h1,h3⟩:=zm7 ht
 obtain ⟨ie,hie,hsi⟩:=yo h3
 rcases h1 with ⟨a,h1,h2⟩ | h1
 ·simp [Instr.sliceAt,Instr.slice,run_underlying h1,run_underlying h2,asAddr,hb,sizeOf,typeInfo,hie,hsi,Addr.add_lit]
 ·simp [Instr.sliceAt,run_underlying h1,Instr.sureAddr,hb,sizeOf,typeInfo,hie,hsi,Addr.add_lit]
theorem zjv {t e:TypeId} {x:Operand} {lo hi:Option Operand} {i off n size l h:Nat} {path:List Nat} (ho:o.op=.slice t x lo hi none) (ht:zbE P t=some (n,e,size)) (hx:zl s x=.ptr i path off)
  (hl:bnd s 0 lo=some l) (hh:bnd s n hi=some h) (h1:l≤h) (h2:h≤n) (h3:l=0∨l < n) (h4:n≤maxLen):OpHolds P o s id [] (.bs i path l (off+l * size) (h - l)) []:=
 yj fun g w a hr=>by
  have hx':=hr x (by simp [ho,Op.operands])
  have hlo:∀ x,lo=some x→Rep g (zl s x) (a.eval x):=fun x hx=>hr x (by simp [ho,Op.operands,hx])
  have hhi:∀ x,hi=some x→Rep g (zl s x) (a.eval x):=fun x hx=>hr x (by simp [ho,Op.operands,hx])
  rw [hx] at hx'
  generalize hv:a.eval x=v at hx'
  cases hx' with
  | ptr _ _ _ b hb=>
   have hbd:=ju (P:=P) hl hh hlo hhi h1 h2 false w
   have hrun:=zbR (P:=P) (b:=b) (off:=off) ht hbd
   refine ⟨.slice (some ⟨b,off+l * size,none⟩) (h - l) (n - l),?_,.bs i path l _ _ b (n - l) hb oo oo⟩
   have e1:(if n=l then (⟨b,off,none⟩:Addr) else ⟨b,off+l * size,none⟩)=⟨b,off+l * size,none⟩:=by
    rcases h3 with rfl | h3
    ·split <;> simp
    ·rw [if_neg oo]
   rw [e1] at hrun
   simp only [execOp,ho,Sem.run_bind,hv,Option.map_none,hrun,Result.andThen_ok,Sem.run_pure]
theorem zlf {g:Ghost} {ys:List AV} {vs:List Value} {b off size l h c:Nat} (hvl:vs.length=ys.length) (hvr:∀ (i:Nat) (x:AV) (v:Value),ys[i]?=some x→vs[i]?=some v→Rep g x v) (hvs:∀ v∈vs,v.cells.size=size)
  (hG:∀ (j:Nat) (u:Value),(yG vs)[j]?=some u→g.G b (off+j)=some u) (h1:l≤h) (h2:h≤ys.length) (hc:h - l≤c) (hm:c≤maxLen) (A:Addr) (hA:h - l=0∨A=⟨b,off+l * size,none⟩):
  Rep g (.slice none ((ys.take h).drop l)) (.slice (some A) (h - l) c):=by
 have e:((ys.take h).drop l).length=h - l:=by simp;omega
 have:=Rep.slice (g:=g) none ((ys.take h).drop l) ((vs.take h).drop l) (some A) c size (by simp [hvl]) (by rw [e];exact hc) hm (fun i x v hx hv=>by
   rw [List.getElem?_drop,List.getElem?_take] at hx hv
   split at hx
   ·rename_i hlt;rw [if_pos hlt] at hv;exact hvr _ x v hx hv
   ·cases hx) (fun v hv=>hvs v (List.mem_of_mem_take (List.mem_of_mem_drop hv))) (by
   rw [e]
   rcases hA with hA | rfl
   ·exact .inl hA
   ·refine .inr ⟨b,_,rfl,fun j u hu=>?_⟩
    rw [zgv _ size (fun v hv=>hvs v (List.mem_of_mem_take hv)),yI _ size hvs,List.getElem?_drop,List.getElem?_take] at hu
    split at hu
    ·rw [Nat.add_assoc];exact hG _ _ hu
    ·cases hu) (fun id hid=>by cases hid)
 rw [e] at this
 exact this
theorem zik {t e:TypeId} {x:Operand} {lo hi:Option Operand} {i off n size l h:Nat} {path:List Nat} {bt:TypeId} {c:AV} {ys:List AV} (frozen:Bool) (ho:o.op=.slice t x lo hi none) (ht:zbE P t=some (n,e,size)) (hx:zl s x=.ptr i path off)
  (hy:c.get path=some (.agg ys)) (hoff:c.offs path=off) (hn:ys.length=n) (hsz:ys.all (fun y=>y.sz == size)=true) (hl:bnd s 0 lo=some l) (hh:bnd s n hi=some h) (h1:l≤h) (h2:h≤n) (h4:n≤maxLen):
  OpHolds P o s id [(i,if frozen then .fbox bt c else .box bt c)] (.slice none ((ys.take h).drop l)) (if frozen then [] else [(i,.fbox bt c)]):=by
 refine ⟨fun p hp=>by simp at hp;subst hp;cases frozen <;> simp,fun q hq=>.inr ⟨_,List.mem_cons_self ..,by cases frozen <;> simp at hq;subst hq;rfl⟩,fun W0 g σ N w a hS hr _ _ hp=>?_⟩
 have hx':=hr x (by simp [ho,Op.operands])
 have hlo:∀ x,lo=some x→Rep g (zl s x) (a.eval x):=fun x hx=>hr x (by simp [ho,Op.operands,hx])
 have hhi:∀ x,hi=some x→Rep g (zl s x) (a.eval x):=fun x hx=>hr x (by simp [ho,Op.operands,hx])
 rw [hx] at hx'
 generalize hv:a.eval x=v at hx'
 cases hx' with
 | ptr _ _ _ b hb=>
  have hbd:=ju (P:=P) hl hh hlo hhi h1 oo false w
  have hrun:=zbR (P:=P) (b:=b) (off:=off) ht hbd
  have hexec:(execOp a.eval o).run P w=.ok (.value (.slice (some (if n=l then ⟨b,off,none⟩ else ⟨b,off+l * size,none⟩)) (h - l) (n - l))) w:=by
   simp only [execOp,ho,Sem.run_bind,hv,Option.map_none,hrun,Result.andThen_ok,Sem.run_pure]
  unfold runsTo
  rw [hexec]
  have fin:∀ (g':Ghost) (v:Value),Rep g' c v→(∀ (o:Nat),g'.G b o=v.cells[o]?)→Rep g' (.slice none ((ys.take h).drop l)) (.slice (some (if n=l then ⟨b,off,none⟩ else ⟨b,off+l * size,none⟩)) (h - l) (n - l)):=by
   intro g' v hrep hG
   obtain ⟨u,hu,hub,huc⟩:=hrep.get hy
   cases hu with
   | agg _ vs hvl hvr=>
    refine zlf (b:=b) (off:=off) hvl hvr (jS hvl hvr hsz) (fun j q hq=>?_) h1 oo oo oo _ ?_
    ·rw [hG,← Array.getElem?_toList,← hoff]
     exact huc j q (by simpa [Value.cells] using hq)
    ·by_cases hnl:n=l
     ·exact .inl oo
     ·exact .inr (by rw [if_neg hnl])
  cases frozen with
  | true=>
   obtain ⟨b',v',hb',_,hrep,_,hG⟩:=hS.fbox i bt c (hp (i,.fbox bt c) (by simp))
   rw [hb] at hb';cases hb'
   exact ⟨g,g.le_refl,hS,fin g v' hrep hG⟩
  | false=>
   obtain ⟨g',hle,hS',v',hrep,hG⟩:=hS.freeze (hp (i,.box bt c) (by simp)) hb
   exact ⟨g',hle,hS',fin g' v' hrep hG⟩
theorem zim {t e:TypeId} {x:Operand} {lo hi:Option Operand} {n size l h:Nat} {ys:List AV} (ho:o.op=.slice t x lo hi none) (ht:zbE P t=some (n,e,size)) (hx:zl s x=.view (.agg ys))
  (hn:ys.length=n) (hsz:ys.all (fun y=>y.sz == size)=true) (hl:bnd s 0 lo=some l) (hh:bnd s n hi=some h) (h1:l≤h) (h2:h≤n) (h4:n≤maxLen):
  OpHolds P o s id [] (.slice none ((ys.take h).drop l)) []:=
 yj fun g w a hr=>by
  have hx':=hr x (by simp [ho,Op.operands])
  have hlo:∀ x,lo=some x→Rep g (zl s x) (a.eval x):=fun x hx=>hr x (by simp [ho,Op.operands,hx])
  have hhi:∀ x,hi=some x→Rep g (zl s x) (a.eval x):=fun x hx=>hr x (by simp [ho,Op.operands,hx])
  rw [hx] at hx'
  generalize hv:a.eval x=v at hx'
  cases hx' with
  | view _ u b off hu hG=>
   have hbd:=ju (P:=P) hl hh hlo hhi h1 h2 false w
   have hrun:=zbR (P:=P) (b:=b) (off:=off) ht hbd
   refine ⟨.slice (some (if n=l then ⟨b,off,none⟩ else ⟨b,off+l * size,none⟩)) (h - l) (n - l),by simp only [execOp,ho,Sem.run_bind,hv,Option.map_none,hrun,Result.andThen_ok,Sem.run_pure],?_⟩
   cases hu with
   | agg _ vs hvl hvr=>
    refine zlf (b:=b) (off:=off) hvl hvr (jS hvl hvr hsz) (fun j q hq=>hG j q (by simpa [Value.cells] using hq)) h1 oo oo oo _ ?_
    by_cases hnl:n=l
    ·exact .inl oo
    ·exact .inr (by rw [if_neg hnl])
theorem zgH {t e:TypeId} {size r lo off len:Nat} {path:List Nat} {x i:Operand} {k:IntKind} {n:Int} (ho:o.op=.indexAddr t x i) (ht:zT P t=some e) (hs:xL P e size=true) (hx:zl s x=.bs r path lo off len) (hi:zl s i=.lit (.int k n)) (h0:0≤n) (hn:n.toNat < len):
  OpHolds P o s id [] (.ptr r (path++[lo+n.toNat]) (off+n.toNat * size)) []:=
 yj fun g w a hr=>by
  have h1:=hr x (by simp [ho,Op.operands])
  have h2:=hr i (by simp [ho,Op.operands])
  rw [hx] at h1
  rw [hi] at h2
  have e2:=zN h2
  obtain ⟨ie,hie,hsi⟩:=yo hs
  generalize hv:a.eval x=v at h1
  cases h1 with
  | bs _ _ _ _ _ b c hb hl hc=>
   obtain ⟨m,rfl⟩:=Int.eq_ofNat_of_zero_le h0
   simp only [Int.toNat_natCast] at hn ⊢
   refine ⟨.pointer (some ⟨b,off+m * size,none⟩),?_,.ptr _ _ _ b hb⟩
   simp [execOp,ho,hv,e2,Instr.indexAt,asIntOf,run_underlying (zD ht),sizeOf,typeInfo,hie,hsi,Addr.add_lit]
   omega
theorem zmT {t e:TypeId} {x:Operand} {r lo off len:Nat} {path:List Nat} (ho:o.op=.call { callee:=.builtin .len,args:=#[x],argTypes:=#[t] }) (ht:zT P t=some e) (hx:zl s x=.bs r path lo off len):OpHolds P o s id [] (.lit (.int .i64 len)) []:=
 yj fun g w a hr=>by
  have h1:=hr x (by simp [ho,Op.operands,Call.operands])
  rw [hx] at h1
  obtain ⟨cs,he⟩:=yK (P:=P) (a:=a) ho w
  generalize hv:a.eval x=v at h1
  cases h1
  refine ⟨_,?_,.lit _ rfl⟩
  rw [he]
  simp [builtin,Builtin.len_,hv,run_underlying (zD ht),goInt]
end
section
variable {P:Program} {o:Oper} {s:Slots} {id:Nat}
def zfB:AV→Option (List AV)
 | .lit (.string b)=>some (b.data.toList.map za)
 | x=>x.elems
theorem zhW (g:Ghost) (l:List UInt8):∀ (i:Nat) (x:AV) (v:Value),(l.map za)[i]?=some x→(l.map fun b=>Value.int .u8 (b.toNat:Int))[i]?=some v→Rep g x v:=by
 intro i x v hx hv
 rw [List.getElem?_map] at hx hv
 cases hl:l[i]? with
 | none=>rw [hl] at hx;cases hx
 | some b=>rw [hl] at hx hv;cases hx;cases hv;exact .lit _ rfl
theorem zhX {W0:World} {g:Ghost} {σ:Nat→Ent} {n:Nat} {w:World} (hS:Sim W0 g σ n w) {size:Nat} {Y:AV} {y:Value} {ys:List AV} (hY:zfB Y=some ys) (hry:Rep g Y y) (hsy:ys.all (fun x=>x.sz == size)=true):
  (Builtin.lenOf y).run P w=.ok ys.length w∧∃ us:List Value,us.length=ys.length∧(∀ (i:Nat) (x:AV) (v:Value),ys[i]?=some x→us[i]?=some v→Rep g x v)∧(∀ v∈us,v.cells.size=size) ∧
   ∀ m,m≤ys.length→(Builtin.firstCells size m y).run P w=.ok (yG (us.take m)).toArray w:=by
 by_cases hstr:∃ b,Y=.lit (.string b)
 ·obtain ⟨b,rfl⟩:=hstr
  simp only [zfB,Option.some.injEq] at hY
  subst hY
  have e:=zN hry
  subst e
  have hus:∀ v∈(b.data.toList.map fun b=>Value.int .u8 (b.toNat:Int)),v.cells.size=1:=fun v hv=>by obtain ⟨b,_,rfl⟩:=List.mem_map.1 hv;rfl
  refine ⟨by simp [Builtin.lenOf],b.data.toList.map fun b=>Value.int .u8 (b.toNat:Int),by simp,zhW g _,fun v hv=>?_,fun m hm=>?_⟩
  ·obtain ⟨i,hi⟩:=List.getElem?_of_mem hv
   have hl:i < b.data.toList.length:=by simpa using (List.getElem?_eq_some_iff.1 hi).1
   have:=List.all_eq_true.1 hsy (za (b.data.toList[i])) (List.mem_map.2 ⟨_,List.getElem_mem hl,rfl⟩)
   rw [hus v hv]
   simpa [zmx] using this
  ·rw [zda _ fun v hv=>by obtain ⟨b,_,rfl⟩:=List.mem_map.1 (List.mem_of_mem_take hv);rfl]
   have hm':m≤b.size:=by simpa using hm
   have:(b.extract 0 m).data.toList=b.data.toList.take m:=by
    simp [ByteArray.extract,ByteArray.copySlice]
   simp only [Builtin.firstCells,Sem.run_pure]
   congr 1
   apply Array.ext'
   simp
 ·have hY':Y.elems=some ys:=by
   unfold zfB at hY
   split at hY
   ·rename_i b;exact absurd ⟨b,rfl⟩ hstr
   ·exact hY
  obtain ⟨A,m0,c,us,rfl,rfl,hul,hur,hus,huc⟩:=zhm hY' hry hsy
  refine ⟨by simp [Builtin.lenOf],us,hul,hur,hus,fun m hm=>?_⟩
  have hfl:(yG (us.take m)).length=m * size:=by rw [yL _ size (fun v hv=>hus v (List.mem_of_mem_take hv)),List.length_take];congr 1;omega
  rcases huc with h0 | ⟨b,off,rfl,huc⟩
  ·have hm0:m=0:=by omega
   subst hm0
   cases A with
   | none=>simp [Builtin.firstCells,yG]
   | some ad=>simp [Builtin.firstCells,yG,loadCells,loadCellsFrom]
  ·have:=run_firstCells_some (P:=P) w size m ⟨b,off,none⟩ ys.length c (yG (us.take m)) hfl fun j v hv=>by
    rw [Addr.add_lit]
    refine hS.imm _ _ _ (huc j v ?_)
    rw [yI us size hus,List.getElem?_take] at hv
    split at hv
    ·exact hv
    ·cases hv
   exact this
theorem zl3 {g:Ghost} {xs ys:List AV} {vs us:List Value} {size lo m:Nat} (hvl:vs.length=xs.length) (hul:us.length=ys.length) (hvr:∀ (i:Nat) (x:AV) (v:Value),xs[i]?=some x→vs[i]?=some v→Rep g x v)
  (hur:∀ (i:Nat) (x:AV) (v:Value),ys[i]?=some x→us[i]?=some v→Rep g x v) (hvs:∀ v∈vs,v.cells.size=size) (hus:∀ v∈us,v.cells.size=size) (h1:lo+m≤xs.length) (h2:m≤ys.length):
  (vs.take lo++us.take m++vs.drop (lo+m)).length=(xs.take lo++ys.take m++xs.drop (lo+m)).length∧(xs.take lo++ys.take m++xs.drop (lo+m)).length=xs.length ∧
  (∀ (i:Nat) (x:AV) (v:Value),(xs.take lo++ys.take m++xs.drop (lo+m))[i]?=some x→(vs.take lo++us.take m++vs.drop (lo+m))[i]?=some v→Rep g x v)∧(∀ v∈vs.take lo++us.take m++vs.drop (lo+m),v.cells.size=size) ∧
  yG (vs.take lo++us.take m++vs.drop (lo+m))=(yG vs).take (lo * size)++yG (us.take m)++(yG vs).drop (lo * size+(yG (us.take m)).length):=by
 have a1:(xs.take lo).length=lo:=by rw [List.length_take];omega
 have a2:(vs.take lo).length=lo:=by rw [List.length_take];omega
 have a3:(ys.take m).length=m:=by rw [List.length_take];omega
 have a4:(us.take m).length=m:=by rw [List.length_take];omega
 refine ⟨by simp;omega,by simp;omega,fun i x v hx hv=>?_,fun v hv=>?_,?_⟩
 ·by_cases hi:i < lo
  ·rw [List.getElem?_append_left (by simp;omega),List.getElem?_append_left oo,List.getElem?_take,if_pos hi] at hx
   rw [List.getElem?_append_left (by simp;omega),List.getElem?_append_left oo,List.getElem?_take,if_pos hi] at hv
   exact hvr _ x v hx hv
  ·by_cases hj:i < lo+m
   ·rw [List.getElem?_append_left (by simp;omega),List.getElem?_append_right oo,a1,List.getElem?_take,if_pos oo] at hx
    rw [List.getElem?_append_left (by simp;omega),List.getElem?_append_right oo,a2,List.getElem?_take,if_pos oo] at hv
    exact hur _ x v hx hv
   ·have e1:(xs.take lo++ys.take m).length=lo+m:=by simp [a1,a3]
    have e2:(vs.take lo++us.take m).length=lo+m:=by simp [a2,a4]
    rw [List.getElem?_append_right oo,e1,List.getElem?_drop] at hx
    rw [List.getElem?_append_right oo,e2,List.getElem?_drop] at hv
    exact hvr _ x v hx hv
 ·rcases List.mem_append.1 hv with hv | hv
  ·rcases List.mem_append.1 hv with hv | hv
   ·exact hvs v (List.mem_of_mem_take hv)
   ·exact hus v (List.mem_of_mem_take hv)
  ·exact hvs v (List.mem_of_mem_drop hv)
 ·have hf:(yG (us.take m)).length=m * size:=by rw [yL _ size (fun v hv=>hus v (List.mem_of_mem_take hv)),a4]
  rw [qY,qY,yI _ size hvs,zgv _ size hvs,hf,Nat.add_mul]
theorem zpq {w w':World} {dT sT ty elem:TypeId} {size n m len c:Nat} {A:Option Addr} {y:Value} {news:List Value} (hu:P.underlying dT=some (.slice elem)) (hs:xL P elem size=true)
  (h1:(Builtin.lenOf y).run P w=.ok n w) (hm:m=Nat.min n len) (h2:(Builtin.firstCells size m y).run P w=.ok news.toArray w) (h3:(match A with | some a=>storeCells a news 0 | none=>pure ()).run P w=.ok () w'):
  (Builtin.copy_ #[dT,sT] ty #[.slice A len c,y]).run P w=.ok (.int .i64 m) w':=by
 obtain ⟨ie,hie,hsi⟩:=yo hs
 subst hm
 cases A with
 | none=>
  simp at h3
  subst h3
  simp [Builtin.copy_,run_underlying hu,h1,sizeOf,typeInfo,hie,hsi,h2,goInt]
 | some a=>
  simp at h3
  simp [Builtin.copy_,run_underlying hu,h1,sizeOf,typeInfo,hie,hsi,h2,h3,goInt]
theorem zlE {t ts e:TypeId} {size r ver lo len m:Nat} {x y:Operand} {Y:AV} {xs ys:List AV} (ho:o.op=.call { callee:=.builtin .copy,args:=#[x,y],argTypes:=#[t,ts] }) (ht:zT P t=some e) (hs:xL P e size=true)
  (hx:zl s x=.ms r ver size lo len) (hlen:lo+len≤xs.length) (hy:zl s y=Y) (hY:zfB Y=some ys) (hsy:ys.all (fun x=>x.sz == size && x.cell)=true) (hm:m=Nat.min ys.length len):
  OpHolds P o s id [(r,.mrow ver e size xs)] (.lit (.int .i64 m)) [(r,.mrow ver e size (xs.take lo++ys.take m++xs.drop (lo+m)))]:=by
 refine ⟨fun p hp=>by simp at hp;subst hp;simp,fun q hq=>.inr ⟨(r,.mrow ver e size xs),by simp,by simp at hq;subst hq;rfl⟩,fun W0 g σ n w a hS hr _ _ hp=>?_⟩
 have h1:=hr x (by simp [ho,Op.operands,Call.operands])
 have h2:=hr y (by simp [ho,Op.operands,Call.operands])
 rw [hx] at h1
 rw [hy] at h2
 have hp':σ r=.mrow ver e size xs:=hp (r,.mrow ver e size xs) (by simp)
 obtain ⟨cs,he⟩:=yK (P:=P) (a:=a) ho w
 obtain ⟨u,vs,hmr,hsl,hvl,hvr,hvs,hown⟩:=hS.mrowAt hp'
 have hsy1:ys.all (fun x=>x.sz == size)=true:=by
  rw [List.all_eq_true] at hsy ⊢
  intro x hx
  have:=hsy x hx
  simp only [Bool.and_eq_true] at this
  exact this.1
 generalize hv:a.eval x=v at h1
 generalize hw:a.eval y=yv at h2
 obtain ⟨k1,us,k2,k3,k4,k5⟩:=zhX (P:=P) hS hY h2 hsy1
 have hmy:m≤ys.length:=by rw [hm];exact Nat.min_le_left _ _
 have hml:m≤len:=by rw [hm];exact Nat.min_le_right _ _
 obtain ⟨s1,s2,s3,s4,s5⟩:=zl3 (lo:=lo) (m:=m) hvl k2 hvr k3 hvs k4 oo hmy
 have hone:∀ q∈yG (us.take m),q.oneCell'=true:=by
  intro q hq
  obtain ⟨v,hv,hq⟩:=mem_flat.1 hq
  obtain ⟨j,hj⟩:=List.getElem?_of_mem (List.mem_of_mem_take hv)
  have hlt:j < ys.length:=by rw [← k2];exact (List.getElem?_eq_some_iff.1 hj).1
  have hc:=List.all_eq_true.1 hsy ys[j] (List.getElem_mem hlt)
  simp only [Bool.and_eq_true] at hc
  exact (k3 j _ v (List.getElem?_eq_getElem hlt) hj).cell_ok hc.2 q hq
 have hfl:(yG (us.take m)).length=m * size:=by rw [yL _ size (fun v hv=>k4 v (List.mem_of_mem_take hv)),List.length_take];congr 1;omega
 cases h1 with
 | ms _ _ _ _ _ ver' u' A c hm' hv' hl hc h=>
  rw [hmr] at hm';cases hm'
  obtain ⟨A0,n0,c0,rfl,j1,j2,j3⟩:=h rfl
  simp only [zdX] at hsl
  subst hsl
  have store:∃ w',(match A with | some a=>storeCells a (yG (us.take m)) 0 | none=>pure ()).run P w=.ok () w'∧∃ g',g.le g'∧Sim W0 g' (upd σ r (.mrow ver e size (xs.take lo++ys.take m++xs.drop (lo+m)))) n w':=by
   by_cases hm0:m=0
   ·refine ⟨w,?_,g,g.le_refl,?_⟩
    ·subst hm0
     cases A <;> simp [yG,storeCells]
    ·have e1:xs.take lo++ys.take m++xs.drop (lo+m)=xs:=by rw [hm0];simp
     rw [e1]
     have e2:upd σ r (.mrow ver e size xs)=σ:=by
      funext i
      by_cases hi:i=r
      ·subst hi;rw [zr,hp']
      ·rw [zg _ _ _ _ hi]
     rw [e2];exact hS
   ·obtain ⟨b,rfl,rfl⟩:=j3 oo
    obtain ⟨w',hst,l1,l2,l3,l4,l5,l6⟩:=zdJ (P:=P) (off:=lo * size) (news:=yG (us.take m)) hown (by
     rw [hfl,hown.1,← Nat.add_mul];exact Nat.mul_le_mul_right _ oo) hone
    rw [← s5] at l1
    obtain ⟨g',hle,hS',_,_⟩:=hS.turnM (ver':=ver) (vs':=vs.take lo++us.take m++vs.drop (lo+m)) hp' hmr (.inl ⟨rfl,rfl⟩) (by rw [s2];exact l1) (by simp only [zdX];rw [s2]) s1 s3 s4 l2 l3 l4 l5 (.inl rfl) (fun j hj _=>l6 j (fun e=>hj (by rw [e];rfl)))
    exact ⟨w',hst,g',hle,hS'⟩
  obtain ⟨w',hst,g',hle,hS'⟩:=store
  have hrun:=zpq (P:=P) (ty:=o.type) (sT:=ts) (c:=c) (zD ht) hs k1 hm (k5 m hmy) hst
  unfold runsTo
  have hexec:(execOp a.eval o).run P w=.ok (.value (.int .i64 m)) w':=by
   rw [he]
   simp [builtin,hv,hw,hrun]
  rw [hexec]
  exact ⟨g',hle,hS',.lit _ rfl⟩
theorem zmX {α:Type} (L N T:List α) (q a:Nat) (hT:T=(L.drop q).take (T.length)) (hq:q+T.length≤L.length) (hab:a+N.length≤T.length):
  L.take q++(T.take a++N++T.drop (a+N.length))++L.drop (q+T.length)=L.take (q+a)++N++L.drop (q+a+N.length):=by
 apply List.ext_getElem?
 intro j
 have lq:(L.take q).length=q:=by rw [List.length_take];omega
 have la:(T.take a).length=a:=by rw [List.length_take];omega
 have lqa:(L.take (q+a)).length=q+a:=by rw [List.length_take];omega
 have lm:(T.take a++N++T.drop (a+N.length)).length=T.length:=by simp;omega
 have hTj:∀ i,i < T.length→T[i]?=L[q+i]?:=fun i hi=>by
  rw [hT,List.getElem?_take,if_pos hi,List.getElem?_drop]
 by_cases h1:j < q
 ·rw [List.getElem?_append_left (by simp;omega),List.getElem?_append_left oo,List.getElem?_append_left (by simp;omega),List.getElem?_append_left oo,List.getElem?_take,List.getElem?_take,if_pos h1,if_pos oo]
 ·by_cases h2:j < q+a
  ·rw [List.getElem?_append_left (by simp only [List.length_append,lq] at *;omega),List.getElem?_append_right oo,List.getElem?_append_left (by simp;omega),List.getElem?_append_left oo,List.getElem?_take,if_pos oo,lq,hTj _ oo,
    List.getElem?_append_left (by simp;omega),List.getElem?_append_left oo,List.getElem?_take,if_pos h2]
   congr 1;omega
  ·by_cases h3:j < q+a+N.length
   ·rw [List.getElem?_append_left (by simp only [List.length_append,lq] at *;omega),List.getElem?_append_right oo,lq,List.getElem?_append_left (by simp;omega),List.getElem?_append_right oo,la,
     List.getElem?_append_left (by simp;omega),List.getElem?_append_right oo,lqa]
    congr 1;omega
   ·have e1:(T.take a++N).length=a+N.length:=by simp;omega
    have e2:(L.take (q+a)++N).length=q+a+N.length:=by simp;omega
    rw [List.getElem?_append_right (l₁:=L.take (q+a)++N) oo,e2,List.getElem?_drop]
    by_cases h4:j < q+T.length
    ·rw [List.getElem?_append_left (by simp only [List.length_append,lq] at *;omega),List.getElem?_append_right oo,lq,List.getElem?_append_right oo,e1,List.getElem?_drop,hTj _ oo]
     congr 1;omega
    ·have e3:(L.take q++(T.take a++N++T.drop (a+N.length))).length=q+T.length:=by simp only [List.length_append] at lm ⊢;omega
     rw [List.getElem?_append_right oo,e3,List.getElem?_drop]
     congr 1;omega
theorem zlD {t ts e:TypeId} {size r lo off len m:Nat} {path:List Nat} {x y:Operand} {Y:AV} {bt:TypeId} {c:AV} {xs ys:List AV} (ho:o.op=.call { callee:=.builtin .copy,args:=#[x,y],argTypes:=#[t,ts] }) (ht:zT P t=some e) (hs:xL P e size=true)
  (hx:zl s x=.bs r path lo off len) (hc0:c.get path=some (.agg xs)) (hoff:c.offs path+lo * size=off) (hsx:xs.all (fun x=>x.sz == size)=true) (hlen:lo+len≤xs.length) (hy:zl s y=Y) (hY:zfB Y=some ys) (hsy:ys.all (fun x=>x.sz == size && x.cell)=true) (hm:m=Nat.min ys.length len):
  OpHolds P o s id [(r,.box bt c)] (.lit (.int .i64 m)) [(r,.box bt (c.put path (.agg (xs.take lo++ys.take m++xs.drop (lo+m)))))]:=by
 refine ⟨fun p hp=>by simp at hp;subst hp;simp,fun q hq=>.inr ⟨(r,.box bt c),by simp,by simp at hq;subst hq;rfl⟩,fun W0 g σ n w a hS hr _ _ hp=>?_⟩
 have h1:=hr x (by simp [ho,Op.operands,Call.operands])
 have h2:=hr y (by simp [ho,Op.operands,Call.operands])
 rw [hx] at h1
 rw [hy] at h2
 have hp':σ r=.box bt c:=hp (r,.box bt c) (by simp)
 obtain ⟨cs,he⟩:=yK (P:=P) (a:=a) ho w
 obtain ⟨b,v0,hloc,_,hrep,hheap,_⟩:=hS.box r bt c hp'
 obtain ⟨u0,hu0,hub,huc⟩:=hrep.get hc0
 have hsy1:ys.all (fun x=>x.sz == size)=true:=by
  rw [List.all_eq_true] at hsy ⊢
  intro x hx
  have:=hsy x hx
  simp only [Bool.and_eq_true] at this
  exact this.1
 generalize hv:a.eval x=v at h1
 generalize hw:a.eval y=yv at h2
 obtain ⟨k1,us,k2,k3,k4,k5⟩:=zhX (P:=P) hS hY h2 hsy1
 have hmy:m≤ys.length:=by rw [hm];exact Nat.min_le_left _ _
 have hml:m≤len:=by rw [hm];exact Nat.min_le_right _ _
 have hone:∀ q∈yG (us.take m),q.oneCell'=true:=by
  intro q hq
  obtain ⟨v,hv,hq⟩:=mem_flat.1 hq
  obtain ⟨j,hj⟩:=List.getElem?_of_mem (List.mem_of_mem_take hv)
  have hlt:j < ys.length:=by rw [← k2];exact (List.getElem?_eq_some_iff.1 hj).1
  have hc:=List.all_eq_true.1 hsy ys[j] (List.getElem_mem hlt)
  simp only [Bool.and_eq_true] at hc
  exact (k3 j _ v (List.getElem?_eq_getElem hlt) hj).cell_ok hc.2 q hq
 have hfl:(yG (us.take m)).length=m * size:=by rw [yL _ size (fun v hv=>k4 v (List.mem_of_mem_take hv)),List.length_take];congr 1;omega
 cases h1 with
 | bs _ _ _ _ _ b' cap hb' hl hc=>
  rw [hloc] at hb';cases hb'
  cases hu0 with
  | agg _ vs hvl hvr=>
   have hvs:=jS hvl hvr hsx
   obtain ⟨s1,s2,s3,s4,s5⟩:=zl3 (lo:=lo) (m:=m) hvl k2 hvr k3 hvs k4 oo hmy
   have hz:Rep g (.agg (xs.take lo++ys.take m++xs.drop (lo+m))) (.agg (yG (vs.take lo++us.take m++vs.drop (lo+m))).toArray):=.agg _ _ s1 s3
   have hflv:(yG vs).length=xs.length * size:=by rw [yL vs size hvs,hvl]
   have hzl:(yG (vs.take lo++us.take m++vs.drop (lo+m))).length=(yG vs).length:=by rw [yL _ size s4,hflv,s1,s2]
   have hsz:(AV.agg xs).sz=(AV.agg (xs.take lo++ys.take m++xs.drop (lo+m))).sz:=by
    have e1:=(Rep.agg (g:=g) xs vs hvl hvr).size
    have e2:=hz.size
    rw [← e1,← e2]
    simp only [Value.cells,List.size_toArray]
    exact hzl.symm
   obtain ⟨v',hv',hvc⟩:=hrep.put hc0 hz hsz
   have hmulle:(lo+m) * size≤xs.length * size:=Nat.mul_le_mul_right _ oo
   have hub':c.offs path+(yG vs).length≤v0.cells.toList.length:=by
    rw [vY,List.size_toArray] at hub
    rw [Array.length_toList];exact hub
   have hT:yG vs=(v0.cells.toList.drop (c.offs path)).take (yG vs).length:=by
    apply List.ext_getElem?
    intro j
    rw [List.getElem?_take,List.getElem?_drop]
    split
    ·rename_i hj
     rw [List.getElem?_eq_getElem hj]
     exact (huc j _ (by rw [vY,List.toList_toArray,List.getElem?_eq_getElem hj])).symm
    ·rename_i hj
     rw [List.getElem?_eq_none oo]
   have hnew:v'.cells.toList=v0.cells.toList.take off++yG (us.take m)++v0.cells.toList.drop (off+(yG (us.take m)).length):=by
    rw [hvc]
    rw [vY,List.toList_toArray,List.size_toArray]
    rw [hzl,s5,zmX v0.cells.toList (yG (us.take m)) (yG vs) (c.offs path) (lo * size) hT hub' (by rw [hfl,hflv,← Nat.add_mul];exact hmulle),hoff]
   have hfit:off+(yG (us.take m)).length≤v0.cells.size:=by
    rw [hfl,← hoff,Nat.add_assoc,← Nat.add_mul]
    have:v0.cells.toList.length=v0.cells.size:=Array.length_toList
    omega
   have hst:=wM (P:=P) b off bt (0,0) (yG (us.take m)) 0 v0.cells w hheap (jJ _) (by simpa using hfit) hone
   simp only [Nat.add_zero] at hst
   rw [← hnew] at hst
   have hrun:=zpq (P:=P) (ty:=o.type) (sT:=ts) (c:=cap) (A:=some ⟨b,off,none⟩) (zD ht) hs k1 hm (k5 m hmy) hst
   unfold runsTo
   have hexec:(execOp a.eval o).run P w=.ok (.value (.int .i64 m)) (w.setRow b v'.cells.toList.toArray):=by
    rw [he]
    simp [builtin,hv,hw,hrun]
   rw [hexec,Array.toArray_toList]
   exact ⟨g,g.le_refl,hS.store hp' hloc hv',.lit _ rfl⟩
theorem zks {t e:TypeId} {size r ver lo len:Nat} {x:Operand} {xs:List AV} {z:AV} (ho:o.op=.call { callee:=.builtin .clear,args:=#[x],argTypes:=#[t] }) (ht:zT P t=some e) (hs:xL P e size=true) (hz:zK P e=some z) (hzs:z.sz=size) (hzc:z.cell=true) (hpos:0 < size)
  (hx:zl s x=.ms r ver size lo len) (hlen:lo+len≤xs.length):
  OpHolds P o s id [(r,.mrow ver e size xs)] (.tup []) [(r,.mrow ver e size (xs.take lo++(List.replicate len z).take len++xs.drop (lo+len)))]:=by
 refine ⟨fun p hp=>by simp at hp;subst hp;simp,fun q hq=>.inr ⟨(r,.mrow ver e size xs),by simp,by simp at hq;subst hq;rfl⟩,fun W0 g σ n w a hS hr _ _ hp=>?_⟩
 have h1:=hr x (by simp [ho,Op.operands,Call.operands])
 rw [hx] at h1
 have hp':σ r=.mrow ver e size xs:=hp (r,.mrow ver e size xs) (by simp)
 obtain ⟨cs,he⟩:=yK (P:=P) (a:=a) ho w
 obtain ⟨u,vs,hmr,hsl,hvl,hvr,hvs,hown⟩:=hS.mrowAt hp'
 obtain ⟨i,zv,hi,hzv,hrz⟩:=vO hz g
 obtain ⟨ie,hie,hsi⟩:=yo hs
 rw [hi] at hie;cases hie
 have hzsz:zv.cells.size=size:=by rw [hrz.size,hzs]
 have hall:∀ v∈List.replicate len zv,v.cells.size=size:=fun v hv=>by rw [List.eq_of_mem_replicate hv];exact hzsz
 obtain ⟨s1,s2,s3,s4,s5⟩:=zl3 (ys:=List.replicate len z) (us:=List.replicate len zv) (lo:=lo) (m:=len) hvl (by simp) hvr (kh hrz len) hvs hall oo (by simp)
 generalize hv:a.eval x=v at h1
 have hnews:yG ((List.replicate len zv).take len)=(Builtin.zeroCells zv.cells len).toList:=by
  rw [List.take_of_length_le (by simp)]
  have:=qz len zv size hzsz hpos
  rw [← this]
  simp [Builtin.zeroCells,hzsz]
 have hfl:(yG ((List.replicate len zv).take len)).length=len * size:=by rw [yL _ size (fun v hv=>hall v (List.mem_of_mem_take hv)),List.length_take];simp
 have hone:∀ q∈yG ((List.replicate len zv).take len),q.oneCell'=true:=by
  intro q hq
  obtain ⟨v,hv,hq⟩:=mem_flat.1 hq
  rw [List.eq_of_mem_replicate (List.mem_of_mem_take hv)] at hq
  exact hrz.cell_ok hzc q hq
 cases h1 with
 | ms _ _ _ _ _ ver' u' A c hm' hv' hl hc h=>
  rw [hmr] at hm';cases hm'
  obtain ⟨A0,n0,c0,rfl,j1,j2,j3⟩:=h rfl
  simp only [zdX] at hsl
  subst hsl
  unfold runsTo
  by_cases hm0:len=0
  ·subst hm0
   have hexec:(execOp a.eval o).run P w=.ok (.value (.tuple #[])) w:=by
    rw [he]
    cases A <;> simp [builtin,hv,Builtin.clear_,run_underlying (zD ht)]
   rw [hexec]
   refine ⟨g,g.le_refl,?_,.tup [] [] rfl fun i x v h _=>by simp at h⟩
   have e1:xs.take lo++(List.replicate 0 z).take 0++xs.drop (lo+0)=xs:=by simp
   have e2:upd σ r (.mrow ver e size xs)=σ:=by
    funext i
    by_cases hi:i=r
    ·subst hi;rw [zr,hp']
    ·rw [zg _ _ _ _ hi]
   show Sim W0 g (upd σ r _) n w
   rw [e1,e2];exact hS
  ·obtain ⟨b,rfl,rfl⟩:=j3 oo
   obtain ⟨w',hst,l1,l2,l3,l4,l5,l6⟩:=zdJ (P:=P) (off:=lo * size) (news:=yG ((List.replicate len zv).take len)) hown (by
    rw [hfl,hown.1,← Nat.add_mul];exact Nat.mul_le_mul_right _ oo) hone
   rw [hnews] at hst
   rw [← s5] at l1
   obtain ⟨g',hle,hS',_,_⟩:=hS.turnM (ver':=ver) (vs':=vs.take lo++(List.replicate len zv).take len++vs.drop (lo+len)) hp' hmr (.inl ⟨rfl,rfl⟩) (by rw [s2];exact l1) (by simp only [zdX];rw [s2]) s1 s3 s4 l2 l3 l4 l5 (.inl rfl) (fun j hj _=>l6 j (fun e=>hj (by rw [e];rfl)))
   obtain ⟨len',rfl⟩:∃ k,len=k+1:=⟨len - 1,by omega⟩
   have hexec:(execOp a.eval o).run P w=.ok (.value (.tuple #[])) w':=by
    rw [he]
    simp [builtin,hv,Builtin.clear_,run_underlying (zD ht),zeroValue,typeInfo,hi,hzv,hst]
   rw [hexec]
   exact ⟨g',hle,hS',.tup [] [] rfl fun i x v h _=>by simp at h⟩
theorem zaE {src dst e:TypeId} {x:Operand} {b:ByteArray} (ho:o.op=.convert src dst x) (hs:zM P src=true) (hd:zT P dst=some e) (he:zq P e=true) (_h1:xL P e 1=true) (hx:zl s x=.lit (.string b)) (hb:b.size≤maxLen):
  OpHolds P o s id [] (.ms id 0 1 0 b.size) [(id,.mrow 0 e 1 (b.data.toList.map za))]:=by
 refine ⟨fun p hp=>(by cases hp),fun q hq=>.inl (by simp at hq;subst hq;rfl),fun W0 g σ n w a hS hr hf hn _=>?_⟩
 have h2:=hr x (by simp [ho,Op.operands])
 rw [hx] at h2
 have e2:=zN h2
 have heu:P.underlying e=some (.int .u8):=by
  unfold zq at he
  split at he
  ·assumption
  ·cases he
 have hrun:=run_bytes_of_string (P:=P) w src dst e b (wV hs) (zD hd) heu
 have hge:=grownCap_ge w b.size 0 e
 have hcm:=grownCap_le_maxLen w b.size 0 e hb
 let vs:List Value:=b.data.toList.map fun c=>Value.int .u8 (c.toNat:Int)
 have hlits:∀ v∈vs,v.oneCell'=true:=fun v hv=>by obtain ⟨c,_,rfl⟩:=List.mem_map.1 hv;rfl
 have hxs:(b.data.toList.map za).length=b.size:=by simp
 have hdrew:Sim W0 g σ n w.drew:=hS.drew
 obtain ⟨g',hle,hS',hrp⟩:=hdrew.newM (k:=id) (e:=e) (size:=1) (xs:=b.data.toList.map za) (vs:=vs) hf hn (bytesRow b (grownCap w b.size 0 e)) (grownCap w b.size 0 e) (by simp [vs]) (zhW g _) (fun v hv=>by rw [zez (hlits v hv)]) (by rw [hxs];exact hge) hcm
  (by simp [bytesRow];omega) (by
   rw [hxs,zda vs hlits]
   simp only [bytesRow,Array.toList_append,Array.toList_map,Nat.mul_one]
   rw [List.take_append_of_le_length (by simp),List.take_of_length_le (by simp)]) (fz:=((bytesRow b (grownCap w b.size 0 e)).size,(bytesRow b (grownCap w b.size 0 e)).size+1)) (.inr (Nat.le_refl _))
 unfold runsTo
 have hexec:(execOp a.eval o).run P w=.ok (.value (.slice (some ⟨w.heap.size,0,none⟩) b.size (grownCap w b.size 0 e))) (w.drew.alloc (.cells (bytesRow b (grownCap w b.size 0 e)) e ((bytesRow b (grownCap w b.size 0 e)).size,(bytesRow b (grownCap w b.size 0 e)).size+1))):=by
  simp [execOp,ho,e2,hrun]
 rw [hexec]
 rw [hxs] at hrp
 exact ⟨g',hle,hS',hrp⟩
theorem zfQ {t:TypeId} {x:Operand} (ho:o.op=.makeInterface t x) (ht:P.concrete t=true):OpHolds P o s id [] (.iface t (zl s x)) []:=
 yj fun g w a hr=>by
  have h1:=hr x (by simp [ho,Op.operands])
  exact ⟨.iface t (a.eval x),by simp [execOp,ho,run_makeInterface,ht],.iface t _ _ h1⟩
def zlg (P:Program) (asserted:TypeId) (x:AV):Option AV:=
 if P.concrete asserted then
  match x with
  | .iface t y=>if t=asserted then some (.tup [y,.lit (.bool true)]) else (zK P asserted).map fun z=>.tup [z,.lit (.bool false)]
  | .lit .nilIface=>(zK P asserted).map fun z=>.tup [z,.lit (.bool false)]
  | _=>none
 else none
theorem zlk {t:TypeId} (h:P.concrete t=true):∃ d,P.underlying t=some d∧∀ ms,d≠.interface ms:=by
 unfold Program.concrete at h
 cases hu:P.underlying t with
 | none=>rw [hu] at h;simp at h
 | some d=>
  rw [hu] at h
  refine ⟨d,rfl,fun ms e=>?_⟩
  subst e
  simp at h
end
end Go.Ab
