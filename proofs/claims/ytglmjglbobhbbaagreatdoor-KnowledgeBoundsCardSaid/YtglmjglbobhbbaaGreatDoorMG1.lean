/- Texts C1p, C3p, C4p, C11p, C9p, Fp, N1p, K5p, U2p, O0p, Q2p, V1p, K7p, Q4p, O1p, O2p, U5p, O3p, O6p, O4p, O5p, O7p, O8p, K19p, C13p, U15p, I1p, P8p, P7p, P9p, P10p, joined. -/
import Derived.Test.YtglmjglbobhbbaaGreatDoorM45
namespace Go.Ab
open Go.RowKit
theorem yz {P:Program} {N:Nat} {b:Code} {Q:AExit→Cfg→Prop} {s:Slots} {σ:Nat→Ent} {n:Nat} (t:Tmp) {id:Nat} {bt:TypeId} {x:AV} (hσ:σ id=.box bt x) (ht:s t=.ptr id [] 0)
  (h:aw P N b Q ⟨upd s t (.view x),upd σ id (.fbox bt x),n⟩):aw P N b Q ⟨s,σ,n⟩:=by
 refine qF (fun W0 g a w hS=>?_) h
 have hr:=hS.at_eq ht
 have key:∀ v,Rep g (.ptr id [] 0) v→∃ g',g.le g'∧Sim W0 g' (upd σ id (.fbox bt x)) n w∧Rep g' (.view x) v:=by
  intro v hv
  cases hv with
  | ptr _ _ _ b0 hb=>
   obtain ⟨g',h1,h2,v',h3,h4⟩:=hS.sim.freeze hσ hb
   exact ⟨g',h1,h2,.view x v' b0 0 h3 fun j u hu=>by rw [Nat.zero_add,h4,← Array.getElem?_toList];exact hu⟩
 obtain ⟨g',h1,h2,h3⟩:=key _ hr
 exact ⟨g',h1,hS.turnSlot h1 h2 h3⟩
theorem zaB {P:Program} {N:Nat} {b:Code} {Q:AExit→Cfg→Prop} {next:Cfg→Prop} {c:Cfg} (I:Cfg→Prop) (h1:aw P N b (aThen I Q) c) (h2:∀ c,I c→next c):aw P N b (aThen next Q) c:=by
 refine zhZ h1 fun e c' hq=>?_
 cases e with
 | normal=>exact h2 _ hq
 | ret=>exact hq
 | exit id'=>exact hq
end Go.Ab
namespace Go.Ab
open Go.RowKit Go.ChangeShapes
def zjz (P:Program):List Field→Nat→Nat→Bool
 | [],off,tot=>off == tot
 | f::fs,off,tot=>f.offset == off && zjz P fs (off+P.cellsOf f.type) tot
def vL (P:Program):Nat→TypeId→Bool
 | 0,_=>false
 | m+1,t=>match P.underlying t with
  | some .bool=>P.cellsOf t == 1
  | some (.int _)=>P.cellsOf t == 1
  | some .string=>P.cellsOf t == 1
  | some (.slice e)=>vL P m e && decide (0 < P.cellsOf e) && P.cellsOf t == 1
  | some (.array n e)=>vL P m e && P.cellsOf t == n * P.cellsOf e
  | some (.struct fs)=>(fs.toList.all fun f=>vL P m f.type) && zjz P fs.toList 0 (P.cellsOf t)
  | _=>false
def ziL (P:Program) (t:TypeId):Bool:=
 match P.underlying t with
 | some (.array _ _) | some (.struct _)=>true
 | _=>false
theorem wB {w:World} {a:Addr} {n:Nat} {cs:List Value} (h:(List.range n).mapM (fun i=>w.cell? (a.add i))=some cs):cs.length=n∧∀ (i:Nat) (v:Value),cs[i]?=some v→w.cell? (a.add i)=some v:=by
 have hl:=mapM_some_length h
 refine ⟨by simpa using hl,fun i v hv=>?_⟩
 have hi:i < n:=by have:=(List.getElem?_eq_some_iff.1 hv).1;simp at hl;omega
 have:=mapM_some_get h i i (by simp [hi])
 rw [this];exact hv
theorem wR {cs:List Value} {size:Nat}:∀ (vs:List Value),cs.length=vs.length * size→(∀ (i:Nat) (v:Value),vs[i]?=some v→v.cells.toList=(cs.drop (i * size)).take size)→yG vs=cs
 | [],hl,_=>by
  simp at hl
  subst hl;rfl
 | v::vs,hl,h=>by
  have h0:=h 0 v rfl
  simp only [Nat.zero_mul,List.drop_zero] at h0
  rw [xX,h0]
  simp only [List.length_cons,Nat.add_mul,Nat.one_mul] at hl
  have ih:=wR (cs:=cs.drop size) (size:=size) vs (by rw [List.length_drop];omega) fun i u hu=>by
   have:=h (i+1) u (by simpa using hu)
   rw [this,List.drop_drop]
   congr 2
   rw [Nat.add_mul];omega
  rw [ih,List.take_append_drop]
theorem wQ {P:Program} {cs:List Value}:∀ (fs:List Field) (vs:List Value) (off:Nat),zjz P fs off cs.length=true→vs.length=fs.length→off≤cs.length→(∀ (i:Nat) (f:Field) (v:Value),fs[i]?=some f→vs[i]?=some v→v.cells.toList=(cs.drop f.offset).take (P.cellsOf f.type)∧v.cells.size=P.cellsOf f.type)→yG vs=cs.drop off
 | [],vs,off,hl,hv,hle,_=>by
  cases vs with
  | nil=>
   simp only [zjz,beq_iff_eq] at hl
   rw [hl,List.drop_length];rfl
  | cons=>simp at hv
 | f::fs,vs,off,hl,hv,hle,h=>by
  cases vs with
  | nil=>simp at hv
  | cons v vs=>
   simp only [zjz,Bool.and_eq_true,beq_iff_eq] at hl
   obtain ⟨h1,h2⟩:=h 0 f v rfl rfl
   have hsz:((cs.drop off).take (P.cellsOf f.type)).length=P.cellsOf f.type:=by rw [← hl.1,← h1,Array.length_toList,h2]
   rw [List.length_take,List.length_drop] at hsz
   have ih:=wQ (P:=P) (cs:=cs) fs vs (off+P.cellsOf f.type) hl.2 (by simpa using hv) oo fun i g u hg hu=>h (i+1) g u (by simpa using hg) (by simpa using hu)
   rw [xX,h1,hl.1,ih,← List.drop_drop,List.take_append_drop]
theorem qZ {α:Type} {Q:Nat→α→Prop}:∀ n,(∀ i,i < n→∃ p,Q i p)→∃ l:List α,l.length=n∧∀ (i:Nat) (p:α),l[i]?=some p→Q i p
 | 0,_=>⟨[],rfl,fun i p h=>by simp at h⟩
 | n+1,h=>by
  obtain ⟨l,hl,hq⟩:=qZ n fun i hi=>h i oo
  obtain ⟨p,hp⟩:=h n oo
  refine ⟨l++[p],by simp [hl],fun i q hq'=>?_⟩
  by_cases hi:i < l.length
  ·rw [List.getElem?_append_left hi] at hq';exact hq i q hq'
  ·rw [List.getElem?_append_right oo] at hq'
   have:i - l.length=0:=by
    have:=(List.getElem?_eq_some_iff.1 hq').1
    simp at this;omega
   rw [this] at hq'
   simp at hq'
   subst hq'
   have:i=n:=by omega
   rw [this];exact hp
theorem xo {H:Type} {P:Program} {e:TypeId}:∀ {ds:List (DataW H)} {i:Nat} {d:DataW H},ds[i]?=some d→∀ n∈d.weights P e,n∈DataW.weightsAll P e ds
 | d0::r,0,d,h,n,hn=>by
  simp only [List.getElem?_cons_zero,Option.some.injEq] at h
  subst h
  simp only [DataW.weightsAll,List.mem_append]
  exact .inl hn
 | d0::r,i+1,d,h,n,hn=>by
  simp only [List.getElem?_cons_succ] at h
  simp only [DataW.weightsAll,List.mem_append]
  exact .inr (xo h n hn)
 | [],_,_,h,_,_=>by simp at h
section
variable {H:Type} {enc:TypeId × Value→H} {P:Program} {w:World} {base:Nat} {spare:Nat→Bool} {held:Bool}
theorem wI:∀ (m:Nat) (t:TypeId),vL P m t=true→∀ (fuel:Nat) (cs:List Value) (x:DataW H × List MemPlace),DataW.trod enc P w base spare held fuel t cs=some x→(∀ n∈x.1.weights P t,n≤140737488351232) →
  ∃ (p:AV × Value),p.2.cells.toList=cs∧Rep (g0 w) p.1 p.2∧tyAV P m t p.1∧p.2.cells.size=P.cellsOf t∧kN p.2=ziL P t∧zj7 p.2=false
 | 0,_,h=>by simp [vL] at h
 | m+1,t,h=>by
  intro fuel cs x hx hw0
  unfold vL at h
  unfold tyAV ziL
  split at h
  ·rename_i ht
   obtain ⟨b,rfl,rfl⟩:=DataW.trod_bool ht hx
   simp only [ht]
   exact ⟨(.lit (.bool b),.bool b),rfl,.lit _ rfl,⟨b,rfl⟩,by simpa [Value.cells] using (beq_iff_eq.1 h).symm,rfl,rfl⟩
  ·rename_i k ht
   obtain ⟨n,rfl,rfl,hw⟩:=DataW.trod_int ht hx
   simp only [ht]
   exact ⟨(.lit (.int k n),.int k n),rfl,.lit _ rfl,⟨n,rfl,hw⟩,by simpa [Value.cells] using (beq_iff_eq.1 h).symm,rfl,rfl⟩
  ·rename_i ht
   obtain ⟨s,rfl,rfl,hw⟩:=DataW.trod_string ht hx
   simp only [ht]
   refine ⟨(.lit (.string s),.string s),rfl,.lit _ rfl,⟨s.data.toList,by simp,?_⟩,by simpa [Value.cells] using (beq_iff_eq.1 h).symm,rfl,rfl⟩
   unfold maxLen at hw
   have:s.data.toList.length=s.size:=by simp
   omega
  ·rename_i e ht
   simp only [Bool.and_eq_true,decide_eq_true_eq,beq_iff_eq] at h
   obtain ⟨⟨h1,h2⟩,h3⟩:=h
   simp only [ht]
   rcases DataW.trod_slice ht hx with ⟨rfl,rfl⟩ | ⟨a,len,cap,elems,rest,n,_,rfl,rfl,hba,hlc,hcm,hel,hcell,_⟩
   ·exact ⟨(.slice none [],.slice none 0 0),rfl,AV.le_nils0 _ _ .nils,⟨[],rfl,by simp,(fun y hy=>by cases hy),by simp⟩,by simp [Value.cells,h3],rfl,rfl⟩
   ·have hwu:(DataW.slice (elems.map (·.1)) (rest.map (·.1))).weights P t=((elems.map (·.1)).length+(rest.map (·.1)).length) * P.bytesOf e::(DataW.weightsAll P e (elems.map (·.1))++DataW.weightsAll P e (rest.map (·.1))):=by simp only [DataW.weights,ht]
    simp only [hwu] at hw0
    have hwl:len * P.bytesOf e≤140737488351232:=Nat.le_trans (Nat.mul_le_mul_right _ (by rw [List.length_map,hel];omega)) (hw0 _ (List.mem_cons_self ..))
    have hwe:∀ (i:Nat) (z:DataW H × List MemPlace),elems[i]?=some z→∀ n∈z.1.weights P e,n≤140737488351232:=fun i z hz n hn=>
     hw0 n (List.mem_cons_of_mem _ (List.mem_append_left _ (xo (i:=i) (by rw [List.getElem?_map,hz];rfl) n hn)))
    obtain ⟨l,hl,hq⟩:=qZ (Q:=fun i (p:AV × Value)=>Rep (g0 w) p.1 p.2∧tyAV P m e p.1∧p.2.cells.size=P.cellsOf e∧∀ (j:Nat) (v:Value),p.2.cells.toList[j]?=some v→w.cell? ((a.add (i * P.cellsOf e)).add j)=some v) len fun i hi=>by
     have hc:=hcell i hi
     have hei:elems[i]?=some elems[i]:=List.getElem?_eq_getElem oo
     rw [hei] at hc
     simp only [Option.bind_eq_some_iff] at hc
     obtain ⟨cs,hcs,hd⟩:=hc
     unfold World.cells? at hcs
     split at hcs
     ·obtain ⟨hcl,hcc⟩:=wB hcs
      obtain ⟨p,p1,p2,p3,p4,p5,p6⟩:=wI m e h1 n cs _ hd (hwe i _ hei)
      exact ⟨p,p2,p3,p4,by rw [p1];exact hcc⟩
     ·cases hcs
    have hlen:(l.map (·.1)).length=len:=by simp [hl]
    have hsz:∀ v∈l.map (·.2),v.cells.size=P.cellsOf e:=fun v hv=>by
     obtain ⟨p,hp,rfl⟩:=List.mem_map.1 hv
     obtain ⟨i,hi⟩:=List.getElem?_of_mem hp
     exact (hq i p hi).2.2.1
    have hrep:=Rep.slice (g:=g0 w) none (l.map (·.1)) (l.map (·.2)) (some a) cap (P.cellsOf e) (by simp) (by rw [hlen];exact hlc) hcm
     (fun i x v hx hv=>by
      rw [List.getElem?_map] at hx hv
      cases hli:l[i]? with
      | none=>rw [hli] at hx;cases hx
      | some p=>rw [hli] at hx hv;cases hx;cases hv;exact (hq i p hli).1) hsz
     (by
      rw [hlen]
      by_cases h0:len=0
      ·exact .inl h0
      ·right
       have hl0:l[0]?=some l[0]:=List.getElem?_eq_getElem oo
       obtain ⟨_,_,q3,q4⟩:=hq 0 _ hl0
       have hc0:0 < (l[0]).2.cells.toList.length:=by rw [Array.length_toList,q3];exact h2
       have hcell0:=q4 0 _ (List.getElem?_eq_getElem hc0)
       have hspot:a.spot=none:=by
        have:=World.cell?_spot hcell0
        simpa [Addr.add] using this
       obtain ⟨b,off,sp⟩:=a
       simp only at hspot
       subst hspot
       have hb:b < w.heap.size:=by
        rw [Addr.add_lit,Addr.add_lit] at hcell0
        rcases Nat.lt_or_ge b w.heap.size with h | h
        ·exact h
        ·exfalso
         simp [World.cell?,Array.getElem?_eq_none h] at hcell0
       refine ⟨b,off,rfl,fun j u hu=>?_⟩
       simp only [g0,if_pos hb]
       have hflen:(yG (l.map (·.2))).length=len * P.cellsOf e:=by rw [yL _ _ hsz,List.length_map,hl]
       have hj:j < len * P.cellsOf e:=by rw [← hflen];exact (List.getElem?_eq_some_iff.1 hu).1
       have hi:j / P.cellsOf e < len:=by rw [Nat.div_lt_iff_lt_mul h2];exact hj
       have hli:l[j / P.cellsOf e]?=some l[j / P.cellsOf e]:=List.getElem?_eq_getElem oo
       obtain ⟨_,_,r3,r4⟩:=hq _ _ hli
       have hjm:j % P.cellsOf e < (l[j / P.cellsOf e]).2.cells.toList.length:=by rw [Array.length_toList,r3];exact Nat.mod_lt _ h2
       have hat:=zhv (l.map (·.2)) (P.cellsOf e) hsz (j / P.cellsOf e) (l[j / P.cellsOf e]).2 (by rw [List.getElem?_map,hli];rfl) (j % P.cellsOf e) _ (List.getElem?_eq_getElem hjm)
       have hsplit:j / P.cellsOf e * P.cellsOf e+j % P.cellsOf e=j:=by rw [Nat.mul_comm];exact Nat.div_add_mod j (P.cellsOf e)
       rw [hsplit,hu] at hat
       have hcl:=r4 (j % P.cellsOf e) u (by rw [List.getElem?_eq_getElem hjm];exact hat.symm)
       rw [Addr.add_lit,Addr.add_lit] at hcl
       rw [← hcl]
       congr 2
       omega) (fun id hid=>by cases hid)
    rw [hlen] at hrep
    refine ⟨(.slice none (l.map (·.1)),.slice (some a) len cap),rfl,hrep,⟨_,rfl,by rw [hlen];unfold maxLen at hcm;omega,fun y hy=>?_,by rw [hlen];exact hwl⟩,by simp [Value.cells,h3],rfl,rfl⟩
    obtain ⟨p,hp,rfl⟩:=List.mem_map.1 hy
    obtain ⟨i,hi⟩:=List.getElem?_of_mem hp
    exact (hq i p hi).2.1
  ·rename_i n e ht
   simp only [Bool.and_eq_true,beq_iff_eq] at h
   obtain ⟨h1,h2⟩:=h
   obtain ⟨xs,q,_,rfl,hl,hxl,hf⟩:=DataW.trod_array ht hx
   have hwu:(DataW.agg (xs.map (·.1))).weights P t=DataW.weightsAll P e (xs.map (·.1)):=by simp only [DataW.weights,ht]
   simp only [hwu] at hw0
   have hwe:∀ (i:Nat) (z:DataW H × List MemPlace),xs[i]?=some z→∀ n∈z.1.weights P e,n≤140737488351232:=fun i z hz n hn=>
    hw0 n (xo (i:=i) (by rw [List.getElem?_map,hz];rfl) n hn)
   simp only [ht]
   obtain ⟨l,hll,hq⟩:=qZ (Q:=fun i (p:AV × Value)=>Rep (g0 w) p.1 p.2∧tyAV P m e p.1∧p.2.cells.size=P.cellsOf e∧p.2.cells.toList=(cs.drop (i * P.cellsOf e)).take (P.cellsOf e)) n fun i hi=>by
    have hd:=hf i hi
    have hxi:xs[i]?=some (xs[i]'oo):=List.getElem?_eq_getElem oo
    rw [hxi] at hd
    obtain ⟨p,p1,p2,p3,p4,p5,p6⟩:=wI m e h1 q _ _ hd (hwe i _ hxi)
    exact ⟨p,p2,p3,p4,p1⟩
   have hfl:yG (l.map (·.2))=cs:=wR (size:=P.cellsOf e) _ (by rw [hl,h2,List.length_map,hll]) fun i v hv=>by
    rw [List.getElem?_map] at hv
    cases hli:l[i]? with
    | none=>rw [hli] at hv;cases hv
    | some p=>rw [hli] at hv;cases hv;exact (hq i p hli).2.2.2
   refine ⟨(.agg (l.map (·.1)),.agg (yG (l.map (·.2))).toArray),by rw [hfl];rfl,.agg _ _ (by simp) (fun i x v hx hv=>?_),⟨_,rfl,by simp [hll],fun y hy=>?_⟩,by simp [Value.cells,hfl,hl],rfl,rfl⟩
   ·rw [List.getElem?_map] at hx hv
    cases hli:l[i]? with
    | none=>rw [hli] at hx;cases hx
    | some p=>rw [hli] at hx hv;cases hx;cases hv;exact (hq i p hli).1
   ·obtain ⟨p,hp,rfl⟩:=List.mem_map.1 hy
    obtain ⟨i,hi⟩:=List.getElem?_of_mem hp
    exact (hq i p hi).2.1
  ·rename_i fs ht
   simp only [Bool.and_eq_true,List.all_eq_true] at h
   obtain ⟨h1,h2⟩:=h
   obtain ⟨xs,q,_,rfl,hl,hxl,hf⟩:=DataW.trod_struct ht hx
   have hwu:(DataW.agg (xs.map (·.1))).weights P t=DataW.weightsEach P (fs.toList.map (·.type)) (xs.map (·.1)):=by simp only [DataW.weights,ht]
   simp only [hwu] at hw0
   have hwe:∀ (i:Nat) (f:Field) (z:DataW H × List MemPlace),fs[i]?=some f→xs[i]?=some z→∀ n∈z.1.weights P f.type,n≤140737488351232:=fun i f z hf hz n hn=>
    hw0 n (DataW.weights_mem_each (j:=i) (t:=f.type) (by rw [List.getElem?_map,Array.getElem?_toList,hf];rfl) (by rw [List.getElem?_map,hz];rfl) n hn)
   simp only [ht]
   obtain ⟨l,hll,hq⟩:=qZ (Q:=fun i (p:AV × Value)=>∀ f,fs[i]?=some f→Rep (g0 w) p.1 p.2∧tyAV P m f.type p.1∧p.2.cells.size=P.cellsOf f.type∧p.2.cells.toList=(cs.drop f.offset).take (P.cellsOf f.type)) fs.size fun i hi=>by
    have hfi:fs[i]?=some fs[i]:=by simp [hi]
    have hd:=hf i _ hfi
    have hxi:xs[i]?=some (xs[i]'oo):=List.getElem?_eq_getElem oo
    rw [hxi] at hd
    obtain ⟨p,p1,p2,p3,p4,p5,p6⟩:=wI m (fs[i]).type (h1 _ (Array.getElem_mem_toList hi)) q _ _ hd (hwe i _ _ hfi hxi)
    exact ⟨p,fun f hf'=>by rw [hfi] at hf';cases hf';exact ⟨p2,p3,p4,p1⟩⟩
   have hfl:yG (l.map (·.2))=cs:=by
    have:=wQ (P:=P) (cs:=cs) fs.toList (l.map (·.2)) 0 (by rw [hl];exact h2) (by simp [hll]) (Nat.zero_le _) fun i f v hf' hv=>by
     rw [List.getElem?_map] at hv
     cases hli:l[i]? with
     | none=>rw [hli] at hv;cases hv
     | some p=>
      rw [hli] at hv;cases hv
      obtain ⟨_,_,q3,q4⟩:=hq i p hli f (by simpa using hf')
      exact ⟨q4,q3⟩
    simpa using this
   have hat:∀ (i:Nat) (p:AV × Value),l[i]?=some p→∃ f,fs[i]?=some f:=fun i p hp=>by
    have:i < fs.size:=by have:=(List.getElem?_eq_some_iff.1 hp).1;omega
    exact ⟨fs[i],by simp [this]⟩
   refine ⟨(.agg (l.map (·.1)),.agg (yG (l.map (·.2))).toArray),by rw [hfl];rfl,.agg _ _ (by simp) (fun i x v hx hv=>?_),⟨_,rfl,by simp [hll],fun i f y hf' hy=>?_⟩,by simp [Value.cells,hfl,hl],rfl,rfl⟩
   ·rw [List.getElem?_map] at hx hv
    cases hli:l[i]? with
    | none=>rw [hli] at hx;cases hx
    | some p=>
     rw [hli] at hx hv;cases hx;cases hv
     obtain ⟨f,hf'⟩:=hat i p hli
     exact (hq i p hli f hf').1
   ·rw [List.getElem?_map] at hy
    cases hli:l[i]? with
    | none=>rw [hli] at hy;cases hy
    | some p=>rw [hli] at hy;cases hy;exact (hq i p hli f hf').2.1
  ·cases h
theorem q8 {m:Nat} {t:TypeId} {v:Value} {d:DataW H} {ps:List MemPlace} {r:Reach} {b0:Nat} (ht:vL P m t=true) (hval:Value.okWide P w r b0 t v) (hd:DataW.Trod enc P w base spare held t v d ps) (hw:∀ n∈d.weights P t,n≤140737488351232):∃ x,Rep (g0 w) x v∧tyAV P m t x:=by
 obtain ⟨fuel,hf⟩:=hd
 obtain ⟨p,p1,p2,p3,p4,p5,p6⟩:=wI m t ht fuel _ _ hf hw
 have hv:p.2=v:=by
  unfold Value.okWide at hval
  cases ha:ziL P t with
  | true=>
   have hag:∃ cs,v=.agg cs:=by
    unfold ziL at ha
    split at ha
    ·rename_i h;rw [h] at hval;exact ⟨_,hval.choose_spec.1⟩
    ·rename_i h;rw [h] at hval;exact ⟨_,hval.choose_spec.1⟩
    ·cases ha
   obtain ⟨cs,rfl⟩:=hag
   rw [ha] at p5
   cases hp:p.2 <;> rw [hp] at p5 <;> simp [kN] at p5
   rename_i cs'
   rw [hp] at p1
   simp only [Value.cells] at p1
   congr 1
   exact Array.ext' p1
  | false=>
   rw [ha] at p5
   have hna:kN v=false:=by
    cases v <;> try rfl
    rename_i cs
    exfalso
    obtain ⟨m',rfl⟩:∃ k,m=k+1:=by cases m with
     | zero=>simp [vL] at ht
     | succ k=>exact ⟨k,rfl⟩
    unfold vL at ht
    unfold ziL at ha
    split at ht <;> first | (cases ht;done) | (rename_i h;rw [h] at ha hval;simp [Cell.okWide,Cell.ok] at ha hval;done)
   have c1:∀ u:Value,kN u=false→u.cells=#[u]:=fun u hu=>by cases u <;> simp_all [kN,Value.cells]
   rw [c1 _ p5,c1 _ hna] at p1
   simpa using p1
 subst hv
 exact ⟨p.1,p2,p3⟩
end
end Go.Ab
namespace Go.Ab
open Go.RowKit
theorem xF {α:Type} {R:α→Prop} {f:α→AV}:∀ {xs:List AV},(∀ y∈xs,∃ d,R d∧y=f d)→∃ ds:List α,(∀ d∈ds,R d)∧xs=ds.map f∧ds.length=xs.length
 | [],_=>⟨[],fun d h=>(by cases h),rfl,rfl⟩
 | x::xs,h=>by
  obtain ⟨d,h1,h2⟩:=h x (List.mem_cons_self ..)
  obtain ⟨ds,h3,h4,h5⟩:=xF (xs:=xs) fun y hy=>h y (List.mem_cons_of_mem _ hy)
  refine ⟨d::ds,fun e he=>?_,by simp [h2,← h4],by simp [h5]⟩
  rcases List.mem_cons.1 he with rfl | he
  ·exact h1
  ·exact h3 e he
theorem vv {P:Program} {m:Nat} {t:TypeId} {k:IntKind} {x:AV} (ht:zbL P t=some k) (h:tyAV P (m+1) t x):∃ n,(Lit.int k n).wf=true∧x=.lit (.int k n):=by
 unfold tyAV at h
 rw [wz ht] at h
 obtain ⟨n,h1,h2⟩:=h
 exact ⟨n,h2,h1⟩
theorem zj5 {P:Program} {m:Nat} {t:TypeId} {x:AV} (ht:zM P t=true) (h:tyAV P (m+1) t x):∃ l:List UInt8,l.length≤9223372036854775807∧x=.lit (.string ⟨l.toArray⟩):=by
 unfold tyAV at h
 rw [wV ht] at h
 obtain ⟨l,h1,h2⟩:=h
 exact ⟨l,h2,h1⟩
theorem zdM {P:Program} {m:Nat} {t e:TypeId} {x:AV} (ht:zT P t=some e) (h:tyAV P (m+1) t x):∃ xs,xs.length≤9223372036854775807∧(∀ y∈xs,tyAV P m e y)∧x=.slice none xs:=by
 unfold tyAV at h
 rw [zD ht] at h
 obtain ⟨xs,h1,h2,h3,_⟩:=h
 exact ⟨xs,h2,h3,h1⟩
theorem jb {P:Program} {α:Type} {R:α→Prop} {f:α→AV} {m:Nat} {t e:TypeId} {x:AV} (ht:zT P t=some e) (he:∀ y,tyAV P m e y→∃ d,R d∧y=f d) (h:tyAV P (m+1) t x):∃ l:List α,(l.length≤9223372036854775807∧∀ d∈l,R d)∧x=.slice none (l.map f):=by
 obtain ⟨xs,h1,h2,rfl⟩:=zdM ht h
 obtain ⟨l,h3,h4,h5⟩:=xF fun y hy=>he y (h2 y hy)
 exact ⟨l,⟨by omega,h3⟩,by rw [h4]⟩
theorem xY {P:Program} {m:Nat} {t:TypeId} {fs:Array Field} {x:AV} (ht:P.underlying t=some (.struct fs)) (h:tyAV P (m+1) t x):∃ xs,x=.agg xs∧xs.length=fs.size∧∀ (i:Nat) (f:Field) (y:AV),fs[i]?=some f→xs[i]?=some y→tyAV P m f.type y:=by
 unfold tyAV at h
 rw [ht] at h
 exact h
section
variable {W0:World} {g:Ghost} {σ:Nat→Ent} {n:Nat} {w:World}
theorem Sim.newMark (h:Sim W0 g σ n w) {k:Nat} (hk:σ k=.none) (hn:k < n):
  ∃ g',g.le g'∧Sim W0 g' (upd σ k .mark) n (w.alloc (.deferred (some [])))∧g'.loc k=some w.heap.size∧g'.row k≠none:=by
 have h0:=h.alloc (.deferred (some []))
 obtain ⟨hl,hrw,ho,hm⟩:=h.free k hk
 let g':Ghost:={ g with loc:=upd g.loc k (some w.heap.size),row:=upd g.row k (some (.bool true)) }
 have hle:g.le g':=⟨fun _ _ _ h=>h,(Ghost.le_loc hl w.heap.size).loc,fun id u' hu'=>by
  have hne:id≠k:=by rintro rfl;rw [hrw] at hu';cases hu'
  exact ⟨u',by show upd g.row k _ id=some u';rw [zg _ _ _ _ hne];exact hu',.inl rfl⟩,fun _ u h=>⟨u,h,.inl rfl⟩⟩
 have hlk:g'.loc k=some w.heap.size:=zr _ _ _
 have hrk:g'.row k=some (.bool true):=zr _ _ _
 have hbk:g'.blk k=some w.heap.size:=Ghost.blk_loc hlk
 refine ⟨g',hle,h0.change hn hle h0.below h0.imm (fun id hid=>⟨zg _ _ _ _ hid,zg _ _ _ _ hid,rfl,rfl⟩) (fun id hid b hb=>⟨⟨rfl,fun _=>rfl⟩,?_⟩)
  ⟨ho,hm,w.heap.size,.bool true,hlk,hrk,heap_alloc_new w _,h.G_new⟩ (fun b hb=>?_) (Nat.le_refl _),hlk,by rw [hrk];simp⟩
 ·rw [hbk];intro e;injection e with e;exact h.blk_new id (e ▸ hb)
 ·rw [hbk] at hb;injection hb with hb;subst hb;exact ⟨h.below.size,by simp⟩
theorem Sim.newLoop (h:Sim W0 g σ n w) {k N:Nat} {r:Loop} {s:Slots} {T:Array Value} (hk:σ k=.none) (hn:k < n) (hT:T.size=N) (hs:∀ t,Rep g (s t) (T.getD t undef)):
  ∃ g',g.le g'∧Sim W0 g' (upd σ k (.loop w.heap.size N r s)) n (w.alloc (.loop { r with tmps:=T })):=by
 have h0:=h.alloc (.loop { r with tmps:=T })
 obtain ⟨hl,hrw,ho,hm⟩:=h.free k hk
 let g':Ghost:={ g with loc:=upd g.loc k (some w.heap.size),mr:=upd g.mr k (some (0,.bool true)) }
 have hle:g.le g':=⟨fun _ _ _ h=>h,(Ghost.le_loc hl w.heap.size).loc,fun _ u h=>⟨u,h,.inl rfl⟩,fun id u' hu'=>by
  have hne:id≠k:=by rintro rfl;rw [hm] at hu';cases hu'
  exact ⟨u',by show upd g.mr k _ id=some u';rw [zg _ _ _ _ hne];exact hu',.inl rfl⟩⟩
 have hlk:g'.loc k=some w.heap.size:=zr _ _ _
 have hmk:g'.mr k=some (0,.bool true):=zr _ _ _
 have hbk:g'.blk k=some w.heap.size:=Ghost.blk_loc hlk
 refine ⟨g',hle,h0.change hn hle h0.below h0.imm (fun id hid=>⟨zg _ _ _ _ hid,rfl,rfl,zg _ _ _ _ hid⟩) (fun id hid b hb=>⟨⟨rfl,fun _=>rfl⟩,?_⟩)
  ⟨ho,hrw,⟨_,hmk⟩,hlk,⟨T,hT,fun t=>(hs t).mono hle,heap_alloc_new w _⟩,h.G_new⟩ (fun b hb=>?_) (Nat.le_refl _)⟩
 ·rw [hbk];intro e;injection e with e;exact h.blk_new id (e ▸ hb)
 ·rw [hbk] at hb;injection hb with hb;subst hb;exact ⟨h.below.size,by simp⟩
end
theorem zbf {P:Program} {N:Nat} {Q:AExit→Cfg→Prop} {x:Operand} {ps:Array Tmp} {A B:Code} {s:Slots} {σ:Nat→Ent} {n:Nat} {f:FuncId} {caps:List AV} {pre post:Foot} {res:AV} (jump:AExit)
  (hx:zl s x=.fn f caps) (hp:∀ p∈pre,σ p.1=p.2) (hpn:∀ p∈pre,p.1 < n) (hpost:∀ q∈post,q.1 < n)
  (hcall:∀ (l:Nat) (r:Loop),r.state=.ready→r.pending=none→r.params=ps→r.assign=A→r.body=B →
   ∃ st,st≠.busy∧ACall P f (.lit (.func (.yield l) #[] #[])::caps) (n+2) ((n+1,.loop l N r s)::pre) res ((n+1,.loop l N { r with state:=st,pending:=ww jump } s)::post))
  (h:∀ (l:Nat) (r:Loop),Q jump ⟨s,wr (upd (upd σ n .mark) (n+1) (.loop l N r s)) post,n+3⟩):aw P N (.rangeFunc x ps A B) Q ⟨s,σ,n⟩:=by
 intro hok hmix ro hro W0 g a w hS
 have hro':ro=none:=by
  rcases hro with hro | hro
  ·exact hro
  ·cases hro
 subst hro'
 simp only [wJ,Bool.and_eq_true] at hok
 refine wpIn_rangeFunc fun fn _=>?_
 have hsn:σ n=.none:=hS.sim.bound n (Nat.le_refl _)
 have hsn1:σ (n+1)=.none:=hS.sim.bound (n+1) (Nat.le_succ _)
 have hsn2:σ (n+2)=.none:=hS.sim.bound (n+2) (by show n≤n+2;omega)
 obtain ⟨g1,hle1,hS1,hloc1,hrow1⟩:=(hS.sim.more (n':=n+3) (by show n≤n+3;omega)).newMark hsn oo
 obtain ⟨g2,hle2,hS2⟩:=hS1.newLoop (k:=n+1) (N:=N) (r:={ state:=.ready,pending:=none,fn:=fn,tmps:=a.tmps,params:=ps,assign:=A,body:=B,defers:=w.heap.size }) (s:=s) (T:=a.tmps) (by rw [zg _ _ _ _ oo];exact hsn1) oo hS.size (fun t=>(hS.slots t).mono hle1)
 have hsz:(w.alloc (.deferred (some []))).heap.size=w.heap.size+1:=by simp
 rw [hsz] at hS2
 generalize hL:({ state:=.ready,pending:=none,fn:=fn,tmps:=a.tmps,params:=ps,assign:=A,body:=B,defers:=w.heap.size }:Loop)=r at hS2
 obtain ⟨st,hst,hc,hpre',hpost',hrun⟩:=hcall (w.heap.size+1) r (by rw [← hL]) (by rw [← hL]) (by rw [← hL]) (by rw [← hL]) (by rw [← hL])
 have henter:=run_enterLoop_outer (P:=P) (w:=w) fn a.tmps ps A B
 rw [hL] at henter
 have hre:=hS.eval hok.1.1
 rw [show zl (Cfg.mk s σ n).s x=.fn f caps from hx] at hre
 generalize hv:a.eval x=v at hre
 cases hre with
 | fn _ _ vs hvl hvr=>
  generalize hw1:(w.alloc (.deferred (some []))).alloc (.loop r)=w1 at hS2 henter
  have hres:(resolve a.eval (rangeCall x (w.heap.size+1)) 0).run P w1=.ok { target:=.fn (.func f) vs.toArray,args:=#[.func (.yield (w.heap.size+1)) #[] #[]] } w1:=by
   simp only [resolve,List.map_toArray,List.map_cons,List.map_nil,hv,Deferred.ofValue,Sem.run_pure]
   simp [Act.eval]
  have hinv:(invoke (.fn (.func f) vs.toArray) #[.func (.yield (w.heap.size+1)) #[] #[]]).run P w1=.ok (.enter f (.func (.yield (w.heap.size+1)) #[] #[]::vs).toArray) w1:=by
   simp only [invoke]
   rw [qx hc]
   simp
  refine ⟨_,_,_,_,_,f,_,_,henter,hres,fun _ _=>trivial,hinv,fun hd=>(by cases hd),?_⟩
  have hne:∀ q∈post,q.1≠n+1:=fun q hq=>by have:=hpost q hq;omega
  have hcalls:=hrun W0 g2 _ (n+3) w1 (.func (.yield (w.heap.size+1)) #[] #[]::vs) hS2 (by simp [hvl]) (fun i y u hy hu=>by
   cases i with
   | zero=>simp at hy hu;subst hy;subst hu;exact .lit _ rfl
   | succ i=>exact (hvr i y u (by simpa using hy) (by simpa using hu)).mono (hle1.trans hle2))
   (by rw [zg _ _ _ _ oo,zg _ _ _ _ oo];exact hsn2) oo (fun p hpm=>by
    rcases List.mem_cons.1 hpm with rfl | hpm
    ·exact zr _ _ _
    ·have:=hpn p hpm
     rw [zg _ _ _ _ oo,zg _ _ _ _ oo];exact hp p hpm)
  refine CallsIn.mono ((callsIn_wide (n:=0 - 1)).2 hcalls) fun e w3 hq=>?_
  obtain ⟨u,rfl,g3,hle3,hS3,_⟩:=hq
  have hj3:wr (upd (upd σ n .mark) (n+1) (.loop (w.heap.size+1) N r s)) ((n+1,.loop (w.heap.size+1) N { r with state:=st,pending:=ww jump } s)::post) (n+1)=.loop (w.heap.size+1) N { r with state:=st,pending:=ww jump } s:=by
   rw [zF,zbU _ _ _ hne,zr]
  obtain ⟨T3,hT3,hTs3,hheap3,hset3⟩:=hS3.setLoop hj3
  have hend:=run_endLoop (P:=P) hheap3 hst
  have hS4:=hset3 { r with state:=.exhausted,pending:=ww jump }
  have hσ:upd (wr (upd (upd σ n .mark) (n+1) (.loop (w.heap.size+1) N r s)) ((n+1,.loop (w.heap.size+1) N { r with state:=st,pending:=ww jump } s)::post)) (n+1) (.loop (w.heap.size+1) N { r with state:=.exhausted,pending:=ww jump } s) =
    wr (upd (upd σ n .mark) (n+1) (.loop (w.heap.size+1) N { r with state:=.exhausted,pending:=ww jump } s)) post:=by
   rw [zF,wC _ _ _ _ hne,wC _ _ _ _ hne,wC _ _ _ _ hne,zcT,zcT]
  rw [hσ] at hS4
  have hfin:∀ e:Exit,(match e with
    | .normal=>jump=.normal
    | .exit id=>jump=.exit id
    | .ret=>jump=.ret
    | _=>False)→LQ W0 g N a.defers Q e { a with defers:=[({ target:=.collected w.heap.size,args:=#[] }:Deferred)]++a.defers } (w3.putObj (w.heap.size+1) (.loop { { r with state:=.exhausted,pending:=ww jump } with tmps:=T3 })):=by
   intro e he
   have hQ:=h (w.heap.size+1) { r with state:=.exhausted,pending:=ww jump }
   have hle:=(hle1.trans hle2).trans hle3
   refine ⟨⟨s,_,n+3⟩,g3,hle,⟨hS4,hS.size,fun t=>(hS.slots t).mono hle⟩,⟨[(n,w.heap.size)],rfl,by simp,fun p hpm=>?_⟩,?_⟩
   ·simp at hpm;subst hpm
    obtain ⟨f1,f2,_,f3⟩:=hS.sim.free n hsn
    refine ⟨fun hh=>?_,(hle2.trans hle3).loc _ _ hloc1,(hle2.trans hle3).row_ne hrow1⟩
    rcases hh with hh | hh | hh
    ·exact hh f1
    ·exact hh f2
    ·exact hh f3
   ·cases e with
    | normal=>simp only at he;subst he;exact hQ
    | exit id=>simp only at he;subst he;exact hQ
    | ret=>simp only at he;subst he;exact hQ
    | goto=>exact he.elim
    | panic=>exact he.elim
    | outgrown=>exact he.elim
  refine ⟨_,_,hend,?_⟩
  cases jump with
  | normal=>exact hfin .normal rfl
  | exit id=>exact wpIn_exit (hfin (.exit id) rfl)
  | ret=>exact wpIn_ret (hfin .ret rfl)
theorem zaA {r:Loop} (h1:r.state=.ready) (h2:r.pending=none):zdQ r .normal=r:=by
 cases r;simp only at h1 h2;subst h1;subst h2;rfl
theorem wm {s:Slots} {f:Nat→Option Nat} (t:Nat) (v:AV) (h:(fun t=>(s t).ren f)=s) (hv:v.ren f=v):(fun t'=>(upd s t v t').ren f)=upd s t v:=by
 funext t'
 by_cases ht:t'=t
 ·subst ht;simp only [zr];exact hv
 ·simp only [zg _ _ _ _ ht];exact congrFun h t'
theorem zgX {args:List AV} {f:Nat→Option Nat} (h:AV.renl f args=args):(fun t=>(zcB args t).ren f)=zcB args:=by
 funext t
 show (args.getD t (.tup [])).ren f=args.getD t (.tup [])
 by_cases ht:t < args.length
 ·have e1:args.getD t (.tup [])=args[t]:=by simp [List.getD,List.getElem?_eq_getElem ht]
  rw [e1]
  have h2:(AV.renl f args)[t]?=some (args[t].ren f):=by rw [AV.renl_map,List.getElem?_map,List.getElem?_eq_getElem ht];rfl
  rw [h,List.getElem?_eq_getElem ht] at h2
  injection h2 with h2
  exact h2.symm
 ·have e1:args.getD t (.tup [])=.tup []:=by simp [List.getD,List.getElem?_eq_none (Nat.not_lt.1 ht)]
  rw [e1];rfl
theorem WE {p:Prop} (h:p:=by simp (disch:=omega) [go_sem, *,-List.reduceReplicate];try rfl):p:=h
end Go.Ab
namespace Go.Proofs.YtglmjglbobhbbaaGreatDoor
open _root_.Go.Proofs.Tryz
open Go.Ab
@[go_sem] theorem zyA:zT prog 68=some 75:=by kernel_rfl
@[go_sem] theorem si68:zH prog 68=some (75,38,112,(.agg [(.agg [(.lit (.int .i64 0)),(.lit (.int .i64 0))]),(.lit (.int .i64 0)),(.lit (.int .i64 0)),.nils,(.agg ((List.replicate 32 (0:UInt8)).map za)),.nils])):=by kernel_rfl
@[go_sem] theorem zt68:zK prog 68=some .nils:=by kernel_rfl
@[go_sem] theorem tq68:zx prog 68=some (false,1)∧zq prog 68=false∧Program.concrete prog 68=true∧zM prog 68=false∧zz prog 68=1:=by and_intros <;> kernel_rfl
@[go_sem] theorem zyB:zT prog 69=some 85:=by kernel_rfl
@[go_sem] theorem si69:zH prog 69=some (85,68,112,(.agg [(.lit (.int .i64 0)),(.lit (.int .i64 0)),(.lit (.int .i64 0)),(.agg ((List.replicate 32 (0:UInt8)).map za)),.nils,(.agg ((List.replicate 32 (0:UInt8)).map za))])):=by kernel_rfl
@[go_sem] theorem zt69:zK prog 69=some .nils:=by kernel_rfl
@[go_sem] theorem tq69:zx prog 69=some (false,1)∧zq prog 69=false∧Program.concrete prog 69=true∧zM prog 69=false∧zz prog 69=1:=by and_intros <;> kernel_rfl
@[go_sem] theorem zt71:zK prog 71=some (.agg [.nils,.nils,.nils,.nils]):=by kernel_rfl
@[go_sem] theorem tq71:zx prog 71=some (true,4)∧zq prog 71=false∧Program.concrete prog 71=true∧zM prog 71=false∧yO prog 71=some [(0,1),(1,1),(2,1),(3,1)]∧zf prog 71 0=some 0∧zf prog 71 1=some 1∧zf prog 71 2=some 2∧zf prog 71 3=some 3:=by and_intros <;> kernel_rfl
@[go_sem] theorem zwI:zT prog 73=some 168:=by kernel_rfl
@[go_sem] theorem zxM:zH prog 73=some (168,34,80,(.agg [.nils,.nils,(.agg ((List.replicate 32 (0:UInt8)).map za))])):=by kernel_rfl
@[go_sem] theorem zxS:zK prog 73=some .nils:=by kernel_rfl
@[go_sem] theorem zxQ:zx prog 73=some (false,1)∧zq prog 73=false∧Program.concrete prog 73=true∧zM prog 73=false∧zz prog 73=1:=by and_intros <;> kernel_rfl
@[go_sem] theorem zxT:zK prog 75=some (.agg [(.agg [(.lit (.int .i64 0)),(.lit (.int .i64 0))]),(.lit (.int .i64 0)),(.lit (.int .i64 0)),.nils,(.agg ((List.replicate 32 (0:UInt8)).map za)),.nils]):=by kernel_rfl
@[go_sem] theorem zxR:zx prog 75=some (true,38)∧zq prog 75=false∧Program.concrete prog 75=true∧zM prog 75=false∧yO prog 75=some [(0,2),(2,1),(3,1),(4,1),(5,32),(37,1)]∧zf prog 75 0=some 0∧zf prog 75 1=some 2∧zf prog 75 2=some 3∧zf prog 75 3=some 4∧zf prog 75 4=some 5∧zf prog 75 5=some 37:=by and_intros <;> kernel_rfl
@[go_sem] theorem sl77:zT prog 77=some 28:=by kernel_rfl
@[go_sem] theorem si77:zH prog 77=some (28,32,32,(.agg ((List.replicate 32 (0:UInt8)).map za))):=by kernel_rfl
@[go_sem] theorem zt77:zK prog 77=some .nils:=by kernel_rfl
@[go_sem] theorem tq77:zx prog 77=some (false,1)∧zq prog 77=false∧Program.concrete prog 77=true∧zM prog 77=false∧zz prog 77=1:=by and_intros <;> kernel_rfl
@[go_sem] theorem zt83:zK prog 83=some (.lit .nilFunc):=by kernel_rfl
@[go_sem] theorem tq83:zx prog 83=some (false,1)∧zq prog 83=false∧Program.concrete prog 83=true∧zM prog 83=false∧zz prog 83=3:=by and_intros <;> kernel_rfl
@[go_sem] theorem zt85:zK prog 85=some (.agg [(.lit (.int .i64 0)),(.lit (.int .i64 0)),(.lit (.int .i64 0)),(.agg ((List.replicate 32 (0:UInt8)).map za)),.nils,(.agg ((List.replicate 32 (0:UInt8)).map za))]):=by kernel_rfl
@[go_sem] theorem tq85:zx prog 85=some (true,68)∧zq prog 85=false∧Program.concrete prog 85=true∧zM prog 85=false∧yO prog 85=some [(0,1),(1,1),(2,1),(3,32),(35,1),(36,32)]∧zf prog 85 0=some 0∧zf prog 85 1=some 1∧zf prog 85 2=some 2∧zf prog 85 3=some 3∧zf prog 85 4=some 35∧zf prog 85 5=some 36:=by and_intros <;> kernel_rfl
@[go_sem] theorem zt89:zK prog 89=some (.lit .nilFunc):=by kernel_rfl
@[go_sem] theorem tq89:zx prog 89=some (false,1)∧zq prog 89=false∧Program.concrete prog 89=true∧zM prog 89=false∧zz prog 89=3:=by and_intros <;> kernel_rfl
@[go_sem] theorem sl92:zT prog 92=some 71:=by kernel_rfl
@[go_sem] theorem si92:zH prog 92=some (71,4,96,(.agg [.nils,.nils,.nils,.nils])):=by kernel_rfl
@[go_sem] theorem zt92:zK prog 92=some .nils:=by kernel_rfl
@[go_sem] theorem tq92:zx prog 92=some (false,1)∧zq prog 92=false∧Program.concrete prog 92=true∧zM prog 92=false∧zz prog 92=1:=by and_intros <;> kernel_rfl
@[go_sem] theorem ztw:zK prog 114=some (.agg [.nils,(.agg ((List.replicate 32 (0:UInt8)).map za))]):=by kernel_rfl
@[go_sem] theorem zto:zx prog 114=some (true,33)∧zq prog 114=false∧Program.concrete prog 114=true∧zM prog 114=false∧yO prog 114=some [(0,1),(1,32)]∧zf prog 114 0=some 0∧zf prog 114 1=some 1:=by and_intros <;> kernel_rfl
@[go_sem] theorem zw4:zK prog 159=some (.lit (.pointer none)):=by kernel_rfl
@[go_sem] theorem zwN:zx prog 159=some (false,1)∧zq prog 159=false∧Program.concrete prog 159=true∧zM prog 159=false∧zz prog 159=2:=by and_intros <;> kernel_rfl
@[go_sem] theorem ztx:zK prog 168=some (.agg [.nils,.nils,(.agg ((List.replicate 32 (0:UInt8)).map za))]):=by kernel_rfl
@[go_sem] theorem ztp:zx prog 168=some (true,34)∧zq prog 168=false∧Program.concrete prog 168=true∧zM prog 168=false∧yO prog 168=some [(0,1),(1,1),(2,32)]∧zf prog 168 0=some 0∧zf prog 168 1=some 1∧zf prog 168 2=some 2:=by and_intros <;> kernel_rfl
@[go_sem] theorem zty:zK prog 169=some (.lit .nilFunc):=by kernel_rfl
@[go_sem] theorem ztq:zx prog 169=some (false,1)∧zq prog 169=false∧Program.concrete prog 169=true∧zM prog 169=false∧zz prog 169=3:=by and_intros <;> kernel_rfl
@[go_sem] theorem zw5:zK prog 170=some (.lit .nilFunc):=by kernel_rfl
@[go_sem] theorem zwO:zx prog 170=some (false,1)∧zq prog 170=false∧Program.concrete prog 170=true∧zM prog 170=false∧zz prog 170=3:=by and_intros <;> kernel_rfl
@[go_sem] theorem zw6:zK prog 172=some (.lit .nilFunc):=by kernel_rfl
@[go_sem] theorem zwP:zx prog 172=some (false,1)∧zq prog 172=false∧Program.concrete prog 172=true∧zM prog 172=false∧zz prog 172=3:=by and_intros <;> kernel_rfl
@[go_sem] theorem zw7:zK prog 173=some (.lit .nilFunc):=by kernel_rfl
@[go_sem] theorem zwQ:zx prog 173=some (false,1)∧zq prog 173=false∧Program.concrete prog 173=true∧zM prog 173=false∧zz prog 173=3:=by and_intros <;> kernel_rfl
@[go_sem] theorem zw8:zK prog 174=some (.lit .nilFunc):=by kernel_rfl
@[go_sem] theorem zwR:zx prog 174=some (false,1)∧zq prog 174=false∧Program.concrete prog 174=true∧zM prog 174=false∧zz prog 174=3:=by and_intros <;> kernel_rfl
@[go_sem] theorem zw9:zK prog 177=some (.lit .nilFunc):=by kernel_rfl
@[go_sem] theorem zwS:zx prog 177=some (false,1)∧zq prog 177=false∧Program.concrete prog 177=true∧zM prog 177=false∧zz prog 177=3:=by and_intros <;> kernel_rfl
@[go_sem] theorem zxa:zK prog 180=some (.lit .nilFunc):=by kernel_rfl
@[go_sem] theorem zwT:zx prog 180=some (false,1)∧zq prog 180=false∧Program.concrete prog 180=true∧zM prog 180=false∧zz prog 180=3:=by and_intros <;> kernel_rfl
@[go_sem] theorem zyL:zK prog 198=some (.lit .nilFunc):=by kernel_rfl
@[go_sem] theorem zyD:zx prog 198=some (false,1)∧zq prog 198=false∧Program.concrete prog 198=true∧zM prog 198=false∧zz prog 198=3:=by and_intros <;> kernel_rfl
@[go_sem] theorem ztz:zK prog 223=some (.lit .nilFunc):=by kernel_rfl
@[go_sem] theorem ztr:zx prog 223=some (false,1)∧zq prog 223=false∧Program.concrete prog 223=true∧zM prog 223=false∧zz prog 223=3:=by and_intros <;> kernel_rfl
@[go_sem] theorem ztA:zK prog 231=some (.lit .nilFunc):=by kernel_rfl
@[go_sem] theorem zts:zx prog 231=some (false,1)∧zq prog 231=false∧Program.concrete prog 231=true∧zM prog 231=false∧zz prog 231=3:=by and_intros <;> kernel_rfl
@[go_sem] theorem zwF:zT prog 241=some 23:=by kernel_rfl
@[go_sem] theorem zwD:zH prog 241=some (23,1,24,.nils):=by kernel_rfl
@[go_sem] theorem zxb:zK prog 241=some .nils:=by kernel_rfl
@[go_sem] theorem zwU:zx prog 241=some (false,1)∧zq prog 241=false∧Program.concrete prog 241=true∧zM prog 241=false∧zz prog 241=1:=by and_intros <;> kernel_rfl
@[go_sem] theorem ztB:zK prog 253=some (.lit .nilFunc):=by kernel_rfl
@[go_sem] theorem ztt:zx prog 253=some (false,1)∧zq prog 253=false∧Program.concrete prog 253=true∧zM prog 253=false∧zz prog 253=3:=by and_intros <;> kernel_rfl
@[go_sem] theorem zxc:zK prog 259=some (.lit .nilFunc):=by kernel_rfl
@[go_sem] theorem zwV:zx prog 259=some (false,1)∧zq prog 259=false∧Program.concrete prog 259=true∧zM prog 259=false∧zz prog 259=3:=by and_intros <;> kernel_rfl
@[go_sem] theorem zxd:zK prog 263=some (.lit .nilFunc):=by kernel_rfl
@[go_sem] theorem zwW:zx prog 263=some (false,1)∧zq prog 263=false∧Program.concrete prog 263=true∧zM prog 263=false∧zz prog 263=3:=by and_intros <;> kernel_rfl
@[go_sem] theorem zxe:zK prog 276=some (.lit (.pointer none)):=by kernel_rfl
@[go_sem] theorem zwX:zx prog 276=some (false,1)∧zq prog 276=false∧Program.concrete prog 276=true∧zM prog 276=false∧zz prog 276=2:=by and_intros <;> kernel_rfl
@[go_sem] theorem zxf:zK prog 309=some (.lit .nilFunc):=by kernel_rfl
@[go_sem] theorem zwY:zx prog 309=some (false,1)∧zq prog 309=false∧Program.concrete prog 309=true∧zM prog 309=false∧zz prog 309=3:=by and_intros <;> kernel_rfl
@[go_sem] theorem zxg:zK prog 310=some (.lit .nilFunc):=by kernel_rfl
@[go_sem] theorem zwZ:zx prog 310=some (false,1)∧zq prog 310=false∧Program.concrete prog 310=true∧zM prog 310=false∧zz prog 310=3:=by and_intros <;> kernel_rfl
@[go_sem] theorem zxh:zK prog 319=some (.lit .nilFunc):=by kernel_rfl
@[go_sem] theorem zw0:zx prog 319=some (false,1)∧zq prog 319=false∧Program.concrete prog 319=true∧zM prog 319=false∧zz prog 319=3:=by and_intros <;> kernel_rfl
attribute [local irreducible] Go.Ab.tyAV Go.Ab.aw Go.Ab.aops Go.Ab.kReg Go.Ab.aThen Go.Ab.aBlk Go.Ab.acond Go.Ab.aguard Go.Ab.astep Go.Ab.AStepX Go.Ab.aRet
theorem jY (bs:List UInt8) (n:Int) (h:n < 0∨281474976710656 < n) (k:Nat):ACall prog 214 [.slice none (bs.map za),.lit (.int .i64 n)] k [] (.tup [.nils,.lit (.int .i64 1)]) []:=by
 by_cases h1:n < 0
 ·refine Bd func214 ntmps214 fun σ N hp hpn hk hkn hfree=>?_
  exact W0
 ·have h2:281474976710656 < n:=by omega
  refine Bd func214 ntmps214 fun σ N hp hpn hk hkn hfree=>?_
  exact W0
theorem yU (bs:List UInt8) (hb:bs.length≤10000000) (n:Nat) (h:n≤281474976710656) (k:Nat):
  ACall prog 214 [.slice none (bs.map za),.lit (.int .i64 n)] k [] (.tup [.slice none ((bs++leb n).map za),.lit (.int .i64 0)]) []:=by
 have hl:=zh n 7 oo
 have hc:=jT bs oo
 refine Bd func214 ntmps214 fun σ N hp hpn hk hkn hfree=>?_
 have g1:¬ (n:Int) < 0:=by omega
 have g2:¬ (281474976710656:Int) < n:=by omega
 have hcs:=And.intro hc True.intro
 refine Wk ?_
 refine za0 (zhh zi (by kernel_rfl) (fun c=>∃ (m:Nat) (acc:List UInt8),c.s 1=.lit (.int .i64 m)∧c.s 6=.slice (some (N+9)) ((bs++acc).map za)∧c.σ (N+9)=.row 5 1 (bs.length+acc.length)∧N+10≤c.n∧(∀ id,id < N→c.σ id=σ id)∧acc++leb m=leb n∧m≤281474976710656)
  (fun c=>match c.s 1 with | .lit (.int _ m)=>m.toNat | _=>0) ⟨n,[],by simp (disch:=omega) [go_sem, *,-List.reduceReplicate],by simp (disch:=omega) [go_sem, *,-List.reduceReplicate],by simp (disch:=omega) [go_sem, *,-List.reduceReplicate],by simp,(fun id hid=>by simp (disch:=omega) only [zg,zF,yi];try exact hlow id hid),rfl,h⟩ ?_)
 rintro ⟨s,σ',n'⟩ ⟨m,acc,h0,h3,hr,hn',hlow,hacc,hm⟩
 simp only at h0 h3 hr hn' hlow
 have hal:acc.length≤10:=by rw [← hacc,List.length_append] at hl;omega
 by_cases h:m < 128
 ·refine Wk ?_
  have hfin:(bs++leb n).map za=(bs++acc).map za++[.lit (.int .u8 (IntKind.u8.wrap (m:Int)))]:=by
   rw [← hacc,xQ h,← List.append_assoc,List.map_append,List.map_cons,List.map_nil,xM oo,IntKind.wrap_u8,Int.emod_eq_of_lt oo oo]
  have hlen:bs.length+(leb n).length=bs.length+acc.length+1:=by rw [← hacc,xQ h];simp;omega
  rw [hfin]
  refine vn (by simp (disch:=omega) [go_sem, *,-List.reduceReplicate];rfl) (AV.sub_tup (by repeat' first | exact ALe.nil | exact AV.le_refl _ | apply ALe.cons | ((first | apply AV.le_slices | apply AV.le_nilsE | apply AV.le_clipE);first | rfl | (simp (disch:=omega) [go_sem, *,-List.reduceReplicate];done)))) (by simp (disch:=omega) [go_sem];try rfl) (fun id hid=>by simp (disch:=omega) only [zg];try exact hlow id hid)
 ·have ha:bits .and .i64 (m:Int) 127=(m:Int) % 128:=zbX _ oo oo
  have ho:bits .or .i64 ((m:Int) % 128) 128=(m:Int) % 128+128:=zde _ oo oo
  have hs:(m:Int).fdiv 128=(m:Int) / 128:=by rw [Int.fdiv_eq_ediv];simp
  have hb:IntKind.u8.wrap ((m:Int) % 128+128)=(m:Int) % 128+128:=by rw [IntKind.wrap_u8];omega
  have hbv:za (u8 (m % 128+128))=.lit (.int .u8 ((m:Int) % 128+128)):=by rw [xM oo];simp
  refine Wk ?_
  refine ⟨⟨m / 128,acc++[u8 (m % 128+128)],by simp (disch:=omega) [go_sem, *,-List.reduceReplicate],by simp (disch:=omega) [go_sem, *,-List.reduceReplicate],by simp (disch:=omega) [go_sem, *,-List.reduceReplicate];omega,by simp only;omega,(fun id hid=>by simp (disch:=omega) only [zg];try exact hlow id hid),by rw [← hacc,jC h];simp,by omega⟩,?_⟩
  simp (disch:=omega) [go_sem, *,-List.reduceReplicate]
  omega
set_option maxHeartbeats 4000000 in
theorem kg (a b:List Ca) (ha:∀ c∈a,wY c) (hb:∀ c∈b,wY c) (hal:a.length≤100000) (hbl:b.length≤100000) (k:Nat):
  ACall prog 51 [.slice none (a.map z8),.slice none (b.map z8)] k [] (.lit (.bool (decide (a=b)))) []:=by
 by_cases hl:a.length=b.length
 ·refine Bd func51 ntmps51 fun σ N hp hpn hk hkn hfree=>?_
  refine Wk ?_
  refine ze zi (by kernel_rfl) (4::5::6::7::13::14::15::16::17::18::19::20::21::22::23::24::25::26::27::28::29::30::31::32::33::34::35::36::37::38::39::40::41::42::43::44::45::46::47::48::49::50::51::52::53::54::55::56::57::58::59::60::61::[]) [] (fun m_ s_ σ_ n_=>∃ (u:Nat),m_=a.length - u∧s_ 5=.lit (.int .i64 u)∧(u≤a.length)∧(a.take u=b.take u)) ⟨_,0,rfl,WF,WC,WC⟩ ?_
  intro m_1 s_1 σ_1 n_1 hs_1 hf_1 hn_1 hI_1
  obtain ⟨u,hm_1,h1_5,hu,heq⟩:=hI_1
  have h1_0:=KS hs_1 0
  have h1_1:=KS hs_1 1
  have hlow:=KL (N:=N) (σ:=σ) hf_1
  by_cases hul:u=a.length
  ·have:a=b:=by
    rw [hul,List.take_length,hl,List.take_length] at heq;exact heq
   rw [decide_eq_true this]
   subst hul
   clear heq this
   exact W0
  ·have hui:u < a.length:=by omega
   have hub:u < b.length:=by omega
   obtain ⟨x,hx⟩:∃ x,a[u]=x:=⟨_,rfl⟩
   obtain ⟨y,hy⟩:∃ y,b[u]=y:=⟨_,rfl⟩
   obtain ⟨x1,x2⟩:=ha x (by rw [← hx];exact List.getElem_mem hui)
   obtain ⟨y1,y2⟩:=hb y (by rw [← hy];exact List.getElem_mem hub)
   have hne:¬ x=y→a≠b:=fun hxy e=>hxy (by subst e;rw [← hx,← hy])
   have heq2:x=y→a.take (u+1)=b.take (u+1):=fun hxy=>by
    rw [List.take_add_one,List.take_add_one,List.getElem?_eq_getElem hui,List.getElem?_eq_getElem hub,hx,hy,heq,hxy]
   have c1:=vG x.ticket y.ticket oo
   have c2:=vG x.box y.box oo
   clear heq ha hb
   by_cases h1:x.third=y.third
   rotate_left
   ·rw [decide_eq_false (hne (fun e=>h1 (by rw [e])))]
    have f1:(x.third == y.third)=false:=by simp [h1]
    clear c1 c2 hne heq2
    exact W0
   by_cases h2:x.first=y.first
   rotate_left
   ·rw [decide_eq_false (hne (fun e=>h2 (by rw [e])))]
    have f1:(x.third == y.third)=true:=by simp [h1]
    have f2:decide (x.first=y.first)=false:=decide_eq_false h2
    clear c1 c2 hne heq2
    exact W0
   by_cases h3:x.party=y.party
   rotate_left
   ·rw [decide_eq_false (hne (fun e=>h3 (by rw [e])))]
    have f1:(x.third == y.third)=true:=by simp [h1]
    have f2:decide (x.first=y.first)=true:=decide_eq_true h2
    have f3:(x.party != y.party)=true:=by simp [h3]
    clear c1 c2 hne heq2
    exact W0
   have f1:(x.third == y.third)=true:=by simp [h1]
   have f2:decide (x.first=y.first)=true:=decide_eq_true h2
   have f3:(x.party != y.party)=false:=by simp [h3]
   by_cases h4:x.ticket=y.ticket
   rotate_left
   ·rw [decide_eq_false h4] at c1
    rw [decide_eq_false (hne (fun e=>h4 (by rw [e])))]
    have hcs:=And.intro c1 True.intro
    clear c1 c2 hne heq2
    exact W0
   rw [decide_eq_true h4] at c1
   by_cases h5:x.box=y.box
   rotate_left
   ·rw [decide_eq_false h5] at c2
    rw [decide_eq_false (hne (fun e=>h5 (by rw [e])))]
    have hcs:=And.intro c1 (And.intro c2 True.intro)
    clear c1 c2 hne heq2
    exact W0
   rw [decide_eq_true h5] at c2
   have hxy:x=y:=by
    obtain ⟨p1,p2,p3,p4,p5⟩:=x
    obtain ⟨q1,q2,q3,q4,q5⟩:=y
    simp only at h1 h2 h3 h4 h5
    rw [h1,h2,h3,h4,h5]
   have heq3:=heq2 hxy
   have hcs:=And.intro c1 (And.intro c2 True.intro)
   clear c1 c2 hne heq2 hxy
   refine Wk ?_
   exact ⟨WS,WG,WN,_,(show a.length - (u+1) < m_1 by omega),u+1,rfl,WF,WC,WC⟩
 ·have hne:a≠b:=fun e=>hl (by rw [e])
  have hlb:((a.length:Int) != (b.length:Int))=true:=by simp;omega
  rw [decide_eq_false hne]
  refine Bd func51 ntmps51 fun σ N hp hpn hk hkn hfree=>?_
  exact W0
theorem zcE:zC bo0=.agg [.slice none [],.slice none [],zd zeroTag]:=rfl
theorem ACall.addPre {P:Program} {f:FuncId} {args:List AV} {k:Nat} {r:AV} (h:ACall P f args k [] r []) (a:Nat) (E:Ent) (hE:E≠.none):ACall P f args k [(a,E)] r []:=
 ⟨h.1,fun p hp=>by simp at hp;subst hp;exact hE,fun q hq=>absurd hq List.not_mem_nil,fun W0 g σ n w vals hS hl hv hk hn _=>h.2.2.2 W0 g σ n w vals hS hl hv hk hn (fun p hp=>absurd hp List.not_mem_nil)⟩
def ixF {α:Type} (q:α→Bool):List α→Nat→Int
 | [],_=>-1
 | e::r,u=>if q e=true then u else ixF q r (u+1)
theorem xx {α:Type} (q:α→Bool):∀ (l:List α) (u:Nat),decide (0≤ixF q l u)=l.any q
 | [],_=>rfl
 | e::r,u=>by
  rw [ixF,List.any_cons]
  cases h:q e with
  | true=>simp
  | false=>simp only [Bool.false_eq_true,if_false,Bool.false_or];exact xx q r (u+1)
theorem vC {α:Type} (q:α→Bool):∀ (l:List α) (u:Nat),-1≤ixF q l u
 | [],_=>by simp [ixF]
 | e::r,u=>by
  rw [ixF]
  split
  ·omega
  ·exact vC q r (u+1)
theorem zap (l:List Bo) (q:Bo→Bool) (f:FuncId) (a:Nat) (E:Ent) (hE:E≠.none) (hf:∀ x∈l,∀ k,ACall prog f [zC x] k [(a,E)] (.lit (.bool (q x))) []) (hl:l.length≤9223372036854775807) (k:Nat):
  ACall prog 152 [.slice none (l.map zC),.fn f []] k [(a,E)] (.lit (.int .i64 (ixF q l 0))) []:=by
 obtain ⟨R,hR⟩:∃ R,ixF q l 0=R:=⟨_,rfl⟩
 rw [hR]
 have hdr:l.drop 0=l:=rfl
 refine Bd (hpre:=by simp [hE]) func152 ntmps152 fun σ N hp hpn hk hkn hfree=>?_
 obtain ⟨hd,hdn⟩:=HD0 hp hpn;clear hp hpn
 refine Wk ?_
 refine ze zi (by kernel_rfl) [4,5,8,9,10,11,12,13,14,15,16,17,18] [] (fun m_ s_ σ_ n_=>∃ (u:Nat),m_=l.length - u∧s_ 8=.lit (.int .i64 u)∧(u≤l.length)∧(ixF q (l.drop u) u=R)) ⟨_,0,rfl,WF,WC,WC⟩ ?_
 intro m_1 s_1 σ_1 n_1 hs_1 hf_1 hn_1 hI_1
 obtain ⟨u,hm_1,h1_8,hu,hno⟩:=hI_1
 have h1_0:=KS hs_1 0
 have h1_1:=KS hs_1 1
 have h1_7:=KS hs_1 7
 have k1_0:=KE hf_1 (a)
 have hlow:=KL (N:=N) (σ:=σ) hf_1
 clear hR hdr
 by_cases hul:u=l.length
 ·subst hul
  rw [List.drop_length] at hno
  simp only [ixF] at hno
  subst hno
  clear hf
  exact W0
 ·have hu1:u < l.length:=by omega
  rw [List.drop_eq_getElem_cons hu1,ixF] at hno
  have c1:=hf _ (List.getElem_mem hu1)
  obtain ⟨z,hz⟩:∃ z,l[u]=z:=⟨_,rfl⟩
  rw [hz] at hno c1
  cases hc:q z with
  | true=>
   rw [if_pos hc] at hno
   subst hno
   rw [hc] at c1
   have hcs:=And.intro c1 True.intro
   clear c1 hf hc
   exact W0
  | false=>
   rw [if_neg (by rw [hc];simp)] at hno
   rw [hc] at c1
   have hcs:=And.intro c1 True.intro
   clear c1 hf hc
   refine Wk ?_
   exact ⟨WS,WG,WN,_,(show l.length - (u+1) < m_1 by omega),u+1,rfl,WF,WC,WC⟩
theorem va (l:List Bo) (q:Bo→Bool) (f:FuncId) (a:Nat) (E:Ent) (hE:E≠.none) (hf:∀ x∈l,∀ k,ACall prog f [zC x] k [(a,E)] (.lit (.bool (q x))) []) (hl:l.length≤9223372036854775807) (k:Nat):
  ACall prog 84 [.slice none (l.map zC),.fn f []] k [(a,E)] (.lit (.bool (l.any q))) []:=by
 have c1:=zap l q f a E hE hf hl
 have h1:=xx q l 0
 have h2:=vC q l 0
 rw [← h1]
 generalize ixF q l 0=R at *
 clear h1 hf
 refine Bd (hpre:=by simp [hE]) func84 ntmps84 fun σ N hp hpn hk hkn hfree=>?_
 obtain ⟨hd,hdn⟩:=HD0 hp hpn;clear hp hpn
 have hcs:=And.intro c1 True.intro
 clear c1
 exact W0
theorem qG (l:List Bo) (q:Bo→Bool) (f:FuncId) (a:Nat) (E:Ent) (hE:E≠.none) (hf:∀ x∈l,∀ k,ACall prog f [zC x,.ptr a [] 0] k [(a,E)] (.lit (.bool (q x))) []) (hl:l.length≤9223372036854775807) (k:Nat):
  ACall prog 152 [.slice none (l.map zC),.fn f [.ptr a [] 0]] k [(a,E)] (.lit (.int .i64 (ixF q l 0))) []:=by
 obtain ⟨R,hR⟩:∃ R,ixF q l 0=R:=⟨_,rfl⟩
 rw [hR]
 have hdr:l.drop 0=l:=rfl
 refine Bd (hpre:=by simp [hE]) func152 ntmps152 fun σ N hp hpn hk hkn hfree=>?_
 obtain ⟨hd,hdn⟩:=HD0 hp hpn;clear hp hpn
 refine Wk ?_
 refine ze zi (by kernel_rfl) [4,5,8,9,10,11,12,13,14,15,16,17,18] [] (fun m_ s_ σ_ n_=>∃ (u:Nat),m_=l.length - u∧s_ 8=.lit (.int .i64 u)∧(u≤l.length)∧(ixF q (l.drop u) u=R)) ⟨_,0,rfl,WF,WC,WC⟩ ?_
 intro m_2 s_2 σ_2 n_2 hs_2 hf_2 hn_2 hI_2
 obtain ⟨u,hm_2,h2_8,hu,hno⟩:=hI_2
 have h2_0:=KS hs_2 0
 have h2_1:=KS hs_2 1
 have h2_7:=KS hs_2 7
 have k2_0:=KE hf_2 (a)
 have hlow:=KL (N:=N) (σ:=σ) hf_2
 clear hR hdr
 by_cases hul:u=l.length
 ·subst hul
  rw [List.drop_length] at hno
  simp only [ixF] at hno
  subst hno
  clear hf
  exact W0
 ·have hu1:u < l.length:=by omega
  rw [List.drop_eq_getElem_cons hu1,ixF] at hno
  have c1:=hf _ (List.getElem_mem hu1)
  obtain ⟨z,hz⟩:∃ z,l[u]=z:=⟨_,rfl⟩
  rw [hz] at hno c1
  cases hc:q z with
  | true=>
   rw [if_pos hc] at hno
   subst hno
   rw [hc] at c1
   have hcs:=And.intro c1 True.intro
   clear c1 hf hc
   exact W0
  | false=>
   rw [if_neg (by rw [hc];simp)] at hno
   rw [hc] at c1
   have hcs:=And.intro c1 True.intro
   clear c1 hf hc
   refine Wk ?_
   exact ⟨WS,WG,WN,_,(show l.length - (u+1) < m_2 by omega),u+1,rfl,WF,WC,WC⟩
theorem wx (l:List Bo) (q:Bo→Bool) (f:FuncId) (a:Nat) (E:Ent) (hE:E≠.none) (hf:∀ x∈l,∀ k,ACall prog f [zC x,.ptr a [] 0] k [(a,E)] (.lit (.bool (q x))) []) (hl:l.length≤9223372036854775807) (k:Nat):
  ACall prog 84 [.slice none (l.map zC),.fn f [.ptr a [] 0]] k [(a,E)] (.lit (.bool (l.any q))) []:=by
 have c1:=qG l q f a E hE hf hl
 have h1:=xx q l 0
 have h2:=vC q l 0
 rw [← h1]
 generalize ixF q l 0=R at *
 clear h1 hf
 refine Bd (hpre:=by simp [hE]) func84 ntmps84 fun σ N hp hpn hk hkn hfree=>?_
 obtain ⟨hd,hdn⟩:=HD0 hp hpn;clear hp hpn
 have hcs:=And.intro c1 True.intro
 clear c1
 exact W0
theorem zar (l:List Pr) (q:Pr→Bool) (f:FuncId) (a:Nat) (E:Ent) (hE:E≠.none) (hf:∀ x∈l,∀ k,ACall prog f [zU x] k [(a,E)] (.lit (.bool (q x))) []) (hl:l.length≤9223372036854775807) (k:Nat):
  ACall prog 262 [.slice none (l.map zU),.fn f []] k [(a,E)] (.lit (.int .i64 (ixF q l 0))) []:=by
 obtain ⟨R,hR⟩:∃ R,ixF q l 0=R:=⟨_,rfl⟩
 rw [hR]
 have hdr:l.drop 0=l:=rfl
 refine Bd (hpre:=by simp [hE]) func262 ntmps262 fun σ N hp hpn hk hkn hfree=>?_
 obtain ⟨hd,hdn⟩:=HD0 hp hpn;clear hp hpn
 refine Wk ?_
 refine ze zi (by kernel_rfl) [4,5,8,9,10,11,12,13,14,15,16,17,18] [] (fun m_ s_ σ_ n_=>∃ (u:Nat),m_=l.length - u∧s_ 8=.lit (.int .i64 u)∧(u≤l.length)∧(ixF q (l.drop u) u=R)) ⟨_,0,rfl,WF,WC,WC⟩ ?_
 intro m_3 s_3 σ_3 n_3 hs_3 hf_3 hn_3 hI_3
 obtain ⟨u,hm_3,h3_8,hu,hno⟩:=hI_3
 have h3_0:=KS hs_3 0
 have h3_1:=KS hs_3 1
 have h3_7:=KS hs_3 7
 have k3_0:=KE hf_3 (a)
 have hlow:=KL (N:=N) (σ:=σ) hf_3
 clear hR hdr
 by_cases hul:u=l.length
 ·subst hul
  rw [List.drop_length] at hno
  simp only [ixF] at hno
  subst hno
  clear hf
  exact W0
 ·have hu1:u < l.length:=by omega
  rw [List.drop_eq_getElem_cons hu1,ixF] at hno
  have c1:=hf _ (List.getElem_mem hu1)
  obtain ⟨z,hz⟩:∃ z,l[u]=z:=⟨_,rfl⟩
  rw [hz] at hno c1
  cases hc:q z with
  | true=>
   rw [if_pos hc] at hno
   subst hno
   rw [hc] at c1
   have hcs:=And.intro c1 True.intro
   clear c1 hf hc
   exact W0
  | false=>
   rw [if_neg (by rw [hc];simp)] at hno
   rw [hc] at c1
   have hcs:=And.intro c1 True.intro
   clear c1 hf hc
   refine Wk ?_
   exact ⟨WS,WG,WN,_,(show l.length - (u+1) < m_3 by omega),u+1,rfl,WF,WC,WC⟩
theorem wq (l:List Pr) (q:Pr→Bool) (f:FuncId) (a:Nat) (E:Ent) (hE:E≠.none) (hf:∀ x∈l,∀ k,ACall prog f [zU x] k [(a,E)] (.lit (.bool (q x))) []) (hl:l.length≤9223372036854775807) (k:Nat):
  ACall prog 250 [.slice none (l.map zU),.fn f []] k [(a,E)] (.lit (.bool (l.any q))) []:=by
 have c1:=zar l q f a E hE hf hl
 have h1:=xx q l 0
 have h2:=vC q l 0
 rw [← h1]
 generalize ixF q l 0=R at *
 clear h1 hf
 refine Bd (hpre:=by simp [hE]) func250 ntmps250 fun σ N hp hpn hk hkn hfree=>?_
 obtain ⟨hd,hdn⟩:=HD0 hp hpn;clear hp hpn
 have hcs:=And.intro c1 True.intro
 clear c1
 exact W0
theorem zaq (l:List Ca) (q:Ca→Bool) (f:FuncId) (a:Nat) (E:Ent) (hE:E≠.none) (hf:∀ x∈l,∀ k,ACall prog f [z8 x] k [(a,E)] (.lit (.bool (q x))) []) (hl:l.length≤9223372036854775807) (k:Nat):
  ACall prog 247 [.slice none (l.map z8),.fn f []] k [(a,E)] (.lit (.int .i64 (ixF q l 0))) []:=by
 obtain ⟨R,hR⟩:∃ R,ixF q l 0=R:=⟨_,rfl⟩
 rw [hR]
 have hdr:l.drop 0=l:=rfl
 refine Bd (hpre:=by simp [hE]) func247 ntmps247 fun σ N hp hpn hk hkn hfree=>?_
 obtain ⟨hd,hdn⟩:=HD0 hp hpn;clear hp hpn
 refine Wk ?_
 refine ze zi (by kernel_rfl) [4,5,8,9,10,11,12,13,14,15,16,17,18] [] (fun m_ s_ σ_ n_=>∃ (u:Nat),m_=l.length - u∧s_ 8=.lit (.int .i64 u)∧(u≤l.length)∧(ixF q (l.drop u) u=R)) ⟨_,0,rfl,WF,WC,WC⟩ ?_
 intro m_4 s_4 σ_4 n_4 hs_4 hf_4 hn_4 hI_4
 obtain ⟨u,hm_4,h4_8,hu,hno⟩:=hI_4
 have h4_0:=KS hs_4 0
 have h4_1:=KS hs_4 1
 have h4_7:=KS hs_4 7
 have k4_0:=KE hf_4 (a)
 have hlow:=KL (N:=N) (σ:=σ) hf_4
 clear hR hdr
 by_cases hul:u=l.length
 ·subst hul
  rw [List.drop_length] at hno
  simp only [ixF] at hno
  subst hno
  clear hf
  exact W0
 ·have hu1:u < l.length:=by omega
  rw [List.drop_eq_getElem_cons hu1,ixF] at hno
  have c1:=hf _ (List.getElem_mem hu1)
  obtain ⟨z,hz⟩:∃ z,l[u]=z:=⟨_,rfl⟩
  rw [hz] at hno c1
  cases hc:q z with
  | true=>
   rw [if_pos hc] at hno
   subst hno
   rw [hc] at c1
   have hcs:=And.intro c1 True.intro
   clear c1 hf hc
   exact W0
  | false=>
   rw [if_neg (by rw [hc];simp)] at hno
   rw [hc] at c1
   have hcs:=And.intro c1 True.intro
   clear c1 hf hc
   refine Wk ?_
   exact ⟨WS,WG,WN,_,(show l.length - (u+1) < m_4 by omega),u+1,rfl,WF,WC,WC⟩
theorem jh (l:List Ca) (q:Ca→Bool) (f:FuncId) (a:Nat) (E:Ent) (hE:E≠.none) (hf:∀ x∈l,∀ k,ACall prog f [z8 x] k [(a,E)] (.lit (.bool (q x))) []) (hl:l.length≤9223372036854775807) (k:Nat):
  ACall prog 216 [.slice none (l.map z8),.fn f []] k [(a,E)] (.lit (.bool (l.any q))) []:=by
 have c1:=zaq l q f a E hE hf hl
 have h1:=xx q l 0
 have h2:=vC q l 0
 rw [← h1]
 generalize ixF q l 0=R at *
 clear h1 hf
 refine Bd (hpre:=by simp [hE]) func216 ntmps216 fun σ N hp hpn hk hkn hfree=>?_
 obtain ⟨hd,hdn⟩:=HD0 hp hpn;clear hp hpn
 have hcs:=And.intro c1 True.intro
 clear c1
 exact W0
attribute [local irreducible] yE
theorem qP (a:Alg) (e:Nat) (h:e≠0) (d r1 r2 k:Nat):
  ACall prog 101 [.ptr d [] 0] k (vA a e d r1 r2) (.tup [zA wZ,.lit (.int .i64 (e:Nat))]) []:=by
 obtain ⟨fr,sd,fs,L,B⟩:=a
 unfold vA zcM zbN
 simp only [zZ]
 have h1:decide ((e:Int)=0)=false:=decide_eq_false oo
 have h2:((e:Int) != 0)=true:=by simp;omega
 refine Bd (hpre:=by simp [zP,zO]) func101 ntmps101 fun σ N hp hpn hk hkn hfree=>?_
 simp only [List.mem_cons,List.not_mem_nil,or_false,forall_eq_or_imp,forall_eq] at hp hpn;obtain ⟨hd1,hd2,hd3⟩:=hp;obtain ⟨hdn1,hdn2,hdn3⟩:=hpn
 refine Wk ?_
 refine vn (by simp (disch:=omega) [go_sem, *,-List.reduceReplicate];rfl) (by exact AV.sub_tup (.cons (AV.sub_agg (by repeat' first | exact ALe.nil | exact AV.le_refl _ | apply ALe.cons | ((first | apply AV.le_slices | apply AV.le_nilsE | apply AV.le_clipE);first | rfl | (simp (disch:=omega) [go_sem, *,-List.reduceReplicate];done)))) (by repeat' first | exact ALe.nil | exact AV.le_refl _ | apply ALe.cons | ((first | apply AV.le_slices | apply AV.le_nilsE | apply AV.le_clipE);first | rfl | (simp (disch:=omega) [go_sem, *,-List.reduceReplicate];done))))) (by simp (disch:=omega) [go_sem];try rfl) (fun id hid=>by simp (disch:=omega) only [zg];try exact hlow id hid)
end Go.Proofs.YtglmjglbobhbbaaGreatDoor
namespace Go.Proofs.YtglmjglbobhbbaaGreatDoor
open _root_.Go.Proofs.Tryz
open Go.Ab
attribute [local irreducible] Go.Ab.tyAV Go.Ab.aw Go.Ab.aops Go.Ab.kReg Go.Ab.aThen Go.Ab.aBlk Go.Ab.acond Go.Ab.aguard Go.Ab.astep Go.Ab.AStepX Go.Ab.aRet
theorem zb5 (b:List UInt8) (hl:b.length≤140737488351232) (k:Nat):
  ACall prog 122 [.slice none (b.map za)] k [] (.ms k 1 1 0 b.length) [(k,.mrow 1 5 1 (b.map za))]:=by
 cases b with
 | cons x r=>exact zfn (x::r) rfl hl k
 | nil=>
  refine ACall.empty fun A c=>?_
  cases A with
  | none=>exact ACall.nilM (by decide) (zf8 c k)
  | some A=>exact zd0 A c k
theorem znH (p:Pr) (hp0:PrOk p) (h:yc p=false) (d k:Nat):
  ACall prog 226 [zU p] k [(d,zS)] (.tup [.nils,.lit (.int .i64 5)]) []:=by
 have c1:=xZ p hp0 d
 rw [h] at c1
 refine Bd func226 ntmps226 fun σ N hp hpn hk hkn hfree=>?_
 obtain ⟨hd,hdn⟩:=HD0 hp hpn;clear hp hpn
 have hcs:=And.intro c1 True.intro
 clear c1
 exact W0
attribute [local irreducible] yE
theorem zex (n:Nat) (h:n≤281474976710656) (k:Nat):
  ACall prog 177 [.lit (.int .i64 n)] k [] (.slice none ((yX n).map za)) []:=by
 have c1:=yU [] (by simp) n h
 have hl:=zh n 7 oo
 have c2:=yH [109,105,110,116] (leb n) (by decide) oo
 unfold yX
 simp only [List.map_nil,List.nil_append] at c1
 generalize leb n=lb at *
 obtain ⟨M,hM⟩:∃ M,[109,105,110,116]++lb=M:=⟨_,rfl⟩
 rw [hM] at c2 ⊢
 clear hM
 refine Bd func177 ntmps177 fun σ N hp hpn hk hkn hfree=>?_
 have hcs:=And.intro c1 (And.intro c2 True.intro)
 clear c1 c2
 exact W0
end Go.Proofs.YtglmjglbobhbbaaGreatDoor
namespace Go.Proofs.YtglmjglbobhbbaaGreatDoor
open _root_.Go.Proofs.Tryz
open Go.Ab
attribute [local irreducible] Go.Ab.tyAV Go.Ab.aw Go.Ab.aops Go.Ab.kReg Go.Ab.aThen Go.Ab.aBlk Go.Ab.acond Go.Ab.aguard Go.Ab.astep Go.Ab.AStepX Go.Ab.aRet
theorem yR (ns:List Nat) (bs:List UInt8) (h0:0 < ns.length) (hb:bs.length+8 * ns.length≤1000000) (hn:∀ n∈ns,n≤281474976710656) (R:List UInt8) (hR:bs++ns.flatMap leb=R) (k:Nat):
  ACall prog 222 [.slice none (bs.map za),natsAV ns] k [] (.slice (some k) (R.map za)) [(k,.row 5 1 R.length)]:=by
 refine Bd func222 ntmps222 fun σ N hp hpn hk hkn hfree=>?_
 refine Wk ?_
 refine zeY (ns.length) (N) zi (by kernel_rfl) [0,6,9,10,11,12,13,14,15,16,17,18,19] [] (fun s_ σ_ n_=>s_ 9=.lit (.int .i64 0)∧s_ 0=.slice none (bs.map za)∧True) (fun m_ s_ σ_ n_=>∃ (u:Nat) (q:Nat) (acc:List UInt8),m_=ns.length - u∧s_ 9=.lit (.int .i64 u)∧s_ 0=.slice (some q) (acc.map za)∧σ_ (q)=.row 5 1 acc.length∧(u≤ns.length)∧(acc.length≤bs.length+8 * u)∧(acc=bs++(ns.take u).flatMap leb)∧(N≤q)∧(q < n_)) ⟨WF,WF,trivial⟩ ?_ ?_
 ·intro s_1 σ_1 n_1 hs_1 hf_1 hn_1 hI_1
  obtain ⟨h1_9,h1_0,-⟩:=hI_1
  have h1_4:=KS hs_1 4
  have h1_7:=KS hs_1 7
  have h1_8:=KS hs_1 8
  have hlow:=KL (N:=N) (σ:=σ) hf_1
  obtain ⟨c,hc⟩:∃ c,ns[0]=c:=⟨_,rfl⟩
  have hcn:c≤281474976710656:=hn c (by rw [← hc];exact List.getElem_mem h0)
  have hcl:=zh c 7 oo
  have c1:=wN bs oo c hcn
  have hacc2:bs++leb c=bs++(ns.take (0+1)).flatMap leb:=by
   rw [List.take_add_one,List.getElem?_eq_getElem h0,hc]
   simp
  have hal2:(bs++leb c).length≤bs.length+8 * (0+1):=by rw [List.length_append];omega
  have hll:bs.length+(leb c).length=(bs++leb c).length:=by simp
  rw [hll] at c1
  generalize bs++leb c=acc2 at *
  have hcs:=And.intro c1 True.intro
  clear c1 hll hR
  refine Wk ?_
  exact ⟨WS,WG,WN,_,(show ns.length - (1) < (ns.length) by omega),1,_,acc2,rfl,WF,WF,WF,WC,WC,WC,WC,WC⟩
 intro m_1 s_1 σ_1 n_1 hs_1 hf_1 hn_1 hI_1
 obtain ⟨u,q,acc,hm_1,h1_9,h1_0,e1_0,hu,hal,hacc,hq,hqn⟩:=hI_1
 have h1_4:=KS hs_1 4
 have h1_7:=KS hs_1 7
 have h1_8:=KS hs_1 8
 have hlow:=KL (N:=N) (σ:=σ) hf_1
 by_cases hul:u=ns.length
 ·rw [hul,List.take_length,hR] at hacc
  subst hul hacc
  clear hR
  refine Wk ?_
  refine zQ (r0:=q) (by simp (disch:=omega) [go_sem, *,-List.reduceReplicate];rfl) oo (by simp (disch:=omega) [go_sem];try rfl) (fun id hid=>by simp (disch:=omega) only;try exact hlow id hid) (by simp (disch:=omega) [go_sem, *,-List.reduceReplicate];rfl) (by simp (disch:=omega) [go_sem])
 ·have hui:u < ns.length:=by omega
  obtain ⟨c,hc⟩:∃ c,ns[u]=c:=⟨_,rfl⟩
  have hcn:c≤281474976710656:=hn c (by rw [← hc];exact List.getElem_mem hui)
  have hcl:=zh c 7 oo
  have c1:=wN acc oo c hcn
  have hacc2:acc++leb c=bs++(ns.take (u+1)).flatMap leb:=by
   rw [List.take_add_one,List.getElem?_eq_getElem hui,hc,hacc]
   simp
  have hal2:(acc++leb c).length≤bs.length+8 * (u+1):=by rw [List.length_append];omega
  have hll:acc.length+(leb c).length=(acc++leb c).length:=by simp
  rw [hll] at c1
  clear hacc hll hR
  generalize acc++leb c=acc2 at *
  have hcs:=And.intro c1 True.intro
  clear c1
  refine Wk ?_
  exact ⟨WS,WG,WN,_,(show ns.length - (u+1) < m_1 by omega),u+1,_,acc2,rfl,WF,WF,WF,WC,WC,WC,WC,WC⟩
theorem yA {α:Type} (f:α→List UInt8):∀ (l:List α) (u:Nat),((l.take u).flatMap f).length≤(l.flatMap f).length
 | [],_=>by simp
 | x::r,0=>by simp
 | x::r,u+1=>by
  have:=yA f r u
  simp only [List.take_succ_cons,List.flatMap_cons,List.length_append];omega
theorem qU (bs:List UInt8) (l:List Pr) (hv:∀ p∈l,yc p=true∧PrOk p) (hl:l.length≤100) (hb:bs.length≤1000000) (R:List UInt8) (hR:bs++l.flatMap xH=R) (r d k:Nat) (hrd:r≠d):
  ACall prog 225 [.slice (some r) (bs.map za),.slice none (l.map zU)] k [(r,.row 5 1 bs.length),(d,zS)] (.slice (some r) (R.map za)) [(r,.row 5 1 R.length)]:=by
 have h0:bs++(l.take 0).flatMap xH=bs:=by simp
 refine Bd func225 ntmps225 fun σ N hp hpn hk hkn hfree=>?_
 simp only [List.mem_cons,List.not_mem_nil,or_false,forall_eq_or_imp,forall_eq] at hp hpn;obtain ⟨hd1,hd2⟩:=hp;obtain ⟨hdn1,hdn2⟩:=hpn
 refine Wk ?_
 refine yn (N) zi (by kernel_rfl) [0,6,7,8,11,12,13,14,15,16,17,18,19,20,21,22,23] [r] (fun m_ s_ σ_ n_=>∃ (u:Nat) (acc:List UInt8),m_=l.length - u∧s_ 11=.lit (.int .i64 u)∧s_ 0=.slice (some r) (acc.map za)∧σ_ (r)=.row 5 1 acc.length∧(u≤l.length)∧(acc.length≤bs.length+40 * u)∧(bs++(l.take u).flatMap xH=acc)) ⟨_,0,bs,rfl,WF,WF,WF,WC,WC,WC⟩ ?_
 intro m_1 s_1 σ_1 n_1 hs_1 hf_1 hn_1 hI_1
 obtain ⟨u,acc,hm_1,h1_11,h1_0,e1_0,hu,hal,hacc⟩:=hI_1
 have h1_4:=KS hs_1 4
 have h1_9:=KS hs_1 9
 have h1_10:=KS hs_1 10
 have k1_0:=KE hf_1 (d)
 have hlow:=KD (N:=N) (d:=r) (σ:=σ) hf_1
 clear h0
 by_cases hul:u=l.length
 ·rw [hul,List.take_length,hR] at hacc
  subst hul hacc
  clear hR hv
  refine Wk ?_
  exact RW (r) (.row 5 1 R.length)
 ·have hui:u < l.length:=by omega
  have hv1:=hv _ (List.getElem_mem hui)
  obtain ⟨c,hc⟩:∃ c,l[u]=c:=⟨_,rfl⟩
  rw [hc] at hv1
  have hcl:=yS c hv1.1
  have c1:=zcD c hv1.2 hv1.1 d
  have hacc2:acc++xH c=bs++(l.take (u+1)).flatMap xH:=by
   rw [List.take_add_one,List.getElem?_eq_getElem hui,hc,← hacc]
   simp
  have hal2:(acc++xH c).length≤bs.length+40 * (u+1):=by rw [List.length_append];omega
  have hll:acc.length+(xH c).length=(acc++xH c).length:=by simp
  have hmm:acc.map za++(xH c).map za=(acc++xH c).map za:=by simp
  have hacc3:=hacc2.symm
  clear hacc hR hv hacc2
  generalize xH c=X at *
  have hXl:X.length≤40:=hcl.2
  have hb2:acc.length+X.length≤140737488355328:=by omega
  generalize hA2:acc++X=acc2 at *
  have hcs:=And.intro c1 True.intro
  clear c1 hA2
  refine Wk ?_
  exact ⟨WS,WG,WN,_,(show l.length - (u+1) < m_1 by omega),u+1,acc2,rfl,WF,WF,WF,WC,WC,WC⟩
theorem jj (bs:List UInt8) (l:List Ca) (hv:∀ p∈l,xz p=true∧PrOk p.first) (hl:l.length≤100) (R:List UInt8) (hR:bs++l.flatMap xk=R) (hRl:R.length≤10000000) (r d k:Nat) (hrd:r≠d):
  ACall prog 223 [.slice (some r) (bs.map za),.slice none (l.map z8)] k [(r,.row 5 1 bs.length),(d,zS)] (.slice (some r) (R.map za)) [(r,.row 5 1 R.length)]:=by
 have h0:bs++(l.take 0).flatMap xk=bs:=by simp
 have hpre:∀ u,(bs++(l.take u).flatMap xk).length≤R.length:=fun u=>by
  rw [← hR,List.length_append,List.length_append]
  have:=yA xk l u
  omega
 have hbR:bs.length≤R.length:=by rw [← hR,List.length_append];omega
 refine Bd func223 ntmps223 fun σ N hp hpn hk hkn hfree=>?_
 simp only [List.mem_cons,List.not_mem_nil,or_false,forall_eq_or_imp,forall_eq] at hp hpn;obtain ⟨hd1,hd2⟩:=hp;obtain ⟨hdn1,hdn2⟩:=hpn
 refine Wk ?_
 refine yn (N) zi (by kernel_rfl) [0,6,7,8,11,12,13,14,15,16,17,18,19,20,21,22,23] [r] (fun m_ s_ σ_ n_=>∃ (u:Nat) (acc:List UInt8),m_=l.length - u∧s_ 11=.lit (.int .i64 u)∧s_ 0=.slice (some r) (acc.map za)∧σ_ (r)=.row 5 1 acc.length∧(u≤l.length)∧(acc.length≤R.length)∧(bs++(l.take u).flatMap xk=acc)) ⟨_,0,bs,rfl,WF,WF,WF,WC,WC,WC⟩ ?_
 intro m_2 s_2 σ_2 n_2 hs_2 hf_2 hn_2 hI_2
 obtain ⟨u,acc,hm_2,h2_11,h2_0,e2_0,hu,hal,hacc⟩:=hI_2
 have h2_4:=KS hs_2 4
 have h2_9:=KS hs_2 9
 have h2_10:=KS hs_2 10
 have k2_0:=KE hf_2 (d)
 have hlow:=KD (N:=N) (d:=r) (σ:=σ) hf_2
 clear h0
 by_cases hul:u=l.length
 ·rw [hul,List.take_length,hR] at hacc
  subst hul hacc
  clear hR hv hpre
  refine Wk ?_
  exact RW (r) (.row 5 1 R.length)
 ·have hui:u < l.length:=by omega
  have hv1:=hv _ (List.getElem_mem hui)
  obtain ⟨c,hc⟩:∃ c,l[u]=c:=⟨_,rfl⟩
  rw [hc] at hv1
  have hcl:=wh c hv1.1
  have c1:=zhj c hv1.2 hv1.1 d
  have hacc2:acc++xk c=bs++(l.take (u+1)).flatMap xk:=by
   rw [List.take_add_one,List.getElem?_eq_getElem hui,hc,← hacc]
   simp
  have hal2:(acc++xk c).length≤R.length:=by rw [hacc2];exact hpre (u+1)
  have hab:acc.length≤10000000:=by omega
  have hll:acc.length+(xk c).length=(acc++xk c).length:=by simp
  have hmm:acc.map za++(xk c).map za=(acc++xk c).map za:=by simp
  have hacc3:=hacc2.symm
  clear hacc hR hv hacc2 hpre hbR
  generalize xk c=X at *
  have hXl:X.length≤3000:=hcl.2
  clear hcl
  have hb2:acc.length+X.length≤140737488355328:=by omega
  clear hXl hab
  generalize hA2:acc++X=acc2 at *
  have hcs:=And.intro c1 True.intro
  clear c1 hA2
  refine Wk ?_
  exact ⟨WS,WG,WN,_,(show l.length - (u+1) < m_2 by omega),u+1,acc2,rfl,WF,WF,WF,WC,WC,WC⟩
attribute [local irreducible] yE
theorem xA (g n:Nat) (hg:g≤281474976710656) (hn:n≤281474976710656) (k:Nat):
  ACall prog 197 [.agg [.lit (.int .i64 g),.lit (.int .i64 n)]] k [] (.slice none ((leb g++leb n).map za)) []:=by
 have c1:=fun k=>wO g k oo
 have c2:=fun k=>ym n k oo
 have h1:=zh g 7 oo
 have h2:=zh n 7 oo
 rw [List.map_append]
 generalize leb g=G at *
 generalize leb n=Nn at *
 refine Bd func197 ntmps197 fun σ N hp hpn hk hkn hfree=>?_
 have hcs:=And.intro c1 (And.intro c2 True.intro)
 clear c1 c2
 exact WM
theorem wF (leaf:Tg) (g n:Nat) (hg:g≤281474976710656) (hn:n≤281474976710656) (k:Nat):
  ACall prog 198 [zd leaf,.agg [.lit (.int .i64 g),.lit (.int .i64 n)]] k [] (.slice none ((y8 leaf g n).map za)) []:=by
 have c1:=xA g n hg hn
 have h1:=zh g 7 oo
 have h2:=zh n 7 oo
 obtain ⟨R,hR⟩:∃ R,leb g++leb n=R:=⟨_,rfl⟩
 have hRl:R.length≤100:=by rw [← hR,List.length_append];omega
 unfold y8
 rw [hR] at c1 ⊢
 have c2:=vX [98,105,110,100] (leaf.1++R) (by decide) (by rw [List.length_append,leaf.2];omega)
 obtain ⟨M,hM⟩:∃ M,[98,105,110,100]++(leaf.1++R)=M:=⟨_,rfl⟩
 rw [hM] at c2 ⊢
 have hs1:=zB leaf
 have hs2:=zj leaf
 obtain ⟨K,hK⟩:=leaf
 have hkA:zd ⟨K,hK⟩=.agg (K.map za):=rfl
 simp only [hkA] at hs1 hs2 c2 ⊢
 clear hkA hM
 have hs3:AV.celll (K.map za)=true:=zX K
 have htk:(K.map za).take 32=K.map za:=List.take_of_length_le (by rw [List.length_map];omega)
 rw [List.map_append] at c2
 refine Bd func198 ntmps198 fun σ N hp hpn hk hkn hfree=>?_
 have hcs:=And.intro c1 (And.intro c2 True.intro)
 clear c1 c2
 exact W0
theorem qu (g n:Nat) (hg:g≤281474976710656) (hn:n≤281474976710656) (k:Nat):
  ACall prog 145 [.agg [.lit (.int .i64 g),.lit (.int .i64 n)]] k [] (.slice none ((kI g n).map za)) []:=by
 have c1:=xA g n hg hn
 have h1:=zh g 7 oo
 have h2:=zh n 7 oo
 obtain ⟨R,hR⟩:∃ R,leb g++leb n=R:=⟨_,rfl⟩
 have hRl:R.length≤100:=by rw [← hR,List.length_append];omega
 unfold kI
 rw [hR] at c1 ⊢
 have c2:=vX [114,101,113,117,101,115,116] R (by decide) oo
 obtain ⟨M,hM⟩:∃ M,[114,101,113,117,101,115,116]++R=M:=⟨_,rfl⟩
 rw [hM] at c2 ⊢
 clear hM
 refine Bd func145 ntmps145 fun σ N hp hpn hk hkn hfree=>?_
 have hcs:=And.intro c1 (And.intro c2 True.intro)
 clear c1 c2
 exact W0
theorem yB (r:Rq) (k:Nat):ACall prog 195 [yD r] k [] (.lit (.bool (rqB r))) []:=by
 obtain ⟨x,y⟩:=r
 unfold yD
 by_cases h1:0≤x
 ·by_cases h2:x < 8
  ·by_cases h3:1≤y
   ·by_cases h4:y≤281474976710656
    ·have hr:rqB ⟨x,y⟩=true:=by simp [rqB, *]
     rw [hr]
     refine Bd func195 ntmps195 fun σ N hp hpn hk hkn hfree=>?_
     exact W0
    ·have hr:rqB ⟨x,y⟩=false:=by simp [rqB, *]
     rw [hr]
     refine Bd func195 ntmps195 fun σ N hp hpn hk hkn hfree=>?_
     exact W0
   ·have hr:rqB ⟨x,y⟩=false:=by simp [rqB, *]
    rw [hr]
    refine Bd func195 ntmps195 fun σ N hp hpn hk hkn hfree=>?_
    exact W0
  ·have hr:rqB ⟨x,y⟩=false:=by simp [rqB, *]
   rw [hr]
   refine Bd func195 ntmps195 fun σ N hp hpn hk hkn hfree=>?_
   exact W0
 ·have hr:rqB ⟨x,y⟩=false:=by simp [rqB, *]
  rw [hr]
  refine Bd func195 ntmps195 fun σ N hp hpn hk hkn hfree=>?_
  exact W0
section
variable [W:W32]
def zgO (r:Alg × Bo × Nat):AV:=.tup [zA r.1,zC r.2.1,.lit (.int .i64 (r.2.2:Nat))]
theorem qs (a:Alg) (m:Nat) (ha:AlgIn a m) (hm:m≤900000) (d:Di) (leaf:Tg) (r:Rq) (k:Nat):
  ACall prog 146 [zA a,zw d,zd leaf,yD r] k [] (zgO (vJ a d leaf r)) []:=by
 have c1:=yB r
 unfold vJ
 cases hr:rqB r with
 | false=>
  rw [if_pos rfl]
  rw [hr] at c1
  unfold zgO
  simp only [zZ,zcE]
  clear ha
  refine Bd func146 ntmps146 fun σ N hp hpn hk hkn hfree=>?_
  have hcs:=And.intro c1 True.intro
  clear c1
  refine Wk ?_
  exact WD
 | true=>
  rw [if_neg (by simp)]
  rw [hr] at c1
  obtain ⟨⟨h1,h2⟩,h3,h4⟩:=rqB_iff.1 hr
  obtain ⟨x,y⟩:=r
  simp only at h1 h2 h3 h4 ⊢
  obtain ⟨x,rfl⟩:=Int.eq_ofNat_of_zero_le h1
  obtain ⟨y,rfl⟩:=Int.eq_ofNat_of_zero_le (show 0≤y by omega)
  simp only [Int.toNat_natCast]
  have c2:=wF leaf x y oo oo
  have c3:=qQ a d.tag (y8 leaf x y) (by have:=ha.ml;omega) ha.mm
  generalize yJ a d.tag (y8 leaf x y)=X at *
  obtain ⟨a1,t1,e1'⟩:=X
  generalize y8 leaf x y=M at *
  obtain ⟨ti,L,tg⟩:=d
  unfold zha at c3
  unfold yD at *
  simp only at c1 c3 ⊢
  clear ha hr h1 h2 h3 h4
  have hdA:zw ⟨ti,L,tg⟩=.agg [.slice none (ti.map za),.slice none (L.map zU),zd tg]:=rfl
  rw [hdA]
  clear hdA
  by_cases he:e1'=0
  ·subst he
   rw [if_pos rfl]
   unfold zgO zC
   simp only
   refine Bd func146 ntmps146 fun σ N hp hpn hk hkn hfree=>?_
   have hcs:=And.intro c1 (And.intro c2 (And.intro c3 True.intro))
   clear c1 c2 c3
   refine Wk ?_
   exact WD
  ·rw [if_neg he]
   have h1i:((e1':Int) != 0)=true:=by simp;omega
   unfold zgO
   simp only [zZ,zcE]
   refine Bd func146 ntmps146 fun σ N hp hpn hk hkn hfree=>?_
   have hcs:=And.intro c1 (And.intro c2 (And.intro c3 True.intro))
   clear c1 c2 c3
   refine Wk ?_
   exact WD
end
end Go.Proofs.YtglmjglbobhbbaaGreatDoor
namespace Go.Proofs.YtglmjglbobhbbaaGreatDoor
open _root_.Go.Proofs.Tryz
open Go.Ab
attribute [local irreducible] Go.Ab.tyAV Go.Ab.aw Go.Ab.aops Go.Ab.kReg Go.Ab.aThen Go.Ab.aBlk Go.Ab.acond Go.Ab.aguard Go.Ab.astep Go.Ab.AStepX Go.Ab.aRet
def yy (d:Bo):List UInt8:=yg d.ticket++(leb d.conds.length++(d.conds.flatMap xH++d.proof.1))
def zbw (b:Bu):List Nat:=[1,b.req.gate.toNat,b.req.nonce.toNat,b.epoch.toNat,b.serial.toNat,b.cavs.length]
def vh (b:Bu):List UInt8:=(zbw b).flatMap leb++(b.cavs.flatMap xk++(b.proof.1++(leb b.dis.length++b.dis.flatMap yy)))
theorem yk {α:Type} (f:α→List UInt8) (m:Nat):∀ (l:List α),(∀ x∈l,(f x).length≤m)→(l.flatMap f).length≤m * l.length
 | [],_=>by simp
 | x::r,h=>by
  have h1:=h x (List.mem_cons_self ..)
  have h2:=yk f m r fun y hy=>h y (List.mem_cons_of_mem _ hy)
  rw [List.flatMap_cons,List.length_append,List.length_cons,Nat.mul_add];omega
theorem vd (x:List UInt8) (h:x.length≤1024):(yg x).length≤1031:=by
 have:=zh x.length 2 oo
 simp only [yg,List.length_append];omega
theorem qk {d:Bo} (h:BoV d):(yy d).length≤1400:=by
 have h1:=vd d.ticket h.t2
 have h2:=zh d.conds.length 7 (by have:=h.cl;omega)
 have h3:=yk xH 40 d.conds fun p hp=>(yS p (h.cv p hp).1).2
 have:=h.cl
 simp only [yy,List.length_append,d.proof.2];omega
set_option maxHeartbeats 4000000 in
theorem ql (b:Bu) (hb:BuV b) (d k:Nat):
  ACall prog 175 [ye b] k [(d,zS)] (.slice none ((vh b).map za)) []:=by
 obtain ⟨⟨g,n⟩,e,s,cavs,pr,dis⟩:=b
 obtain ⟨⟨g0,g1⟩,n0,n1⟩:=rqB_iff.1 hb.rq
 have he1:=hb.e1
 have he2:=hb.e2
 have hs1:=hb.s1
 have hs2:=hb.s2
 have hcl:=hb.cl
 have hcv:=hb.cv
 have hdl:=hb.dl
 have hdv:=hb.dv
 clear hb
 simp only at g0 g1 n0 n1 he1 he2 hs1 hs2 hcl hcv hdl hdv
 obtain ⟨g,rfl⟩:=Int.eq_ofNat_of_zero_le g0
 obtain ⟨n,rfl⟩:=Int.eq_ofNat_of_zero_le (show 0≤n by omega)
 obtain ⟨e,rfl⟩:=Int.eq_ofNat_of_zero_le (show 0≤e by omega)
 obtain ⟨s,rfl⟩:=Int.eq_ofNat_of_zero_le (show 0≤s by omega)
 unfold vh zbw ye yD
 simp only [Int.toNat_natCast]
 obtain ⟨R1,hR1⟩:∃ R,[1,g,n,e,s,cavs.length].flatMap leb=R:=⟨_,rfl⟩
 have c1:=yR [1,g,n,e,s,cavs.length] [] (by simp) (by simp) (by intro x hx;simp at hx;omega) R1 (by simpa using hR1)
 have hl1:R1.length≤48:=by
  rw [← hR1]
  exact yk leb 8 [1,g,n,e,s,cavs.length] fun x hx=>by
   have:=zh x 7 (by simp at hx;omega)
   omega
 obtain ⟨R2,hR2⟩:∃ R,R1++cavs.flatMap xk=R:=⟨_,rfl⟩
 have hl2:R2.length≤200000:=by
  rw [← hR2,List.length_append]
  have:=yk xk 3000 cavs fun c hc=>(wh c (hcv c hc).1).2
  omega
 have c2:=fun r h k=>jj R1 cavs hcv oo R2 hR2 oo r d k h
 obtain ⟨R3,hR3⟩:∃ R,R2++pr.1=R:=⟨_,rfl⟩
 have hl3:R3.length=R2.length+32:=by rw [← hR3,List.length_append,pr.2]
 have hm3:R2.map za++pr.1.map za=R3.map za:=by rw [← hR3,List.map_append]
 obtain ⟨R4,hR4⟩:∃ R,R3++leb dis.length=R:=⟨_,rfl⟩
 have c3:=yR [dis.length] R3 (by simp) (by simp;omega) (by simp;omega) R4 (by simpa using hR4)
 have hl4:R4.length≤200100:=by
  have:=zh dis.length 7 oo
  rw [← hR4,List.length_append];omega
 have hfin:R1++(cavs.flatMap xk++(pr.1++(leb dis.length++dis.flatMap yy)))=R4++dis.flatMap yy:=by
  rw [← hR4,← hR3,← hR2];simp
 rw [hR1,hfin]
 clear hfin hR1 hR2 hR3 hR4
 have ps1:=zB pr
 have ps2:=zj pr
 obtain ⟨K,hK⟩:=pr
 have hkA:zd ⟨K,hK⟩=.agg (K.map za):=rfl
 simp only [hkA] at ps1 ps2 hm3 ⊢
 clear hkA
 have ps3:AV.celll (K.map za)=true:=zX K
 have htk:(K.map za).take 32=K.map za:=List.take_of_length_le (by rw [List.length_map];omega)
 refine Bd func175 ntmps175 fun σ N hp hpn hk hkn hfree=>?_
 obtain ⟨hd,hdn⟩:=HD0 hp hpn;clear hp hpn
 have hcs:=And.intro c1 (And.intro (c2 (N+2+14) oo) (And.intro c3 True.intro))
 clear c1 c2 c3 hcv
 refine Wm ?_
 iterate 2 refine Wz ?_
 refine kR N (bt:=75) (x:=.agg [.agg [.lit (.int .i64 (g:Int)),.lit (.int .i64 (n:Int))],.lit (.int .i64 (e:Int)),.lit (.int .i64 (s:Int)),.slice none (cavs.map z8),.agg (K.map za),.slice none (dis.map zC)]) (by simp (disch:=omega) [go_sem, *,-List.reduceReplicate]) ?_
 replace hcs:=hcs.2
 refine Wk ?_
 clear hcs
 have h00:R4++(dis.take 0).flatMap yy=R4:=by simp
 refine yn (N) zi (by kernel_rfl) [3,5,37,38,39,40,41,42,43,44,45,46,47,48,49,50,51,52,53,54,55,56,57,58,59,60,61] [] (fun m_ s_ σ_ n_=>∃ (u:Nat) (q:Nat) (acc:List UInt8),m_=dis.length - u∧s_ 37=.lit (.int .i64 u)∧s_ 3=.slice (some q) (acc.map za)∧σ_ (q)=.row 5 1 acc.length∧(u≤dis.length)∧(acc.length≤R4.length+1400 * u)∧(R4++(dis.take u).flatMap yy=acc)∧(N≤q)∧(q < n_)) ⟨_,0,_,R4,rfl,WF,WF,WF,WC,WC,WC,WC,WC⟩ ?_
 intro m_1 s_1 σ_1 n_1 hs_1 hf_1 hn_1 hI_1
 obtain ⟨u,q,acc,hm_1,h1_37,h1_3,e1_0,hu,hal,hacc,hq,hqn⟩:=hI_1
 have h1_2:=KS hs_1 2
 have h1_35:=KS hs_1 35
 have h1_36:=KS hs_1 36
 have k1_0:=KE hf_1 (d)
 have hlow:=KL (N:=N) (σ:=σ) hf_1
 clear h00
 by_cases hul:u=dis.length
 ·rw [hul,List.take_length] at hacc
  subst hul
  rw [hacc]
  clear hdv
  exact WM
 ·have hui:u < dis.length:=by omega
  have hv1:=hdv _ (List.getElem_mem hui)
  obtain ⟨c,hc⟩:∃ c,dis[u]=c:=⟨_,rfl⟩
  rw [hc] at hv1
  have hcl2:=qk hv1
  have hacc2:=yI yy hui hc
  obtain ⟨ti,cs,pf⟩:=c
  have v1:=hv1.t1
  have v2:=hv1.t2
  have v3:=hv1.cl
  have v4:=hv1.cv
  simp only at v1 v2 v3 v4
  clear hv1
  have k1:=zdA acc ti oo v2
  obtain ⟨A1,hA1⟩:∃ A,acc++yg ti=A:=⟨_,rfl⟩
  have la1:A1.length≤250000:=by
   have:=vd ti v2
   rw [← hA1,List.length_append];omega
  obtain ⟨A2,hA2⟩:∃ A,A1++leb cs.length=A:=⟨_,rfl⟩
  have k2:=yR [cs.length] A1 (by simp) (by simp;omega) (by simp;omega) A2 (by simpa using hA2)
  have la2:A2.length≤250100:=by
   have:=zh cs.length 7 oo
   rw [← hA2,List.length_append];omega
  obtain ⟨A3,hA3⟩:∃ A,A2++cs.flatMap xH=A:=⟨_,rfl⟩
  have la3:A3.length≤251000:=by
   have:=yk xH 40 cs fun p hp=>(yS p (v4 p hp).1).2
   rw [← hA3,List.length_append];omega
  have k3:=fun r h k=>qU A2 cs v4 oo oo A3 hA3 r d k h
  obtain ⟨A4,hA4⟩:∃ A,A3++pf.1=A:=⟨_,rfl⟩
  have lm4:A3.map za++pf.1.map za=A4.map za:=by rw [← hA4,List.map_append]
  have la4:A4.length=A3.length+32:=by rw [← hA4,List.length_append,pf.2]
  have hfin:acc++yy ⟨ti,cs,pf⟩=A4:=by
   rw [← hA4,← hA3,← hA2,← hA1];simp [yy]
  have hacc3:R4++(dis.take (u+1)).flatMap yy=A4:=by rw [hacc2,← List.append_assoc,hacc,hfin]
  have hal2:A4.length≤R4.length+1400 * (u+1):=by rw [← hfin,List.length_append];omega
  have hfa:acc.length+(yg ti).length=A1.length:=by rw [← hA1,List.length_append]
  have hqd:q≠d:=by omega
  have qs1:=zB pf
  have qs2:=zj pf
  obtain ⟨K2,hK2⟩:=pf
  have hkA:zd ⟨K2,hK2⟩=.agg (K2.map za):=rfl
  have hbo:zC ⟨ti,cs,⟨K2,hK2⟩⟩=.agg [.slice none (ti.map za),.slice none (cs.map zU),.agg (K2.map za)]:=rfl
  simp only [hkA] at qs1 qs2 lm4
  have qs3:AV.celll (K2.map za)=true:=zX K2
  have qtk:(K2.map za).take 32=K2.map za:=List.take_of_length_le (by rw [List.length_map];omega)
  have hfl2:(leb ti.length).length+ti.length=(yg ti).length:=by simp [yg]
  rw [hA1] at k1
  clear hkA hfin hacc hacc2 hA1 hA2 hA3 hA4 v4 hdv hcl2
  have hcs:=And.intro k1 (And.intro k2 (And.intro (k3 (n_1+13+5) oo) True.intro))
  clear k1 k2 k3
  refine Wk ?_
  exact ⟨WS,WG,WN,_,(show dis.length - (u+1) < m_1 by omega),u+1,_,A4,rfl,WF,WF,WF,WC,WC,WC,WC,WC⟩
theorem wd (l:List Ca) (hl:l.length≤100000) (hpk:∀ c∈l,PrOk c.first) (k:Nat):ACall prog 79 [.slice none (l.map z8)] k [] (.lit (.bool (!l.any fun c=>!xz c))) []:=by
 obtain ⟨R,hR⟩:∃ R,(!l.any fun c=>!xz c)=R:=⟨_,rfl⟩
 rw [hR]
 have hdr:l.drop 0=l:=rfl
 refine Bd func79 ntmps79 fun σ N hp hpn hk hkn hfree=>?_
 refine Wk ?_
 refine ze zi (by kernel_rfl) [2,3,4,5,6,7,8,9,10,11,12,13,14,15] [] (fun m_ s_ σ_ n_=>∃ (u:Nat),m_=l.length - u∧s_ 3=.lit (.int .i64 u)∧(u≤l.length)∧((!(l.drop u).any fun c=>!xz c)=R)) ⟨_,0,rfl,WF,WC,WC⟩ ?_
 intro m_1 s_1 σ_1 n_1 hs_1 hf_1 hn_1 hI_1
 obtain ⟨u,hm_1,h1_3,hu,hno⟩:=hI_1
 have h1_0:=KS hs_1 0
 have hlow:=KL (N:=N) (σ:=σ) hf_1
 clear hR hdr
 by_cases hul:u=l.length
 ·subst hul
  rw [List.drop_length] at hno
  simp only [List.any_nil,Bool.not_false] at hno
  subst hno
  clear hpk
  exact W0
 ·have hu1:u < l.length:=by omega
  rw [List.drop_eq_getElem_cons hu1,List.any_cons] at hno
  have hp1:=hpk _ (List.getElem_mem hu1)
  obtain ⟨z,hz⟩:∃ z,l[u]=z:=⟨_,rfl⟩
  rw [hz] at hno hp1
  have c1:=ke z hp1
  cases hc:xz z with
  | true=>
   rw [hc] at c1 hno
   simp only [Bool.not_true,Bool.false_or] at hno
   have hcs:=And.intro c1 True.intro
   clear c1 hpk hc
   refine Wk ?_
   exact ⟨WS,WG,WN,_,(show l.length - (u+1) < m_1 by omega),u+1,rfl,WF,WC,WC⟩
  | false=>
   rw [hc] at c1 hno
   simp only [Bool.not_false,Bool.true_or,Bool.not_true] at hno
   subst hno
   have hcs:=And.intro c1 True.intro
   clear c1 hpk hc
   exact W0
set_option maxHeartbeats 8000000 in
theorem wG (b:Bu) (hb:BuV b) (k:Nat):
  ACall prog 196 [ye b] k [] (.slice none ((vh b).map za)) []:=by
 obtain ⟨⟨g,n⟩,e,s,cavs,pr,dis⟩:=b
 obtain ⟨⟨g0,g1⟩,n0,n1⟩:=rqB_iff.1 hb.rq
 have he1:=hb.e1
 have he2:=hb.e2
 have hs1:=hb.s1
 have hs2:=hb.s2
 have hcl:=hb.cl
 have hcv:=hb.cv
 have hdl:=hb.dl
 have hdv:=hb.dv
 clear hb
 simp only at g0 g1 n0 n1 he1 he2 hs1 hs2 hcl hcv hdl hdv
 obtain ⟨g,rfl⟩:=Int.eq_ofNat_of_zero_le g0
 obtain ⟨n,rfl⟩:=Int.eq_ofNat_of_zero_le (show 0≤n by omega)
 obtain ⟨e,rfl⟩:=Int.eq_ofNat_of_zero_le (show 0≤e by omega)
 obtain ⟨s,rfl⟩:=Int.eq_ofNat_of_zero_le (show 0≤s by omega)
 unfold vh zbw ye yD
 simp only [Int.toNat_natCast]
 obtain ⟨L5,hL5⟩:∃ L,[g,n,e,s,cavs.length]=L:=⟨_,rfl⟩
 have hL5n:∀ x∈L5,x≤281474976710656:=by rw [← hL5];intro x hx;simp at hx;omega
 have hL5l:L5.length=5:=by rw [← hL5];rfl
 have hle5:∀ i:Option Nat,AV.le (.slice i [.lit (.int .i64 (g:Int)),.lit (.int .i64 (n:Int)),.lit (.int .i64 (e:Int)),.lit (.int .i64 (s:Int)),.lit (.int .i64 (cavs.length:Int))]) (natsAV L5):=fun i=>by rw [← hL5];exact AV.le_own _ _
 obtain ⟨R1,hR1⟩:∃ R,[1]++L5.flatMap leb=R:=⟨_,rfl⟩
 have hl1:R1.length≤48:=by
  have:=yk leb 8 L5 fun x hx=>by
   have:=zh x 7 (by have:=hL5n x hx;omega)
   omega
  rw [← hR1,List.length_append,List.length_singleton];omega
 obtain ⟨R2,hR2⟩:∃ R,R1++cavs.flatMap xk=R:=⟨_,rfl⟩
 have hl2:R2.length≤200000:=by
  rw [← hR2,List.length_append]
  have:=yk xk 3000 cavs fun c hc=>(wh c (hcv c hc).1).2
  omega
 obtain ⟨R3,hR3⟩:∃ R,R2++pr.1=R:=⟨_,rfl⟩
 have hl3:R3.length=R2.length+32:=by rw [← hR3,List.length_append,pr.2]
 have hm3:R2.map za++pr.1.map za=R3.map za:=by rw [← hR3,List.map_append]
 obtain ⟨R4,hR4⟩:∃ R,R3++leb dis.length=R:=⟨_,rfl⟩
 have c3:=fun k=>ym dis.length k oo
 have hl4:R4.length≤200100:=by
  have:=zh dis.length 7 oo
  rw [← hR4,List.length_append];omega
 have hm4:R3.map za++(leb dis.length).map za=R4.map za:=by rw [← hR4,List.map_append]
 have hl4b:R3.length+(leb dis.length).length=R4.length:=by rw [← hR4,List.length_append]
 have hhd:[1,g,n,e,s,cavs.length].flatMap leb=R1:=by
  have h1:leb 1=[1]:=by rw [leb,dif_pos (by decide)];rfl
  rw [← hR1,← hL5,List.flatMap_cons,h1]
 have hfin:R1++(cavs.flatMap xk++(pr.1++(leb dis.length++dis.flatMap yy)))=R4++dis.flatMap yy:=by
  rw [← hR4,← hR3,← hR2];simp
 rw [hhd,hfin]
 clear hfin hhd hL5 hR3 hR4
 generalize leb dis.length=lbd at *
 have ps1:=zB pr
 have ps2:=zj pr
 obtain ⟨K,hK⟩:=pr
 have hkA:zd ⟨K,hK⟩=.agg (K.map za):=rfl
 simp only [hkA] at ps1 ps2 hm3 ⊢
 clear hkA
 have ps3:AV.celll (K.map za)=true:=zX K
 have htk:(K.map za).take 32=K.map za:=List.take_of_length_le (by rw [List.length_map];omega)
 have b1:AV.lit (.int .u8 1)=za 1:=rfl
 have z1:[1]++(L5.take 0).flatMap leb=[1]:=by simp
 refine Bd func196 ntmps196 fun σ N hp hpn hk hkn hfree=>?_
 refine Wm ?_
 iterate 1 refine Wz ?_
 refine kR N (bt:=75) (x:=.agg [.agg [.lit (.int .i64 (g:Int)),.lit (.int .i64 (n:Int))],.lit (.int .i64 (e:Int)),.lit (.int .i64 (s:Int)),.slice none (cavs.map z8),.agg (K.map za),.slice none (dis.map zC)]) (by simp (disch:=omega) [go_sem, *,-List.reduceReplicate]) ?_
 iterate 2 refine Wz ?_
 refine jB 4 (by simp (disch:=omega) [go_sem, *]) (hle5 (some (N+4+13))) ?_
 refine Wk ?_
 clear hle5
 refine ze zi (by kernel_rfl) [3,5,29,30,31,32,33,34,35,36,37,38,39,40,41] [N+2] (fun m_ s_ σ_ n_=>∃ (u:Nat) (acc:List UInt8),m_=5 - u∧s_ 5=.lit (.int .i64 u)∧s_ 3=.slice (some (N+2)) (acc.map za)∧σ_ (N+2)=.row 5 1 acc.length∧(u≤5)∧(acc.length≤1+8 * u)∧([1]++(L5.take u).flatMap leb=acc)) ⟨_,0,[1],rfl,WF,WF,WF,WC,WC,WC⟩ ?_
 intro m_2 s_2 σ_2 n_2 hs_2 hf_2 hn_2 hI_2
 obtain ⟨u,acc,hm_2,h2_5,h2_3,e2_0,hu,hal,hacc⟩:=hI_2
 have h2_1:=KS hs_2 1
 have h2_2:=KS hs_2 2
 have h2_4:=KS hs_2 4
 have k2_0:=KE hf_2 (N)
 have hlow:=KL (N:=N) (σ:=σ) hf_2
 clear z1 b1
 by_cases hul:u=5
 ·subst hul
  rw [List.take_of_length_le oo,hR1] at hacc
  subst hacc
  clear hR1 hL5n
  have z2:R1++(cavs.take 0).flatMap xk=R1:=by simp
  have hpre:∀ u,(R1++(cavs.take u).flatMap xk).length≤R2.length:=fun u=>by
   rw [← hR2,List.length_append,List.length_append]
   have:=yA xk cavs u
   omega
  have hR12:R1.length≤R2.length:=by rw [← hR2,List.length_append];omega
  refine Wk ?_
  refine ze zi (by kernel_rfl) [3,6,7,8,42,43,44,45,46,47,48,49,50,51,52,53,54,55,56,57,58,59,60] [N+2] (fun m_ s_ σ_ n_=>∃ (u:Nat) (acc:List UInt8),m_=cavs.length - u∧s_ 6=.lit (.int .i64 u)∧s_ 3=.slice (some (N+2)) (acc.map za)∧σ_ (N+2)=.row 5 1 acc.length∧(u≤cavs.length)∧(acc.length≤R2.length)∧(R1++(cavs.take u).flatMap xk=acc)) ⟨_,0,R1,rfl,WF,WF,WF,WC,WC,WC⟩ ?_
  intro m_3 s_3 σ_3 n_3 hs_3 hf_3 hn_3 hI_3
  obtain ⟨u,acc,hm_3,h3_6,h3_3,e3_0,hu,hal,hacc⟩:=hI_3
  have h3_1:=KS hs_3 1
  have h3_2:=KS hs_3 2
  have k3_0:=KE hf_3 (N)
  have hlow:=KL (N:=N) (σ:=σ) hf_3
  clear z2 hR12
  by_cases hul:u=cavs.length
  ·rw [hul,List.take_length,hR2] at hacc
   subst hul hacc
   clear hR2 hcv hpre
   have z4:R4++(dis.take 0).flatMap yy=R4:=by simp
   have hcs:=And.intro c3 True.intro
   clear c3
   refine Wk ?_
   clear hcs hm4
   refine ze zi (by kernel_rfl) (3::9::10::11::12::13::70::71::72::73::74::75::76::77::78::79::80::81::82::83::84::85::86::87::88::89::90::91::92::93::94::95::96::97::98::99::100::101::102::103::104::105::106::107::108::109::110::111::112::113::114::[]) [N+2] (fun m_ s_ σ_ n_=>∃ (u:Nat) (acc:List UInt8),m_=dis.length - u∧s_ 9=.lit (.int .i64 u)∧s_ 3=.slice (some (N+2)) (acc.map za)∧σ_ (N+2)=.row 5 1 acc.length∧(u≤dis.length)∧(acc.length≤R4.length+1400 * u)∧(R4++(dis.take u).flatMap yy=acc)) ⟨_,0,R4,rfl,WF,WF,WF,WC,WC,WC⟩ ?_
   intro m_4 s_4 σ_4 n_4 hs_4 hf_4 hn_4 hI_4
   obtain ⟨u,acc,hm_4,h4_9,h4_3,e4_0,hu,hal,hacc⟩:=hI_4
   have h4_1:=KS hs_4 1
   have h4_2:=KS hs_4 2
   have k4_0:=KE hf_4 (N)
   have hlow:=KL (N:=N) (σ:=σ) hf_4
   clear z4
   by_cases hul:u=dis.length
   ·rw [hul,List.take_length] at hacc
    subst hul
    rw [hacc]
    clear hdv hacc
    exact WM
   ·have hui:u < dis.length:=by omega
    have hv1:=hdv _ (List.getElem_mem hui)
    obtain ⟨c,hc⟩:∃ c,dis[u]=c:=⟨_,rfl⟩
    rw [hc] at hv1
    have hcl2:=qk hv1
    have hacc2:=yI yy hui hc
    obtain ⟨ti,cs,pf⟩:=c
    have v1:=hv1.t1
    have v2:=hv1.t2
    have v3:=hv1.cl
    have v4:=hv1.cv
    simp only at v1 v2 v3 v4
    clear hv1
    have hau:acc.length≤240000:=by omega
    have k1:=qM ti oo
    have k2:=fun k=>ym cs.length k oo
    have hf1:=vd ti v2
    have hf2:=zh cs.length 7 oo
    obtain ⟨A2,hA2⟩:∃ A,acc++yg ti++leb cs.length=A:=⟨_,rfl⟩
    have lm2:(acc.map za++(yg ti).map za)++(leb cs.length).map za=A2.map za:=by rw [← hA2];simp
    have la2:acc.length+(yg ti).length+(leb cs.length).length=A2.length:=by rw [← hA2];simp;omega
    have la2b:A2.length≤245000:=by omega
    obtain ⟨A3,hA3⟩:∃ A,A2++cs.flatMap xH=A:=⟨_,rfl⟩
    have la3:A3.length≤251000:=by
     have:=yk xH 40 cs fun p hp=>(yS p (v4 p hp).1).2
     rw [← hA3,List.length_append];omega
    have hpre:∀ u,(A2++(cs.take u).flatMap xH).length≤A3.length:=fun u=>by
     rw [← hA3,List.length_append,List.length_append]
     have:=yA xH cs u
     omega
    have hA23:A2.length≤A3.length:=by rw [← hA3,List.length_append];omega
    obtain ⟨A4,hA4⟩:∃ A,A3++pf.1=A:=⟨_,rfl⟩
    have lm4:A3.map za++pf.1.map za=A4.map za:=by rw [← hA4,List.map_append]
    have la4:A4.length=A3.length+32:=by rw [← hA4,List.length_append,pf.2]
    have hfin:acc++yy ⟨ti,cs,pf⟩=A4:=by
     rw [← hA4,← hA3,← hA2];simp [yy]
    have hacc3:R4++(dis.take (u+1)).flatMap yy=A4:=by rw [hacc2,← List.append_assoc,hacc,hfin]
    have hal2:A4.length≤R4.length+1400 * (u+1):=by rw [← hfin,List.length_append];omega
    have qs1:=zB pf
    have qs2:=zj pf
    obtain ⟨K2,hK2⟩:=pf
    have hkA:zd ⟨K2,hK2⟩=.agg (K2.map za):=rfl
    have hbo:zC ⟨ti,cs,⟨K2,hK2⟩⟩=.agg [.slice none (ti.map za),.slice none (cs.map zU),.agg (K2.map za)]:=rfl
    simp only [hkA] at qs1 qs2 lm4
    have qs3:AV.celll (K2.map za)=true:=zX K2
    have qtk:(K2.map za).take 32=K2.map za:=List.take_of_length_le (by rw [List.length_map];omega)
    clear hkA hfin hacc hacc2 hA2 hA4 hdv hcl2
    generalize yg ti=ft at *
    generalize leb cs.length=lc at *
    have z5:A2++(cs.take 0).flatMap xH=A2:=by simp
    have hcs:=And.intro k1 (And.intro k2 True.intro)
    clear k1 k2
    refine Wk ?_
    clear hcs lm2 la2
    refine ze zi (by kernel_rfl) [3,11,12,13,92,93,94,95,96,97,98,99,100,101,102,103,104,105,106,107,108,109,110] [N+2] (fun m_ s_ σ_ n_=>∃ (v:Nat) (acc:List UInt8),m_=cs.length - v∧s_ 11=.lit (.int .i64 v)∧s_ 3=.slice (some (N+2)) (acc.map za)∧σ_ (N+2)=.row 5 1 acc.length∧(v≤cs.length)∧(acc.length≤A3.length)∧(A2++(cs.take v).flatMap xH=acc)) ⟨_,0,A2,rfl,WF,WF,WF,WC,WC,WC⟩ ?_
    intro m_5 s_5 σ_5 n_5 hs_5 hf_5 hn_5 hI_5
    obtain ⟨v,acc,hm_5,h5_11,h5_3,e5_0,hv,hal3,hacc⟩:=hI_5
    have h5_1:=KS hs_5 1
    have h5_2:=KS hs_5 2
    have h5_9:=KS hs_5 9
    have h5_10:=KS hs_5 10
    have h5_70:=KS hs_5 70
    have h5_71:=KS hs_5 71
    have h5_72:=KS hs_5 72
    have h5_73:=KS hs_5 73
    have h5_74:=KS hs_5 74
    have h5_77:=KS hs_5 77
    have h5_78:=KS hs_5 78
    have h5_79:=KS hs_5 79
    have h5_80:=KS hs_5 80
    have h5_81:=KS hs_5 81
    have h5_82:=KS hs_5 82
    have h5_83:=KS hs_5 83
    have h5_84:=KS hs_5 84
    have h5_85:=KS hs_5 85
    have h5_86:=KS hs_5 86
    have h5_87:=KS hs_5 87
    have h5_88:=KS hs_5 88
    have h5_89:=KS hs_5 89
    have h5_90:=KS hs_5 90
    have h5_91:=KS hs_5 91
    have k5_0:=KE hf_5 (N)
    have k5_1:=KE hf_5 (n_4+5+5)
    have hlow:=KL (N:=N) (σ:=σ) hf_5
    clear z5 hA23
    by_cases hvl:v=cs.length
    ·rw [hvl,List.take_length,hA3] at hacc
     subst hvl hacc
     clear hA3 v4 hpre
     refine Wk ?_
     exact ⟨WS,WG,WN,_,(show dis.length - (u+1) < m_4 by omega),u+1,A4,rfl,WF,WF,WF,WC,WC,WC⟩
    ·have hvi:v < cs.length:=by omega
     have hv1:=v4 _ (List.getElem_mem hvi)
     obtain ⟨c,hcc⟩:∃ c,cs[v]=c:=⟨_,rfl⟩
     rw [hcc] at hv1
     have hcl:=yS c hv1.1
     have c1:=jX c hv1.2 hv1.1
     have hacc2:=yI xH hvi hcc
     rw [← List.append_cancel_left_eq A2,← List.append_assoc,hacc] at hacc2
     have hal4:=hpre (v+1)
     rw [hacc2] at hal4
     have hll:acc.length+(xH c).length=(acc++xH c).length:=by simp
     have hmm:acc.map za++(xH c).map za=(acc++xH c).map za:=by simp
     clear hacc hA3 v4 hpre
     generalize xH c=X at *
     have hb2:acc.length+X.length≤140737488355328:=by omega
     clear hcl
     generalize hA2:acc++X=acc2 at *
     have hcs:=And.intro c1 True.intro
     clear c1 hA2
     refine Wk ?_
     exact ⟨WS,WG,WN,_,(show cs.length - (v+1) < m_5 by omega),v+1,acc2,rfl,WF,WF,WF,WC,WC,WC⟩
  ·have hui:u < cavs.length:=by omega
   have hv1:=hcv _ (List.getElem_mem hui)
   obtain ⟨c,hc⟩:∃ c,cavs[u]=c:=⟨_,rfl⟩
   rw [hc] at hv1
   have hcl2:=wh c hv1.1
   have c1:=zhN c hv1.2 hv1.1
   have hacc2:=yI xk hui hc
   rw [← List.append_cancel_left_eq R1,← List.append_assoc,hacc] at hacc2
   have hal4:=hpre (u+1)
   rw [hacc2] at hal4
   have hll:acc.length+(xk c).length=(acc++xk c).length:=by simp
   have hmm:acc.map za++(xk c).map za=(acc++xk c).map za:=by simp
   clear hacc hR2 hcv hpre c3
   generalize xk c=X at *
   have hb2:acc.length+X.length≤140737488355328:=by omega
   clear hcl2
   generalize hA2:acc++X=acc2 at *
   have hcs:=And.intro c1 True.intro
   clear c1 hA2
   refine Wk ?_
   exact ⟨WS,WG,WN,_,(show cavs.length - (u+1) < m_3 by omega),u+1,acc2,rfl,WF,WF,WF,WC,WC,WC⟩
 ·have hui:u < L5.length:=by omega
  have hui5:(u:Int) < 5:=by omega
  obtain ⟨c,hc⟩:∃ c,L5[u]=c:=⟨_,rfl⟩
  have hcn:c≤281474976710656:=hL5n c (by rw [← hc];exact List.getElem_mem hui)
  have c1:=fun k=>ym c k oo
  have hcl2:=zh c 7 oo
  have hacc2:=yI leb hui hc
  rw [← List.append_cancel_left_eq [1],← List.append_assoc,hacc] at hacc2
  have hll:acc.length+(leb c).length=(acc++leb c).length:=by simp
  have hmm:acc.map za++(leb c).map za=(acc++leb c).map za:=by simp
  have hal4:(acc++leb c).length≤1+8 * (u+1):=by rw [← hll];omega
  clear hacc hR1 hL5n c3 hcv hdv
  generalize leb c=X at *
  have hb2:acc.length+X.length≤140737488355328:=by omega
  clear hcl2
  generalize hA2:acc++X=acc2 at *
  have hcs:=And.intro c1 True.intro
  clear c1 hA2
  refine Wk ?_
  exact ⟨WS,WG,WN,_,(show 5 - (u+1) < m_2 by omega),u+1,acc2,rfl,WF,WF,WF,WC,WC,WC⟩
theorem wg (r:Rq) (k:Nat):ACall prog 182 [yD r] k [] (.lit (.bool (rqB r))) []:=by
 obtain ⟨x,y⟩:=r
 unfold yD
 by_cases h1:0≤x
 ·by_cases h2:x < 8
  ·by_cases h3:1≤y
   ·by_cases h4:y≤281474976710656
    ·have hr:rqB ⟨x,y⟩=true:=by simp [rqB, *]
     rw [hr]
     refine Bd func182 ntmps182 fun σ N hp hpn hk hkn hfree=>?_
     exact W0
    ·have hr:rqB ⟨x,y⟩=false:=by simp [rqB, *]
     rw [hr]
     refine Bd func182 ntmps182 fun σ N hp hpn hk hkn hfree=>?_
     exact W0
   ·have hr:rqB ⟨x,y⟩=false:=by simp [rqB, *]
    rw [hr]
    refine Bd func182 ntmps182 fun σ N hp hpn hk hkn hfree=>?_
    exact W0
  ·have hr:rqB ⟨x,y⟩=false:=by simp [rqB, *]
   rw [hr]
   refine Bd func182 ntmps182 fun σ N hp hpn hk hkn hfree=>?_
   exact W0
 ·have hr:rqB ⟨x,y⟩=false:=by simp [rqB, *]
  rw [hr]
  refine Bd func182 ntmps182 fun σ N hp hpn hk hkn hfree=>?_
  exact W0
def yQ (d:Bo):Bool:=decide (8 < d.conds.length)
def yr (d:Bo):Bool:=decide (d.ticket.length < 1) || decide (1024 < d.ticket.length) || d.conds.any fun p=>!yc p
def qv (d:Bo):Bool:=d.conds.any fun p=>decide (p.kind=7)
theorem qj (x:Bo) (k:Nat):ACall prog 246 [zC x] k [] (.lit (.bool (yQ x))) []:=by
 obtain ⟨ti,L,pf⟩:=x
 unfold yQ zC
 simp only
 by_cases h:8 < L.length
 ·have hi:(8:Int) < (L.length:Int):=by omega
  rw [decide_eq_true h]
  refine Bd func246 ntmps246 fun σ N hp hpn hk hkn hfree=>?_
  exact W0
 ·have hi:¬ (8:Int) < (L.length:Int):=by omega
  rw [decide_eq_false h]
  refine Bd func246 ntmps246 fun σ N hp hpn hk hkn hfree=>?_
  exact W0
theorem jn (p:Pr) (hp:PrOk p) (d k:Nat):ACall prog 251 [zU p] k [(d,zS)] (.lit (.bool (!yc p))) []:=by
 have c1:=xZ p hp d
 generalize yc p=q at *
 refine Bd func251 ntmps251 fun σ N hp hpn hk hkn hfree=>?_
 obtain ⟨hd,hdn⟩:=HD0 hp hpn;clear hp hpn
 have hcs:=And.intro c1 True.intro
 clear c1
 exact W0
theorem ki (p:Pr) (k:Nat):ACall prog 252 [zU p] k [] (.lit (.bool (decide (p.kind=7)))) []:=by
 obtain ⟨kd,ms,fr,to,nm,nu⟩:=p
 unfold zU
 simp only
 by_cases h:kd=7
 ·subst h
  rw [decide_eq_true rfl]
  refine Bd func252 ntmps252 fun σ N hp hpn hk hkn hfree=>?_
  exact W0
 ·have hb:(kd == 7)=false:=by rw [beq_eq_false_iff_ne];exact h
  rw [decide_eq_false h]
  refine Bd func252 ntmps252 fun σ N hp hpn hk hkn hfree=>?_
  exact W0
theorem q9 (c:Ca) (hp:PrOk c.first) (d k:Nat):ACall prog 217 [z8 c] k [(d,zS)] (.lit (.bool (!xz c))) []:=by
 have c1:=qh c hp d
 generalize xz c=q at *
 refine Bd func217 ntmps217 fun σ N hp hpn hk hkn hfree=>?_
 obtain ⟨hd,hdn⟩:=HD0 hp hpn;clear hp hpn
 have hcs:=And.intro c1 True.intro
 clear c1
 exact W0
theorem ks (x z:Bo) (hx:x.ticket.length≤1024) (hz:z.ticket.length≤1024) (a k:Nat):ACall prog 253 [zC x,.ptr a [] 0] k [(a,.box 168 (zC z))] (.lit (.bool (decide (x.ticket=z.ticket)))) []:=by
 obtain ⟨xt,xc,xp⟩:=x
 obtain ⟨zt,zc,zp⟩:=z
 unfold zC
 simp only at hx hz ⊢
 have c1:=xB xt zt oo oo
 generalize decide (xt=zt)=q at *
 refine Bd func253 ntmps253 fun σ N hp hpn hk hkn hfree=>?_
 obtain ⟨hd,hdn⟩:=HD0 hp hpn;clear hp hpn
 have hcs:=And.intro c1 True.intro
 clear c1
 exact W0
theorem zaI (x:Bo) (hx:BoIn x) (d k:Nat):ACall prog 219 [zC x] k [(d,zS)] (.lit (.bool (yr x))) []:=by
 have c1:=wq x.conds (fun p=>!yc p) 251 d zS (by simp) (fun p hp k=>jn p (hx.ok p hp) d k) hx.cl
 obtain ⟨ti,L,pf⟩:=x
 unfold yr zC
 simp only at c1 ⊢
 clear hx
 generalize (L.any fun p=>!yc p)=q at *
 by_cases h1:ti.length < 1
 ·rw [decide_eq_true h1]
  have h1i:(ti.length:Int) < 1:=by omega
  simp only [Bool.true_or]
  clear c1
  refine Bd func219 ntmps219 fun σ N hp hpn hk hkn hfree=>?_
  obtain ⟨hd,hdn⟩:=HD0 hp hpn;clear hp hpn
  exact W0
 ·have h1i:¬ (ti.length:Int) < 1:=by omega
  rw [decide_eq_false h1]
  by_cases h2:1024 < ti.length
  ·rw [decide_eq_true h2]
   have h2i:(1024:Int) < (ti.length:Int):=by omega
   simp only [Bool.true_or,Bool.or_true]
   clear c1
   refine Bd func219 ntmps219 fun σ N hp hpn hk hkn hfree=>?_
   obtain ⟨hd,hdn⟩:=HD0 hp hpn;clear hp hpn
   exact W0
  ·have h2i:¬ (1024:Int) < (ti.length:Int):=by omega
   rw [decide_eq_false h2]
   simp only [Bool.false_or]
   refine Bd func219 ntmps219 fun σ N hp hpn hk hkn hfree=>?_
   obtain ⟨hd,hdn⟩:=HD0 hp hpn;clear hp hpn
   have hcs:=And.intro c1 True.intro
   clear c1
   exact W0
theorem jt (x:Bo) (hx:BoIn x) (a:Nat) (E:Ent) (hE:E≠.none) (k:Nat):ACall prog 220 [zC x] k [(a,E)] (.lit (.bool (qv x))) []:=by
 have c1:=wq x.conds (fun p=>decide (p.kind=7)) 252 a E hE (fun p hp k=>ACall.addPre (ki p k) a E hE) hx.cl
 obtain ⟨ti,L,pf⟩:=x
 unfold qv zC
 simp only at c1 ⊢
 clear hx
 generalize (L.any fun p=>decide (p.kind=7))=q at *
 refine Bd (hpre:=by simp [hE]) func220 ntmps220 fun σ N hp hpn hk hkn hfree=>?_
 obtain ⟨hd,hdn⟩:=HD0 hp hpn;clear hp hpn
 have hcs:=And.intro c1 True.intro
 clear c1
 exact W0
def twU (l:List Bo) (u:Nat):Bool:=(List.range u).any fun i=>(l.take i).any fun x=>decide (x.ticket=(l.getD i bo0).ticket)
theorem vf (l:List Bo) (u:Nat):twU l (u+1)=(twU l u || (l.take u).any fun x=>decide (x.ticket=(l.getD u bo0).ticket)):=by
 unfold twU;rw [List.range_succ,List.any_append];simp
theorem zg7 (l:List Bo) {u n:Nat} (h:u≤n) (ht:twU l u=true):twU l n=true:=by
 obtain ⟨m,rfl⟩:=Nat.exists_eq_add_of_le h
 clear h
 induction m with
 | zero=>exact ht
 | succ m ih=>rw [← Nat.add_assoc,vf,ih];rfl
theorem jA (l:List Bo) (hl:l.length≤1000) (ht:∀ x∈l,x.ticket.length≤1024) (k:Nat):ACall prog 221 [.slice none (l.map zC)] k [] (.lit (.bool (twU l l.length))) []:=by
 obtain ⟨R,hR⟩:∃ R,twU l l.length=R:=⟨_,rfl⟩
 rw [hR]
 have h0:twU l 0=false:=rfl
 refine Bd func221 ntmps221 fun σ N hp hpn hk hkn hfree=>?_
 refine Wk ?_
 refine ze zi (by kernel_rfl) [2,3,4,7,8,9,10,11,12,13,14,15,16,17] [] (fun m_ s_ σ_ n_=>∃ (u:Nat),m_=l.length - u∧s_ 7=.lit (.int .i64 u)∧(u≤l.length)∧(twU l u=false)) ⟨_,0,rfl,WF,WC,WC⟩ ?_
 intro m_1 s_1 σ_1 n_1 hs_1 hf_1 hn_1 hI_1
 obtain ⟨u,hm_1,h1_7,hu,htw⟩:=hI_1
 have h1_0:=KS hs_1 0
 have h1_5:=KS hs_1 5
 have h1_6:=KS hs_1 6
 have hlow:=KL (N:=N) (σ:=σ) hf_1
 clear h0
 by_cases hul:u=l.length
 ·subst hul
  rw [hR] at htw
  subst htw
  clear hR ht
  exact W0
 ·have hu1:u < l.length:=by omega
  have hs:=vf l u
  rw [htw,Bool.false_or,List.getD_eq_getElem?_getD,List.getElem?_eq_getElem hu1,Option.getD_some] at hs
  have hz1:=ht _ (List.getElem_mem hu1)
  obtain ⟨z,hz⟩:∃ z,l[u]=z:=⟨_,rfl⟩
  rw [hz] at hs hz1
  have c1:=wx (l.take u) (fun x=>decide (x.ticket=z.ticket)) 253 (n_1+1+3) (.box 168 (zC z)) (by simp) (fun x hx k=>ks x z (ht x (List.mem_of_mem_take hx)) hz1 _ k) (by rw [List.length_take];omega)
  have hta:(l.map zC).take u=(l.take u).map zC:=by rw [List.map_take]
  generalize l.take u=T at *
  cases hc:twU l (u+1) with
  | true=>
   have hR1:=zg7 l (show u+1≤l.length by omega) hc
   rw [hR] at hR1
   subst hR1
   rw [← hs,hc] at c1
   have hcs:=And.intro c1 True.intro
   clear c1 ht hR htw hs
   exact W0
  | false=>
   rw [← hs,hc] at c1
   have hcs:=And.intro c1 True.intro
   clear c1 ht hR htw hs
   refine Wk ?_
   exact ⟨WS,WG,WN,_,(show l.length - (u+1) < m_1 by omega),u+1,rfl,WF,WC,WC⟩
def qE (b:Bu):Bool:=decide (64 < b.cavs.length) || (decide (8 < yF b.cavs) || (decide (8 < b.dis.length) || b.dis.any yQ))
theorem qX (b:Bu) (hb:BuIn b) (a:Nat) (E:Ent) (hE:E≠.none) (k:Nat):ACall prog 215 [ye b] k [(a,E)] (.lit (.bool (qE b))) []:=by
 have c1:=zbW b.cavs _ rfl (by have:=hb.cl;omega)
 have h1:=zad b.cavs
 have c2:=va b.dis yQ 246 a E hE (fun x _ k=>ACall.addPre (qj x k) a E hE) (by have:=hb.dl;omega)
 have hcl:=hb.cl
 have hdl:=hb.dl
 clear hb
 obtain ⟨rq,ep,se,L,pf,ds⟩:=b
 unfold qE ye yF
 simp only at c1 c2 h1 hcl hdl ⊢
 generalize wy L=F at *
 generalize ds.any yQ=q at *
 by_cases g1:64 < L.length
 ·have g1i:(64:Int) < (L.length:Int):=by omega
  rw [decide_eq_true g1]
  simp only [Bool.true_or]
  clear c2
  refine Bd (hpre:=by simp [hE]) func215 ntmps215 fun σ N hp hpn hk hkn hfree=>?_
  obtain ⟨hd,hdn⟩:=HD0 hp hpn;clear hp hpn
  have hcs:=And.intro c1 True.intro
  clear c1
  exact W0
 have g1i:¬ (64:Int) < (L.length:Int):=by omega
 rw [decide_eq_false g1]
 by_cases g2:8 < L.length - F.length
 ·have g2i:(8:Int) < (L.length:Int) - (F.length:Int):=by omega
  rw [decide_eq_true g2]
  simp only [Bool.true_or,Bool.false_or]
  clear c2
  refine Bd (hpre:=by simp [hE]) func215 ntmps215 fun σ N hp hpn hk hkn hfree=>?_
  obtain ⟨hd,hdn⟩:=HD0 hp hpn;clear hp hpn
  have hcs:=And.intro c1 True.intro
  clear c1
  exact W0
 have g2i:¬ (8:Int) < (L.length:Int) - (F.length:Int):=by omega
 rw [decide_eq_false g2]
 by_cases g3:8 < ds.length
 ·have g3i:(8:Int) < (ds.length:Int):=by omega
  rw [decide_eq_true g3]
  simp only [Bool.true_or,Bool.false_or]
  clear c2
  refine Bd (hpre:=by simp [hE]) func215 ntmps215 fun σ N hp hpn hk hkn hfree=>?_
  obtain ⟨hd,hdn⟩:=HD0 hp hpn;clear hp hpn
  have hcs:=And.intro c1 True.intro
  clear c1
  exact W0
 have g3i:¬ (8:Int) < (ds.length:Int):=by omega
 rw [decide_eq_false g3]
 simp only [Bool.false_or]
 refine Bd (hpre:=by simp [hE]) func215 ntmps215 fun σ N hp hpn hk hkn hfree=>?_
 obtain ⟨hd,hdn⟩:=HD0 hp hpn;clear hp hpn
 have hcs:=And.intro c1 (And.intro c2 True.intro)
 clear c1 c2
 exact W0
def wX (b:Bu):Bool:=!rqB b.req || (decide (b.epoch < 1) || (decide (1000 < b.epoch) || (decide (b.serial < 1) || decide (1073741824 < b.serial))))
def z7 (b:Bu):Nat:=if wX b=true then 1 else if qE b=true then 2 else if b.cavs.any (fun c=>!xz c)=true∨b.dis.any yr=true then 5 else if b.dis.any qv=true then 6 else if twU b.dis b.dis.length=true then 10 else 0
theorem xi {α:Type} {l:List α} {q:α→Bool} (h:l.any q=false):∀ x∈l,q x=false:=fun x hx=>by
 cases hq:q x with
 | false=>rfl
 | true=>rw [List.any_eq_true.2 ⟨x,hx,hq⟩] at h;cases h
theorem vI {d:Bo} (h:yr d=false):1≤d.ticket.length∧d.ticket.length≤1024∧∀ p∈d.conds,yc p=true:=by
 unfold yr at h
 simp only [Bool.or_eq_false_iff,decide_eq_false_iff_not] at h
 obtain ⟨⟨h1,h2⟩,h3⟩:=h
 exact ⟨by omega,by omega,fun p hp=>by simpa using xi h3 p hp⟩
theorem xG {b:Bu} (hb:BuIn b) (h:z7 b=0):BuV b:=by
 unfold z7 at h
 split at h
 ·cases h
 rename_i h1
 split at h
 ·cases h
 rename_i h2
 split at h
 ·cases h
 rename_i h3
 simp only [Bool.not_eq_true] at h1 h2
 unfold wX at h1
 simp only [Bool.or_eq_false_iff,decide_eq_false_iff_not,Bool.not_eq_false'] at h1
 unfold qE at h2
 simp only [Bool.or_eq_false_iff,decide_eq_false_iff_not] at h2
 simp only [not_or,Bool.not_eq_true] at h3
 obtain ⟨a1,a2,a3,a4,a5⟩:=h1
 obtain ⟨b1,b2,b3,b4⟩:=h2
 refine ⟨a1,by omega,by omega,by omega,by omega,by omega,fun c hc=>⟨by simpa using xi h3.1 c hc,hb.ok c hc⟩,by omega,fun d hd=>?_⟩
 obtain ⟨c1,c2,c3⟩:=vI (xi h3.2 d hd)
 have c4:=xi b4 d hd
 unfold yQ at c4
 exact ⟨c1,c2,by simpa using c4,fun p hp=>⟨c3 p hp,(hb.di d hd).ok p hp⟩⟩
set_option maxHeartbeats 1000000 in
theorem jq (b:Bu) (hb:BuIn b) (d k:Nat):ACall prog 174 [ye b] k [(d,zS)] (.lit (.int .i64 (z7 b:Nat))) []:=by
 have c1:=wg b.req
 have c2:=qX b hb d zS (by simp)
 have c3:=jh b.cavs (fun c=>!xz c) 217 d zS (by simp) (fun x hx k=>q9 x (hb.ok x hx) d k) (by have:=hb.cl;omega)
 have c4:=va b.dis yr 219 d zS (by simp) (fun x hx k=>zaI x (hb.di x hx) d k) (by have:=hb.dl;omega)
 have c5:=va b.dis qv 220 d zS (by simp) (fun x hx k=>jt x (hb.di x hx) d zS (by simp) k) (by have:=hb.dl;omega)
 have c6:b.dis.any yr=false→∀ k,ACall prog 221 [.slice none (b.dis.map zC)] k [] (.lit (.bool (twU b.dis b.dis.length))) []:=fun h k=>jA b.dis hb.dl (fun x hx=>(vI (xi h x hx)).2.1) k
 clear hb
 unfold z7 wX
 generalize qE b=vc at *
 obtain ⟨rq,ep,se,L,pf,ds⟩:=b
 have hbA:ye ⟨rq,ep,se,L,pf,ds⟩=.agg [yD rq,.lit (.int .i64 ep),.lit (.int .i64 se),.slice none (L.map z8),zd pf,.slice none (ds.map zC)]:=rfl
 simp only at c1 c2 c3 c4 c5 c6 ⊢
 generalize ds.any yr=vb at *
 generalize ds.any qv=vr at *
 generalize twU ds ds.length=vt at *
 generalize (L.any fun c=>!xz c)=vl at *
 cases hr:rqB rq with
 | false=>
  rw [hr] at c1
  simp only [Bool.not_false,Bool.true_or,if_true]
  clear c2 c3 c4 c5 c6
  refine Bd func174 ntmps174 fun σ N hp hpn hk hkn hfree=>?_
  obtain ⟨hd,hdn⟩:=HD0 hp hpn;clear hp hpn
  have hcs:=And.intro c1 True.intro
  clear c1
  exact W0
 | true=>
  rw [hr] at c1
  simp only [Bool.not_true,Bool.false_or]
  by_cases g1:ep < 1
  ·rw [decide_eq_true g1]
   simp only [Bool.true_or,if_true]
   clear c2 c3 c4 c5 c6
   refine Bd func174 ntmps174 fun σ N hp hpn hk hkn hfree=>?_
   obtain ⟨hd,hdn⟩:=HD0 hp hpn;clear hp hpn
   have hcs:=And.intro c1 True.intro
   clear c1
   exact W0
  rw [decide_eq_false g1]
  by_cases g2:1000 < ep
  ·rw [decide_eq_true g2]
   simp only [Bool.true_or,Bool.false_or,if_true]
   clear c2 c3 c4 c5 c6
   refine Bd func174 ntmps174 fun σ N hp hpn hk hkn hfree=>?_
   obtain ⟨hd,hdn⟩:=HD0 hp hpn;clear hp hpn
   have hcs:=And.intro c1 True.intro
   clear c1
   exact W0
  rw [decide_eq_false g2]
  by_cases g3:se < 1
  ·rw [decide_eq_true g3]
   simp only [Bool.true_or,Bool.false_or,if_true]
   clear c2 c3 c4 c5 c6
   refine Bd func174 ntmps174 fun σ N hp hpn hk hkn hfree=>?_
   obtain ⟨hd,hdn⟩:=HD0 hp hpn;clear hp hpn
   have hcs:=And.intro c1 True.intro
   clear c1
   exact W0
  rw [decide_eq_false g3]
  by_cases g4:1073741824 < se
  ·rw [decide_eq_true g4]
   simp only [Bool.or_true,if_true]
   clear c2 c3 c4 c5 c6
   refine Bd func174 ntmps174 fun σ N hp hpn hk hkn hfree=>?_
   obtain ⟨hd,hdn⟩:=HD0 hp hpn;clear hp hpn
   have hcs:=And.intro c1 True.intro
   clear c1
   exact W0
  rw [decide_eq_false g4]
  simp only [Bool.or_self,Bool.false_eq_true,if_false]
  cases vc with
  | true=>
   simp only [if_true]
   clear c3 c4 c5 c6
   refine Bd func174 ntmps174 fun σ N hp hpn hk hkn hfree=>?_
   obtain ⟨hd,hdn⟩:=HD0 hp hpn;clear hp hpn
   have hcs:=And.intro c1 (And.intro c2 True.intro)
   clear c1 c2
   exact W0
  | false=>
   simp only [Bool.false_eq_true,if_false]
   cases vl with
   | true=>
    simp only [true_or,if_true]
    clear c4 c5 c6
    refine Bd func174 ntmps174 fun σ N hp hpn hk hkn hfree=>?_
    obtain ⟨hd,hdn⟩:=HD0 hp hpn;clear hp hpn
    have hcs:=And.intro c1 (And.intro c2 (And.intro c3 True.intro))
    clear c1 c2 c3
    exact W0
   | false=>
    simp only [Bool.false_eq_true,false_or]
    cases vb with
    | true=>
     simp only [if_true]
     clear c5 c6
     refine Bd func174 ntmps174 fun σ N hp hpn hk hkn hfree=>?_
     obtain ⟨hd,hdn⟩:=HD0 hp hpn;clear hp hpn
     have hcs:=And.intro c1 (And.intro c2 (And.intro c3 (And.intro c4 True.intro)))
     clear c1 c2 c3 c4
     exact W0
    | false=>
     simp only [Bool.false_eq_true,if_false]
     have c6:=c6 rfl
     cases vr with
     | true=>
      simp only [if_true]
      clear c6
      refine Bd func174 ntmps174 fun σ N hp hpn hk hkn hfree=>?_
      obtain ⟨hd,hdn⟩:=HD0 hp hpn;clear hp hpn
      have hcs:=And.intro c1 (And.intro c2 (And.intro c3 (And.intro c4 (And.intro c5 True.intro))))
      clear c1 c2 c3 c4 c5
      exact W0
     | false=>
      simp only [Bool.false_eq_true,if_false]
      cases vt with
      | true=>
       simp only [if_true]
       refine Bd func174 ntmps174 fun σ N hp hpn hk hkn hfree=>?_
       obtain ⟨hd,hdn⟩:=HD0 hp hpn;clear hp hpn
       have hcs:=And.intro c1 (And.intro c2 (And.intro c3 (And.intro c4 (And.intro c5 (And.intro c6 True.intro)))))
       clear c1 c2 c3 c4 c5 c6
       exact W0
      | false=>
       simp only [Bool.false_eq_true,if_false]
       refine Bd func174 ntmps174 fun σ N hp hpn hk hkn hfree=>?_
       obtain ⟨hd,hdn⟩:=HD0 hp hpn;clear hp hpn
       have hcs:=And.intro c1 (And.intro c2 (And.intro c3 (And.intro c4 (And.intro c5 (And.intro c6 True.intro)))))
       clear c1 c2 c3 c4 c5 c6
       exact W0
def yZ (b:Bu):Nat:=if z7 b≠0 then z7 b else if 4096 < (vh b).length then 2 else 0
theorem vK {b:Bu} (hb:BuIn b) (h:yZ b=0):BuV b∧(vh b).length≤4096:=by
 unfold yZ at h
 split at h
 ·rename_i h1;exact absurd h h1
 ·rename_i h1
  split at h
  ·cases h
  ·exact ⟨xG hb (by simpa using h1),by omega⟩
theorem wo (b:Bu) (hb:BuIn b) (d k:Nat):ACall prog 107 [ye b] k [(d,zS)] (.lit (.int .i64 (yZ b:Nat))) []:=by
 have c1:=jq b hb d
 have hv:=xG hb
 unfold yZ
 by_cases h:z7 b=0
 ·have c2:=ql b (hv h) d
  rw [if_neg (by simpa using h)]
  rw [h] at c1
  clear hv hb h
  generalize vh b=x at *
  by_cases h2:4096 < x.length
  ·have h2i:(4096:Int) < (x.length:Int):=by omega
   rw [if_pos h2]
   refine Bd func107 ntmps107 fun σ N hp hpn hk hkn hfree=>?_
   obtain ⟨hd,hdn⟩:=HD0 hp hpn;clear hp hpn
   have hcs:=And.intro c1 (And.intro c2 True.intro)
   clear c1 c2
   exact W0
  ·have h2i:¬ (4096:Int) < (x.length:Int):=by omega
   rw [if_neg h2]
   refine Bd func107 ntmps107 fun σ N hp hpn hk hkn hfree=>?_
   obtain ⟨hd,hdn⟩:=HD0 hp hpn;clear hp hpn
   have hcs:=And.intro c1 (And.intro c2 True.intro)
   clear c1 c2
   exact W0
 ·rw [if_pos h]
  clear hv hb
  generalize z7 b=e at *
  have hei:((e:Int) != 0)=true:=by simp;omega
  refine Bd func107 ntmps107 fun σ N hp hpn hk hkn hfree=>?_
  obtain ⟨hd,hdn⟩:=HD0 hp hpn;clear hp hpn
  have hcs:=And.intro c1 True.intro
  clear c1
  exact W0
theorem ji (cs bs:List UInt8) (ha:cs.length≤9223372036854775807) (k:Nat):ACall prog 60 [.slice none (cs.map za),.slice none (bs.map za)] k [] (.lit (.bool (decide (cs=bs)))) []:=by
 by_cases hl:cs.length=bs.length
 ·refine Bd func60 ntmps60 fun σ N hp hpn hk hkn hfree=>?_
  refine Wk ?_
  refine ze zi (by kernel_rfl) [4,5,11,12,13,14,15,16,17,18,19,20,21,22,23,24,25] [] (fun m_ s_ σ_ n_=>∃ (u:Nat),m_=cs.length - u∧s_ 5=.lit (.int .i64 u)∧(u≤cs.length)∧(cs.take u=bs.take u)) ⟨_,0,rfl,WF,WC,WC⟩ ?_
  intro m_1 s_1 σ_1 n_1 hs_1 hf_1 hn_1 hI_1
  obtain ⟨u,hm_1,h1_5,hu,heq⟩:=hI_1
  have h1_0:=KS hs_1 0
  have h1_1:=KS hs_1 1
  have hlow:=KL (N:=N) (σ:=σ) hf_1
  by_cases hul:u=cs.length
  ·have hr:decide (cs=bs)=true:=by
    rw [hul,List.take_length,hl,List.take_length] at heq
    simp [heq]
   subst hul
   rw [hr]
   clear heq hr
   exact W0
  ·have hua:u < cs.length:=by omega
   have hub:u < bs.length:=by omega
   obtain ⟨x,hx⟩:∃ x,cs[u]=x:=⟨_,rfl⟩
   obtain ⟨y,hy⟩:∃ y,bs[u]=y:=⟨_,rfl⟩
   have hxb:za x=.lit (.int .u8 x.toNat):=rfl
   have hyb:za y=.lit (.int .u8 y.toNat):=rfl
   by_cases hxy:x=y
   ·have heq2:cs.take (u+1)=bs.take (u+1):=by
     rw [List.take_add_one,List.take_add_one,heq,List.getElem?_eq_getElem hua,List.getElem?_eq_getElem hub,hx,hy,hxy]
    subst hxy
    clear heq
    refine Wk ?_
    exact ⟨WS,WG,WN,_,(show cs.length - (u+1) < m_1 by omega),u+1,rfl,WF,WC,WC⟩
   ·have hr:decide (cs=bs)=false:=by
     have:cs≠bs:=fun h=>by subst h;rw [hx] at hy;exact hxy hy
     simp [this]
    rw [hr]
    have hne:((x.toNat:Int) != (y.toNat:Int))=true:=by
     simp only [bne_iff_ne,ne_eq]
     intro h
     exact hxy (UInt8.toNat_inj.1 oo)
    clear heq hr
    exact W0
 ·have hr:decide (cs=bs)=false:=by
   have:cs≠bs:=fun h=>hl (by rw [h])
   simp [this]
  rw [hr]
  refine Bd func60 ntmps60 fun σ N hp hpn hk hkn hfree=>?_
  exact W0
theorem zdB {P:Program} {N:Nat} {b:Code} {Q:AExit→Cfg→Prop} {next:Cfg→Prop} {s:Slots} {σ:Nat→Ent} {n:Nat} (L:List Nat) (t:Tmp) (v:AV) (m:Nat)
  (h1:SKeep L s s→aw P N b (aThen (fun c=>SKeep L s c.s∧c.s t=v∧c.σ=σ∧c.n=m) Q) ⟨s,σ,n⟩) (h2:∀ s',SKeep L s s'→s' t=v→next ⟨s',σ,m⟩):aw P N b (aThen next Q) ⟨s,σ,n⟩:=
 zaB _ (h1 (SKeep.refl L s)) fun c ⟨a,b,c1,c2⟩=>by
  obtain ⟨s',σ',n'⟩:=c
  simp only at c1 c2
  subst c1 c2
  exact h2 s' a b
theorem xq {α:Type} (q:α→Bool) {l:List α} {u:Nat} {z:α} (h:u < l.length) (hz:l[u]=z):(l.take (u+1)).any q=((l.take u).any q || q z):=by
 rw [List.take_add_one,List.getElem?_eq_getElem h,hz];simp
theorem zdw {b:Bu} (h:wX b=true):yZ b=1:=by
 have:z7 b=1:=by unfold z7;rw [if_pos h]
 unfold yZ;rw [this];rfl
theorem zay {b:Bu} (h:wX b=false) (h2:qE b=true):yZ b=2:=by
 have:z7 b=2:=by unfold z7;rw [if_neg (by rw [h];simp),if_pos h2]
 unfold yZ;rw [this];rfl
theorem zdt {b:Bu} (h:wX b=false) (h2:qE b=false) (h3:(b.cavs.any (fun c=>!xz c) || b.dis.any yr)=true):yZ b=5:=by
 have:z7 b=5:=by unfold z7;rw [if_neg (by rw [h];simp),if_neg (by rw [h2];simp),if_pos (by simpa using h3)]
 unfold yZ;rw [this];rfl
theorem zdv {b:Bu} (h:wX b=false) (h2:qE b=false) (h3:(b.cavs.any (fun c=>!xz c) || b.dis.any yr)=false) (h4:b.dis.any qv=true):yZ b=6:=by
 have:z7 b=6:=by unfold z7;rw [if_neg (by rw [h];simp),if_neg (by rw [h2];simp),if_neg (by simpa using h3),if_pos h4]
 unfold yZ;rw [this];rfl
theorem zgk {b:Bu} (h:wX b=false) (h2:qE b=false) (h3:(b.cavs.any (fun c=>!xz c) || b.dis.any yr)=false) (h4:b.dis.any qv=false) (h5:twU b.dis b.dis.length=true):yZ b=10:=by
 have:z7 b=10:=by unfold z7;rw [if_neg (by rw [h];simp),if_neg (by rw [h2];simp),if_neg (by simpa using h3),if_neg (by rw [h4];simp),if_pos h5]
 unfold yZ;rw [this];rfl
theorem zdu {b:Bu} (h:wX b=false) (h2:qE b=false) (h3:(b.cavs.any (fun c=>!xz c) || b.dis.any yr)=false) (h4:b.dis.any qv=false) (h5:twU b.dis b.dis.length=false):z7 b=0:=by
 unfold z7;rw [if_neg (by rw [h];simp),if_neg (by rw [h2];simp),if_neg (by simpa using h3),if_neg (by rw [h4];simp),if_neg (by rw [h5];simp)]
set_option maxHeartbeats 1000000 in
theorem js (b:Bu) (h:wX b=true) (k:Nat):ACall prog 144 [ye b] k [] (.lit (.int .i64 1)) []:=by
 have c1:=yB b.req
 unfold wX at h
 obtain ⟨rq,ep,se,L,pf,ds⟩:=b
 have hbA:ye ⟨rq,ep,se,L,pf,ds⟩=.agg [yD rq,.lit (.int .i64 ep),.lit (.int .i64 se),.slice none (L.map z8),zd pf,.slice none (ds.map zC)]:=rfl
 simp only at c1 h
 cases hr:rqB rq with
 | false=>
  rw [hr] at c1
  clear h
  refine Bd func144 ntmps144 fun σ N hp hpn hk hkn hfree=>?_
  have hcs:=And.intro c1 True.intro
  clear c1
  exact W0
 | true=>
  rw [hr] at c1 h
  simp only [Bool.not_true,Bool.false_or,Bool.or_eq_true,decide_eq_true_eq] at h
  by_cases g1:ep < 1
  ·clear h
   refine Bd func144 ntmps144 fun σ N hp hpn hk hkn hfree=>?_
   have hcs:=And.intro c1 True.intro
   clear c1
   exact W0
  by_cases g2:1000 < ep
  ·clear h
   refine Bd func144 ntmps144 fun σ N hp hpn hk hkn hfree=>?_
   have hcs:=And.intro c1 True.intro
   clear c1
   exact W0
  by_cases g3:se < 1
  ·clear h
   refine Bd func144 ntmps144 fun σ N hp hpn hk hkn hfree=>?_
   have hcs:=And.intro c1 True.intro
   clear c1
   exact W0
  have g4:1073741824 < se:=by omega
  clear h
  refine Bd func144 ntmps144 fun σ N hp hpn hk hkn hfree=>?_
  have hcs:=And.intro c1 True.intro
  clear c1
  exact W0
theorem qw {b:Bu} (h:wX b=false):rqB b.req=true∧¬ b.epoch < 1∧¬ 1000 < b.epoch∧¬ b.serial < 1∧¬ 1073741824 < b.serial:=by
 unfold wX at h
 simp only [Bool.or_eq_false_iff,decide_eq_false_iff_not,Bool.not_eq_false'] at h
 exact h
def qi (b:Bu):Bool:=decide (64 < b.cavs.length) || (decide (8 < yF b.cavs) || decide (8 < b.dis.length))
set_option maxHeartbeats 1000000 in
theorem jr (b:Bu) (hb:BuIn b) (h:wX b=false) (h2:qi b=true) (k:Nat):ACall prog 144 [ye b] k [] (.lit (.int .i64 2)) []:=by
 have c1:=yB b.req
 have c2:=vu b.cavs (by have:=hb.cl;omega)
 obtain ⟨r1,r2,r3,r4,r5⟩:=qw h
 unfold qi at h2
 rw [r1] at c1
 clear h hb
 obtain ⟨rq,ep,se,L,pf,ds⟩:=b
 have hbA:ye ⟨rq,ep,se,L,pf,ds⟩=.agg [yD rq,.lit (.int .i64 ep),.lit (.int .i64 se),.slice none (L.map z8),zd pf,.slice none (ds.map zC)]:=rfl
 simp only at c1 c2 h2 r2 r3 r4 r5
 clear r1
 generalize yF L=T at *
 simp only [Bool.or_eq_true,decide_eq_true_eq] at h2
 by_cases g1:64 < L.length
 ·have g1i:(64:Int) < (L.length:Int):=by omega
  clear h2 c2
  refine Bd func144 ntmps144 fun σ N hp hpn hk hkn hfree=>?_
  have hcs:=And.intro c1 True.intro
  clear c1
  exact W0
 have g1i:¬ (64:Int) < (L.length:Int):=by omega
 by_cases g2:8 < T
 ·have g2i:(8:Int) < (T:Int):=by omega
  clear h2
  refine Bd func144 ntmps144 fun σ N hp hpn hk hkn hfree=>?_
  have hcs:=And.intro c1 (And.intro c2 True.intro)
  clear c1 c2
  exact W0
 have g2i:¬ (8:Int) < (T:Int):=by omega
 have g3:8 < ds.length:=by omega
 have g3i:(8:Int) < (ds.length:Int):=by omega
 clear h2
 refine Bd func144 ntmps144 fun σ N hp hpn hk hkn hfree=>?_
 have hcs:=And.intro c1 (And.intro c2 True.intro)
 clear c1 c2
 exact W0
set_option maxHeartbeats 8000000 in
theorem kf (b:Bu) (hb:BuIn b) (h:wX b=false) (h2:qi b=false) (k:Nat):ACall prog 144 [ye b] k [] (.lit (.int .i64 (yZ b:Nat))) []:=by
 have c1:=yB b.req
 have c2:=vu b.cavs (by have:=hb.cl;omega)
 have c3:=wd b.cavs (by have:=hb.cl;omega) hb.ok
 have e2:b.dis.any yQ=true→yZ b=2:=fun hl=>zay h (by
  unfold qi at h2;unfold qE
  rw [hl];simp)
 have hcn:b.dis.any yQ=false→qE b=false:=fun hl=>by
  unfold qi at h2;unfold qE
  rw [hl];simpa using h2
 have e5:b.dis.any yQ=false→(b.cavs.any (fun c=>!xz c) || b.dis.any yr)=true→yZ b=5:=fun hl h3=>zdt h (hcn hl) h3
 have e6:b.dis.any yQ=false→(b.cavs.any (fun c=>!xz c) || b.dis.any yr)=false→b.dis.any qv=true→yZ b=6:=fun hl h3 h4=>zdv h (hcn hl) h3 h4
 have e10:b.dis.any yQ=false→(b.cavs.any (fun c=>!xz c) || b.dis.any yr)=false→b.dis.any qv=false→twU b.dis b.dis.length=true→yZ b=10:=fun hl h3 h4 h5=>zgk h (hcn hl) h3 h4 h5
 have e0:b.dis.any yQ=false→(b.cavs.any (fun c=>!xz c) || b.dis.any yr)=false→b.dis.any qv=false→twU b.dis b.dis.length=false→(yZ b=if 4096 < (vh b).length then 2 else 0)∧∀ k,ACall prog 196 [ye b] k [] (.slice none ((vh b).map za)) []:=fun hl h3 h4 h5=>by
  have hp:=zdu h (hcn hl) h3 h4 h5
  refine ⟨by unfold yZ;rw [if_neg (by rw [hp];simp)],fun k=>wG b (xG hb hp) k⟩
 obtain ⟨r1,r2,r3,r4,r5⟩:=qw h
 unfold qi at h2
 rw [r1] at c1
 have hdi:=hb.di
 have hdl:=hb.dl
 clear h hb hcn
 generalize yZ b=R at *
 generalize vh b=X at *
 obtain ⟨rq,ep,se,L,pf,ds⟩:=b
 have hbA:ye ⟨rq,ep,se,L,pf,ds⟩=.agg [yD rq,.lit (.int .i64 ep),.lit (.int .i64 se),.slice none (L.map z8),zd pf,.slice none (ds.map zC)]:=rfl
 simp only at c1 c2 c3 h2 r2 r3 r4 r5 e2 e5 e6 e10 e0 hdi hdl
 clear r1
 generalize yF L=T at *
 generalize (L.any fun c=>!xz c)=vl at *
 simp only [Bool.or_eq_false_iff,decide_eq_false_iff_not] at h2
 obtain ⟨g1,g2,g3⟩:=h2
 have g1i:¬ (64:Int) < (L.length:Int):=by omega
 have g2i:¬ (8:Int) < (T:Int):=by omega
 have g3i:¬ (8:Int) < (ds.length:Int):=by omega
 have z3:(vl || (ds.take 0).any yr)=vl:=by simp
 have z4:(ds.take 0).any qv=false:=by simp
 have z5:twU ds 0=false:=rfl
 have z6:(ds.take 0).any yQ=false:=by simp
 refine Bd func144 ntmps144 fun σ N hp hpn hk hkn hfree=>?_
 have hcs:=And.intro c1 (And.intro c2 (And.intro c3 True.intro))
 clear c1 c2 c3
 refine Wk ?_
 clear hcs
 refine ze zi (by kernel_rfl) (2::3::4::5::6::7::8::9::54::55::56::57::58::59::60::61::62::63::64::65::66::67::68::69::70::71::72::73::74::75::76::77::78::79::80::81::82::83::84::85::86::87::88::89::90::91::92::93::94::95::96::97::98::99::100::101::102::103::104::105::106::107::108::109::110::111::112::113::114::115::116::117::118::119::120::121::122::123::124::125::126::[]) [] (fun m_ s_ σ_ n_=>∃ (u:Nat) (F3:Bool) (F4:Bool) (F5:Bool),m_=ds.length - u∧s_ 6=.lit (.int .i64 u)∧s_ 3=.lit (.bool F3)∧s_ 4=.lit (.bool F4)∧s_ 5=.lit (.bool F5)∧(u≤ds.length)∧((ds.take u).any yQ=false)∧((vl || (ds.take u).any yr)=F3)∧((ds.take u).any qv=F4)∧(twU ds u=F5)) ⟨_,0,vl,false,false,rfl,WF,WF,WF,WF,WC,WC,WC,WC,WC⟩ ?_
 intro m_1 s_1 σ_1 n_1 hs_1 hf_1 hn_1 hI_1
 obtain ⟨u,F3,F4,F5,hm_1,h1_6,h1_3,h1_4,h1_5,hu,hfl,hf3,hf4,hf5⟩:=hI_1
 have h1_1:=KS hs_1 1
 have k1_0:=KE hf_1 (N)
 have hlow:=KL (N:=N) (σ:=σ) hf_1
 clear z3 z4 z5 z6
 by_cases hul:u=ds.length
 ·subst hul
  rw [List.take_length] at hfl hf3 hf4
  clear e2
  by_cases a3:F3=true
  ·subst a3
   have hR:=e5 hfl hf3
   clear e5 e6 e10 e0 hfl hf3 hf4 hf5 hdi
   subst hR
   exact W0
  ·have a3:F3=false:=by simpa using a3
   subst a3
   by_cases a4:F4=true
   ·subst a4
    have hR:=e6 hfl hf3 hf4
    clear e5 e6 e10 e0 hfl hf3 hf4 hf5 hdi
    subst hR
    exact W0
   ·have a4:F4=false:=by simpa using a4
    subst a4
    by_cases a5:F5=true
    ·subst a5
     have hR:=e10 hfl hf3 hf4 hf5
     clear e5 e6 e10 e0 hfl hf3 hf4 hf5 hdi
     subst hR
     exact W0
    ·have a5:F5=false:=by simpa using a5
     subst a5
     obtain ⟨hR,c4⟩:=e0 hfl hf3 hf4 hf5
     rw [hbA] at c4
     clear e5 e6 e10 e0 hfl hf3 hf4 hf5 hdi
     by_cases hX:4096 < X.length
     ·have hXi:(4096:Int) < (X.length:Int):=by omega
      rw [if_pos hX] at hR
      subst hR
      have hcs:=And.intro c4 True.intro
      clear c4
      exact W0
     ·have hXi:¬ (4096:Int) < (X.length:Int):=by omega
      rw [if_neg hX] at hR
      subst hR
      have hcs:=And.intro c4 True.intro
      clear c4
      exact W0
 ·have hui:u < ds.length:=by omega
  have hz1:=hdi _ (List.getElem_mem hui)
  obtain ⟨z,hz⟩:∃ z,ds[u]=z:=⟨_,rfl⟩
  rw [hz] at hz1
  have t6:=xq yQ hui hz
  have t3:=xq yr hui hz
  have t4:=xq qv hui hz
  have t5:=vf ds u
  rw [List.getD_eq_getElem?_getD,List.getElem?_eq_getElem hui,Option.getD_some,hz] at t5
  rw [hfl,Bool.false_or] at t6
  rw [hf4] at t4
  rw [hf5] at t5
  have t3':(vl || (ds.take (u+1)).any yr)=(F3 || yr z):=by rw [t3,← Bool.or_assoc,hf3]
  have hd1:=hz1.tl
  have hd2:=hz1.cl
  have hd3:=hz1.ok
  obtain ⟨ti,cs,pz⟩:=z
  have hbo:zC ⟨ti,cs,pz⟩=.agg [.slice none (ti.map za),.slice none (cs.map zU),zd pz]:=rfl
  simp only at hd1 hd2 hd3
  clear hz1 t3 hf3 hf4 hf5 e5 e6 e10 e0
  by_cases hlg:8 < cs.length
  ·have hlgi:(8:Int) < (cs.length:Int):=by omega
   have hR:R=2:=e2 (by
    rw [List.any_eq_true]
    refine ⟨_,List.getElem_mem hui,?_⟩
    rw [hz];unfold yQ;simpa using hlg)
   subst hR
   clear e2 t3' t4 t5 t6 hdi hd3
   exact W0
  ·have hlgi:¬ (8:Int) < (cs.length:Int):=by omega
   have hlb:yQ ⟨ti,cs,pz⟩=false:=by unfold yQ;simpa using hlg
   rw [hlb] at t6
   have hbb:yr ⟨ti,cs,pz⟩=((decide (ti.length < 1) || decide (1024 < ti.length)) || cs.any fun p=>!yc p):=rfl
   have hrb:qv ⟨ti,cs,pz⟩=cs.any fun p=>decide (p.kind=7):=rfl
   rw [hbb,← Bool.or_assoc] at t3'
   rw [hrb] at t4
   obtain ⟨G3,hG3⟩:∃ G,(F3 || (decide (ti.length < 1) || decide (1024 < ti.length)))=G:=⟨_,rfl⟩
   rw [hG3] at t3'
   clear hlb hbb hrb e2
   have y3:(G3 || (cs.take 0).any fun p=>!yc p)=G3:=by simp
   have y4:(F4 || (cs.take 0).any fun p=>decide (p.kind=7))=F4:=by simp
   have y5:(F5 || (ds.take 0).any fun x=>decide (x.ticket=ti))=F5:=by simp
   refine Wm ?_
   iterate 3 refine Wz ?_
   refine zdB [3,70,71,72,73,74,75,76,77,78,79,80,81,82] 3 (.lit (.bool G3)) (n_1+30) (fun hsr=>?_) (fun s9 hs9 h9_3=>?_)
   ·by_cases a3:F3=true
    ·subst a3
     rw [Bool.true_or] at hG3
     subst hG3
     clear t3' t4 t5 t6 y3 y4 y5 hdi hd3
     refine Wk ?_
     exact ⟨WS,WF,rfl,by first | rfl | omega⟩
    ·have a3:F3=false:=by simpa using a3
     subst a3
     rw [Bool.false_or] at hG3
     clear t3' t4 t5 t6 y3 y4 y5 hdi hd3
     by_cases b1:ti.length < 1
     ·have b1i:(ti.length:Int) < 1:=by omega
      rw [decide_eq_true b1,Bool.true_or] at hG3
      subst hG3
      refine Wk ?_
      exact ⟨WS,WF,rfl,by first | rfl | omega⟩
     ·have b1i:¬ (ti.length:Int) < 1:=by omega
      rw [decide_eq_false b1,Bool.false_or] at hG3
      by_cases b2:1024 < ti.length
      ·have b2i:(1024:Int) < (ti.length:Int):=by omega
       rw [decide_eq_true b2] at hG3
       subst hG3
       refine Wk ?_
       exact ⟨WS,WF,rfl,by first | rfl | omega⟩
      ·have b2i:¬ (1024:Int) < (ti.length:Int):=by omega
       rw [decide_eq_false b2] at hG3
       subst hG3
       refine Wk ?_
       exact ⟨WS,WF,rfl,by first | rfl | omega⟩
   have j1:=(hs9.at 1 (by decide)).trans WE
   have j4:=(hs9.at 4 (by decide)).trans WE
   have j5:=(hs9.at 5 (by decide)).trans WE
   have j6:=(hs9.at 6 (by decide)).trans WE
   have j7:=(hs9.at 7 (by decide)).trans WE
   clear hG3
   refine Wk ?_
   refine ze zi (by kernel_rfl) [3,4,8,83,84,85,86,87,88,89,90,91,92,93,94,95,96,97,98,99,100,101,102,103,104,105,106,107,108,109] [] (fun m_ s_ σ_ n_=>∃ (v:Nat) (H3:Bool) (H4:Bool),m_=cs.length - v∧s_ 8=.lit (.int .i64 v)∧s_ 3=.lit (.bool H3)∧s_ 4=.lit (.bool H4)∧(v≤cs.length)∧((G3 || (cs.take v).any fun p=>!yc p)=H3)∧((F4 || (cs.take v).any fun p=>decide (p.kind=7))=H4)) ⟨_,0,G3,F4,rfl,WF,WF,WF,WC,WC,WC⟩ ?_
   intro m_2 s_2 σ_2 n_2 hs_2 hf_2 hn_2 hI_2
   obtain ⟨v,H3,H4,hm_2,h2_8,h2_3,h2_4,hv,hh3,hh4⟩:=hI_2
   have h2_1:=KS hs_2 1
   have h2_2:=KS hs_2 2
   have h2_5:=KS hs_2 5
   have h2_6:=KS hs_2 6
   have h2_7:=KS hs_2 7
   have h2_54:=KS hs_2 54
   have h2_55:=KS hs_2 55
   have h2_56:=KS hs_2 56
   have h2_57:=KS hs_2 57
   have h2_58:=KS hs_2 58
   have h2_61:=KS hs_2 61
   have h2_62:=KS hs_2 62
   have h2_63:=KS hs_2 63
   have h2_64:=KS hs_2 64
   have h2_65:=KS hs_2 65
   have h2_66:=KS hs_2 66
   have h2_67:=KS hs_2 67
   have h2_68:=KS hs_2 68
   have h2_69:=KS hs_2 69
   have h2_70:=KS hs_2 70
   have h2_71:=KS hs_2 71
   have h2_72:=KS hs_2 72
   have h2_73:=KS hs_2 73
   have h2_74:=KS hs_2 74
   have h2_75:=KS hs_2 75
   have h2_76:=KS hs_2 76
   have h2_77:=KS hs_2 77
   have h2_78:=KS hs_2 78
   have h2_79:=KS hs_2 79
   have h2_80:=KS hs_2 80
   have h2_81:=KS hs_2 81
   have h2_82:=KS hs_2 82
   have k2_0:=KE hf_2 (N)
   have k2_1:=KE hf_2 (n_1+5+5)
   have hlow:=KL (N:=N) (σ:=σ) hf_2
   clear y3 y4
   by_cases hvl:v=cs.length
   ·subst hvl
    rw [List.take_length] at hh3 hh4
    rw [hh3] at t3'
    rw [hh4] at t4
    clear hh3 hh4 hd3
    refine Wk ?_
    refine ze zi (by kernel_rfl) [5,9,110,111,112,113,114,115,116,117,118,119,120,121,122,123,124,125,126] [] (fun m_ s_ σ_ n_=>∃ (w:Nat) (H5:Bool),m_=u - w∧s_ 9=.lit (.int .i64 w)∧s_ 5=.lit (.bool H5)∧(w≤u)∧((F5 || (ds.take w).any fun x=>decide (x.ticket=ti))=H5)) ⟨_,0,F5,rfl,WF,WF,WC,WC⟩ ?_
    intro m_3 s_3 σ_3 n_3 hs_3 hf_3 hn_3 hI_3
    obtain ⟨w,H5,hm_3,h3_9,h3_5,hw,hh5⟩:=hI_3
    have h3_1:=KS hs_3 1
    have h3_2:=KS hs_3 2
    have h3_3:=KS hs_3 3
    have h3_4:=KS hs_3 4
    have h3_6:=KS hs_3 6
    have h3_7:=KS hs_3 7
    have h3_8:=KS hs_3 8
    have h3_54:=KS hs_3 54
    have h3_55:=KS hs_3 55
    have h3_56:=KS hs_3 56
    have h3_57:=KS hs_3 57
    have h3_58:=KS hs_3 58
    have h3_61:=KS hs_3 61
    have h3_62:=KS hs_3 62
    have h3_63:=KS hs_3 63
    have h3_64:=KS hs_3 64
    have h3_65:=KS hs_3 65
    have h3_66:=KS hs_3 66
    have h3_67:=KS hs_3 67
    have h3_68:=KS hs_3 68
    have h3_69:=KS hs_3 69
    have h3_70:=KS hs_3 70
    have h3_71:=KS hs_3 71
    have h3_72:=KS hs_3 72
    have h3_73:=KS hs_3 73
    have h3_74:=KS hs_3 74
    have h3_75:=KS hs_3 75
    have h3_76:=KS hs_3 76
    have h3_77:=KS hs_3 77
    have h3_78:=KS hs_3 78
    have h3_79:=KS hs_3 79
    have h3_80:=KS hs_3 80
    have h3_81:=KS hs_3 81
    have h3_82:=KS hs_3 82
    have h3_83:=KS hs_3 83
    have h3_84:=KS hs_3 84
    have h3_85:=KS hs_3 85
    have h3_86:=KS hs_3 86
    have h3_87:=KS hs_3 87
    have h3_88:=KS hs_3 88
    have h3_89:=KS hs_3 89
    have h3_90:=KS hs_3 90
    have h3_91:=KS hs_3 91
    have h3_92:=KS hs_3 92
    have h3_93:=KS hs_3 93
    have h3_94:=KS hs_3 94
    have h3_95:=KS hs_3 95
    have h3_96:=KS hs_3 96
    have h3_97:=KS hs_3 97
    have h3_98:=KS hs_3 98
    have h3_99:=KS hs_3 99
    have h3_100:=KS hs_3 100
    have h3_101:=KS hs_3 101
    have h3_102:=KS hs_3 102
    have h3_103:=KS hs_3 103
    have h3_104:=KS hs_3 104
    have h3_105:=KS hs_3 105
    have h3_106:=KS hs_3 106
    have h3_107:=KS hs_3 107
    have h3_108:=KS hs_3 108
    have h3_109:=KS hs_3 109
    have k3_0:=KE hf_3 (N)
    have k3_1:=KE hf_3 (n_1+5+5)
    have hlow:=KL (N:=N) (σ:=σ) hf_3
    clear y5
    by_cases hwl:w=u
    ·subst hwl
     rw [hh5] at t5
     clear hh5 hdi
     refine Wk ?_
     exact ⟨WS,WG,WN,_,(show ds.length - (w+1) < m_1 by omega),w+1,H3,H4,H5,rfl,WF,WF,WF,WF,WC,WC,WC,WC,WC⟩
    ·have hwi:w < ds.length:=by omega
     have hwui:(w:Int) < (u:Int):=by omega
     obtain ⟨x,hx⟩:∃ x,ds[w]=x:=⟨_,rfl⟩
     have s5:=xq (fun x=>decide (x.ticket=ti)) hwi hx
     obtain ⟨xt,xc,xp⟩:=x
     have hxo:zC ⟨xt,xc,xp⟩=.agg [.slice none (xt.map za),.slice none (xc.map zU),zd xp]:=rfl
     have c1:=ji ti xt hd1
     have hsym:decide (ti=xt)=decide (xt=ti):=by
      by_cases hq:ti=xt
      ·subst hq;rfl
      ·rw [decide_eq_false hq,decide_eq_false (fun h=>hq h.symm)]
     rw [hsym] at c1
     simp only at s5
     have s5':(F5 || (ds.take (w+1)).any fun x=>decide (x.ticket=ti))=(H5 || decide (xt=ti)):=by rw [s5,← Bool.or_assoc,hh5]
     clear hsym s5 hh5 t3' t4 t5 t6 hdi
     generalize decide (xt=ti)=q at *
     have hcs:=And.intro c1 True.intro
     clear c1
     by_cases a5:H5=true
     ·subst a5
      rw [Bool.true_or] at s5'
      refine Wk ?_
      exact ⟨WS,WG,WN,_,(show u - (w+1) < m_3 by omega),w+1,true,rfl,WF,WF,WC,WC⟩
     ·have a5:H5=false:=by simpa using a5
      subst a5
      rw [Bool.false_or] at s5'
      refine Wk ?_
      exact ⟨WS,WG,WN,_,(show u - (w+1) < m_3 by omega),w+1,q,rfl,WF,WF,WC,WC⟩
   ·have hvi:v < cs.length:=by omega
    have hp1:=hd3 _ (List.getElem_mem hvi)
    obtain ⟨c,hcc⟩:∃ c,cs[v]=c:=⟨_,rfl⟩
    rw [hcc] at hp1
    have c1:=vU c hp1
    have s3:=xq (fun p=>!yc p) hvi hcc
    have s4:=xq (fun p=>decide (p.kind=7)) hvi hcc
    have s3':(G3 || (cs.take (v+1)).any fun p=>!yc p)=(H3 || !yc c):=by rw [s3,← Bool.or_assoc,hh3]
    have s4':(F4 || (cs.take (v+1)).any fun p=>decide (p.kind=7))=(H4 || decide (c.kind=7)):=by rw [s4,← Bool.or_assoc,hh4]
    generalize yc c=q at *
    obtain ⟨kd,ms,fr,to,nm,nu⟩:=c
    have hpr:zU ⟨kd,ms,fr,to,nm,nu⟩=.agg [.lit (.int .i64 kd),.lit (.int .u64 ms),.lit (.int .i64 fr),.lit (.int .i64 to),.lit (.string ⟨nm.toArray⟩),.lit (.int .i64 nu)]:=rfl
    simp only at s4'
    clear s3 s4 hh3 hh4 t3' t4 t5 t6 hdi hd3 hp1
    have hcs:=And.intro c1 True.intro
    clear c1
    obtain ⟨r7,hr7,hr7b⟩:∃ r,decide (kd=7)=r∧(kd == 7)=r:=⟨_,rfl,by
     by_cases hk:kd=7
     ·subst hk;rfl
     ·rw [decide_eq_false hk];rw [beq_eq_false_iff_ne];exact hk⟩
    rw [hr7] at s4'
    by_cases a3:H3=true
    ·subst a3
     rw [Bool.true_or] at s3'
     by_cases a4:H4=true
     ·subst a4
      rw [Bool.true_or] at s4'
      refine Wk ?_
      exact ⟨WS,WG,WN,_,(show cs.length - (v+1) < m_2 by omega),v+1,true,true,rfl,WF,WF,WF,WC,WC,WC⟩
     ·have a4:H4=false:=by simpa using a4
      subst a4
      rw [Bool.false_or] at s4'
      refine Wk ?_
      exact ⟨WS,WG,WN,_,(show cs.length - (v+1) < m_2 by omega),v+1,true,r7,rfl,WF,WF,WF,WC,WC,WC⟩
    ·have a3:H3=false:=by simpa using a3
     subst a3
     rw [Bool.false_or] at s3'
     by_cases a4:H4=true
     ·subst a4
      rw [Bool.true_or] at s4'
      refine Wk ?_
      exact ⟨WS,WG,WN,_,(show cs.length - (v+1) < m_2 by omega),v+1,!q,true,rfl,WF,WF,WF,WC,WC,WC⟩
     ·have a4:H4=false:=by simpa using a4
      subst a4
      rw [Bool.false_or] at s4'
      refine Wk ?_
      exact ⟨WS,WG,WN,_,(show cs.length - (v+1) < m_2 by omega),v+1,!q,r7,rfl,WF,WF,WF,WC,WC,WC⟩
theorem wT (b:Bu) (hb:BuIn b) (k:Nat):ACall prog 144 [ye b] k [] (.lit (.int .i64 (yZ b:Nat))) []:=by
 cases h:wX b with
 | true=>rw [zdw h];exact js b h k
 | false=>
  cases h2:qi b with
  | true=>
   rw [zay h (by
    unfold qi at h2;unfold qE
    simp only [Bool.or_eq_true,decide_eq_true_eq] at h2 ⊢
    rcases h2 with h2 | h2 | h2
    ·exact .inl h2
    ·exact .inr (.inl h2)
    ·exact .inr (.inr (.inl h2)))]
   exact jr b hb h h2 k
  | false=>exact kf b hb h h2 k
end Go.Proofs.YtglmjglbobhbbaaGreatDoor
namespace Go.Proofs.YtglmjglbobhbbaaGreatDoor
open _root_.Go.Proofs.Tryz
open Go.Ab
set_option maxHeartbeats 2000000 in
theorem ziW (L:List UInt8) (h:L.length=8):yh (be8 L:Int)=L:=by
 obtain ⟨a,b,c,d,e,f,g,i,rfl⟩:∃ a b c d e f g i,L=[a,b,c,d,e,f,g,i]:=by
  match L,h with
  | [a,b,c,d,e,f,g,i],_=>exact ⟨a,b,c,d,e,f,g,i,rfl⟩
 have ha:=a.toNat_lt
 have hb:=b.toNat_lt
 have hc:=c.toNat_lt
 have hd:=d.toNat_lt
 have he:=e.toNat_lt
 have hf:=f.toNat_lt
 have hg:=g.toNat_lt
 have hi:=i.toNat_lt
 obtain ⟨m,hm⟩:∃ m:Int,((be8 [a,b,c,d,e,f,g,i]:Nat):Int)=m:=⟨_,rfl⟩
 rw [hm]
 simp only [be8,List.foldl_cons,List.foldl_nil] at hm
 have d7:m / 72057594037927936 % 256=a.toNat:=by omega
 have d6:m / 281474976710656 % 256=b.toNat:=by omega
 have d5:m / 1099511627776 % 256=c.toNat:=by omega
 have d4:m / 4294967296 % 256=d.toNat:=by omega
 have d3:m / 16777216 % 256=e.toNat:=by omega
 have d2:m / 65536 % 256=f.toNat:=by omega
 have d1:m / 256 % 256=g.toNat:=by omega
 have d0:m % 256=i.toNat:=by omega
 have e7:=xK m 56
 have e6:=xK m 48
 have e5:=xK m 40
 have e4:=xK m 32
 have e3:=xK m 24
 have e2:=xK m 16
 have e1:=xK m 8
 have e0:=xK m 0
 simp only [Int.reducePow,Int.pow_zero,Int.ediv_one] at e7 e6 e5 e4 e3 e2 e1 e0
 rw [d7] at e7
 rw [d6] at e6
 rw [d5] at e5
 rw [d4] at e4
 rw [d3] at e3
 rw [d2] at e2
 rw [d1] at e1
 rw [d0] at e0
 have key:∀ x y:UInt8,(x.toNat:Int)=(y.toNat:Int)→x=y:=fun x y h=>UInt8.toNat_inj.1 (by exact_mod_cast h)
 unfold yh
 rw [key (sh8 m 56) a e7,key (sh8 m 48) b e6,key (sh8 m 40) c e5,key (sh8 m 32) d e4,key (sh8 m 24) e e3,key (sh8 m 16) f e2,key (sh8 m 8) g e1,key (sh8 m 0) i e0]
end Go.Proofs.YtglmjglbobhbbaaGreatDoor
namespace Go.Ab
open Go.RowKit
attribute [local irreducible] Go.Ab.tyAV Go.Ab.aw Go.Ab.aops Go.Ab.kReg Go.Ab.aThen Go.Ab.aBlk Go.Ab.acond Go.Ab.aguard Go.Ab.astep Go.Ab.AStepX Go.Ab.aRet
theorem Sim.toG0 {W0:World} {g:Ghost} {σ:Nat→Ent} {n:Nat} {w:World} (h:Sim W0 g σ n w):∀ b o u,g.G b o=some u→(g0 w).G b o=some u:=fun b o u hu=>by
 have hc:=h.imm b o u hu
 have hlt:b < w.heap.size:=World.block_lt_of_cell? w ⟨b,o,none⟩ hc
 simp only [g0,if_pos hlt]
 exact hc
mutual
theorem Lend.rep {W0:World} {g:Ghost} {σ:Nat→Ent} {n:Nat} {w:World} (hS:Sim W0 g σ n w) {pre:Foot} (hp:∀ p∈pre,σ p.1=p.2):∀ {x y:AV},Lend pre x y→∀ v,Rep g x v→Rep (g0 w) y v
 | _,_,.shut hle hy,v,hr=>(hle g v hr).shut hS.toG0 hy
 | _,_,.ms (r:=r) (ver:=ver) (size:=size) (e:=e) (xs:=xs) hm hk hx,v,hr=>by
  subst hk
  obtain ⟨u,vs,hmr,hlen,hvl,hvr,hvs,hown⟩:=hS.mrowAt (hp _ hm)
  cases hr with
  | ms _ _ _ _ _ ver' u' A c hm' hv' hl hc h=>
   rw [hmr] at hm';cases hm'
   obtain ⟨A0,n0,c0,rfl,j1,j2,j3⟩:=h rfl
   obtain ⟨rfl,rfl⟩:=j2 rfl
   refine .slice none xs vs A c size hvl hl hc (fun i x v h1 h2=>(hvr i x v h1 h2).shut hS.toG0 (AV.shutl_at hx h1)) hvs ?_ (fun id hid=>by cases hid)
   by_cases h0:xs.length=0
   ·exact .inl h0
   ·obtain ⟨b,hb,_⟩:=j3 oo
    refine .inr ⟨b,0,hb,fun j u hu=>?_⟩
    have hc':=hown.cells (g:=b) (by rw [hb];rfl) j u hu
    have hlt:b < w.heap.size:=World.block_lt_of_cell? w ⟨b,j,none⟩ hc'
    simp only [g0,if_pos hlt,Nat.zero_add]
    exact hc'
 | _,_,.agg hL,v,hr=>by
  cases hr with
  | agg _ vs hvl hvr=>
   obtain ⟨k1,k2⟩:=LendL.rep hS hp hL vs hvl hvr
   exact .agg _ vs k1 k2
theorem LendL.rep {W0:World} {g:Ghost} {σ:Nat→Ent} {n:Nat} {w:World} (hS:Sim W0 g σ n w) {pre:Foot} (hp:∀ p∈pre,σ p.1=p.2):∀ {xs ys:List AV},LendL pre xs ys→∀ vs:List Value,vs.length=xs.length→(∀ (i:Nat) (x:AV) (v:Value),xs[i]?=some x→vs[i]?=some v→Rep g x v) →
  vs.length=ys.length∧∀ (i:Nat) (y:AV) (v:Value),ys[i]?=some y→vs[i]?=some v→Rep (g0 w) y v
 | _,_,.nil,vs,hl,_=>⟨hl,fun i y v h _=>by simp at h⟩
 | _,_,.cons h hL,vs,hl,hr=>by
  cases vs with
  | nil=>simp at hl
  | cons u r=>
   obtain ⟨k1,k2⟩:=LendL.rep hS hp hL r (by simpa using hl) (fun i x v h1 h2=>hr (i+1) x v (by simpa using h1) (by simpa using h2))
   refine ⟨by simp [k1],fun i y v h1 h2=>?_⟩
   cases i with
   | zero=>simp at h1 h2;subst h1;subst h2;exact Lend.rep hS hp h u (hr 0 _ u rfl rfl)
   | succ i=>exact k2 i y v (by simpa using h1) (by simpa using h2)
end
section
variable {P:Program} {o:Oper} {s:Slots} {id:Nat}
theorem wu {x:Operand} {args:Array Operand} {ts:Array TypeId} {f:FuncId} {pre:Foot} {as0:List AV} {v:Value} (ho:o.op=.call { callee:=.value x,args:=args,argTypes:=ts }) (hx:zl s x=.fn f [])
  (hcb:qV P f=true) (hv:v.oneCell'=true) (hp:∀ p∈pre,p.2≠.none) (hL:LendL pre (args.toList.map (zl s)) as0)
  (hrun:∀ (W0:World) (g:Ghost) (σ:Nat→Ent) (n:Nat) (w:World) (vals:List Value),Sim W0 g σ n w→(∀ p∈pre,σ p.1=p.2)→vals.length=as0.length→(∀ (i:Nat) (y:AV) (u:Value),as0[i]?=some y→vals[i]?=some u→Rep (g0 w) y u) →
   Calls P f vals.toArray w fun e w'=>e=.returned v∧Below w.heap.size w w'):OpHolds P o s id pre (.lit v) []:=by
 refine ⟨hp,fun q hq=>absurd hq List.not_mem_nil,fun W0 g σ n w a hS hr hf hn hpre=>?_⟩
 have h1:=hr x (by simp [ho,Op.operands,Call.operands])
 have h2:∀ y∈args,Rep g (zl s y) (a.eval y):=fun y hy=>hr y (by simp [ho,Op.operands,Call.operands,hy])
 rw [hx] at h1
 generalize hvx:a.eval x=vx at h1
 cases h1 with
 | fn _ _ vs hvl hvr=>
  obtain rfl:vs=[]:=List.eq_nil_of_length_eq_zero (by simpa using hvl)
  have hexec:(execOp a.eval o).run P w=.ok (.enter f ((args.toList.map a.eval).toArray)) w:=by
   simp only [execOp,ho,resolve,hvx,Deferred.ofValue,Sem.run_bind,Sem.run_pure,Result.andThen_ok,invoke]
   rw [qx hcb]
   congr 2
   simp [← Array.toList_map]
  unfold runsTo
  rw [hexec]
  obtain ⟨k1,k2⟩:=LendL.rep hS hpre hL (args.toList.map a.eval) (by simp) (fun i y u h1 h2'=>by
   rw [List.getElem?_map] at h1 h2'
   cases hz:args.toList[i]? with
   | none=>rw [hz] at h1;cases h1
   | some z=>
    rw [hz] at h1 h2'
    cases h1;cases h2'
    exact h2 z (by have:=List.mem_of_getElem? hz;simpa using this))
  refine (hrun W0 g σ n w _ hS hpre k1 k2).mono ?_
  rintro e w' ⟨rfl,hb⟩
  exact ⟨v,rfl,g,g.le_refl,hS.grown hb,.lit _ hv⟩
end
section
variable {P:Program} {ops:Array Oper} {m i n:Nat} {T:Trace} {k:Cfg→Trace→Prop} {ty:TypeId} {pos:String} {after:Array Edge} {r:List Oper} {s:Slots} {σ:Nat→Ent}
theorem wS {t:Tmp} {x:Operand} {args:Array Operand} {ts:Array TypeId} {f:FuncId} {pre:Foot} {v:Value} {as0:List AV} (hc:ACall P f as0 0 [] (.lit v) []) (hx:zl s x=.fn f []) (hv:v.oneCell'=true) (hn:∀ p∈pre,p.2≠.none) (hL:LendL pre (args.toList.map (zl s)) as0) (hp:∀ p∈pre,σ p.1=p.2)
  (h:aops P ops m r (i+1) (addT i ⟨pre,.lit v,[]⟩ T) k ⟨upd s t (.lit v),wr σ [],n⟩):aops P ops m (⟨some t,.call { callee:=.value x,args:=args,argTypes:=ts },ty,pos,after,none⟩::r) i T k ⟨s,σ,n⟩:=
 kS (st:=⟨pre,.lit v,[]⟩) (fun _o ho=>⟨wu ho hx hc.1 hv hn hL fun _W0 _g _σ _n w vals _ _ h1 h2=>hc.walk w vals h1 h2,hp⟩) h
theorem vT {t:Tmp} {x:Operand} {args:Array Operand} {ts:Array TypeId} {f:FuncId} {pre:Foot} {v:Value} {as0:List AV} {d hh:Nat} {X:AV} (hc:ACall P f as0 0 [(1,.glob hh X)] (.lit v) []) (hX:X.shut=true) (hd:(d,Ent.glob hh X)∈pre) (hx:zl s x=.fn f []) (hv:v.oneCell'=true) (hn:∀ p∈pre,p.2≠.none)
  (hL:LendL pre (args.toList.map (zl s)) as0) (hp:∀ p∈pre,σ p.1=p.2)
  (h:aops P ops m r (i+1) (addT i ⟨pre,.lit v,[]⟩ T) k ⟨upd s t (.lit v),wr σ [],n⟩):aops P ops m (⟨some t,.call { callee:=.value x,args:=args,argTypes:=ts },ty,pos,after,none⟩::r) i T k ⟨s,σ,n⟩:=
 kS (st:=⟨pre,.lit v,[]⟩) (fun o ho=>⟨wu ho hx hc.1 hv hn hL fun W0 g σ' n w vals hS hp' h1 h2=>by
  have hE:=hS.ents d
  rw [hp' _ hd] at hE
  obtain ⟨_,_,_,_,hv'⟩:=hE
  have hv2:=hv'.shut hS.toG0 (by simpa only [AV.shut] using hX)
  refine (hc.2.2.2 w (g1w w) _ 2 w vals (zvB w hh X hv2) h1 (fun i x u hx hu=>(h2 i x u hx hu).mono (zjd w)) (zg _ _ _ _ oo) oo (fun p hp=>by simp at hp;subst hp;simp [zr])).mono ?_
  rintro e w' ⟨u,rfl,g',_,hS',hu⟩
  rw [zN hu]
  exact ⟨rfl,hS'.below⟩,hp⟩) h
end
theorem vM {P:Program} {N:Nat} {b:Code} {Q:AExit→Cfg→Prop} {s:Slots} {σ:Nat→Ent} {n:Nat} (id:Nat) (path:List Nat) (e:TypeId) (size:Nat) {bt:TypeId} {c:AV} (hσ:σ id=.box bt c) (hc:c.get path=some .nils)
  (h:aw P N b Q ⟨s,upd (upd σ n (.mrow 0 e size [])) id (.box bt (c.put path (.ms n 0 size 0 0))),n+1⟩):aw P N b Q ⟨s,σ,n⟩:=by
 refine qF (fun W0 g a w hS=>?_) h
 have hf:σ n=.none:=hS.sim.bound n (Nat.le_refl _)
 obtain ⟨hle1,hS1⟩:=(hS.sim.more (n':=n+1) (Nat.le_succ n)).addM (k:=n) (e:=e) (size:=size) (u:=.slice none 0 0) (xs:=[]) (vs:=[]) hf (Nat.lt_succ_self n) (kz w _ e size) rfl rfl (fun i x v h _=>by simp at h) (fun v hv=>by simp at hv) (fun b hb=>by simp [Value.ownBlock] at hb) (fun b hb=>by simp [Value.ownBlock] at hb)
 refine ⟨_,hle1,hS.turnIn hle1 hS1 (Nat.le_succ n) hσ (by rw [zg _ _ _ _ (fun e=>by rw [e,hf] at hσ;cases hσ)];exact hσ) hc (fun u hu=>?_) rfl rfl⟩
 cases hu
 exact .ms n 0 size 0 0 0 _ none 0 (by simp [zr];rfl) (Nat.le_refl _) (Nat.le_refl _) (by unfold maxLen;omega) fun _=>⟨_,_,_,rfl,by omega,fun _=>⟨rfl,rfl⟩,fun h=>absurd h oo⟩
end Go.Ab
namespace Go.Proofs.YtglmjglbobhbbaaGreatDoor
open _root_.Go.Proofs.Tryz
open Go.Ab
attribute [local irreducible] Go.Ab.tyAV Go.Ab.aw Go.Ab.aops Go.Ab.kReg Go.Ab.aThen Go.Ab.aBlk Go.Ab.acond Go.Ab.aguard Go.Ab.astep Go.Ab.AStepX Go.Ab.aRet
attribute [local irreducible] yE
def zE (p:Pa) (gs:List Di) (r:Rq):Bu:=⟨r,p.epoch,p.serial,p.cavs,zeroTag,gs.map zu⟩
def shX (gs:List Di) (u:Nat):List AV:=((gs.take u).map zu).map zC
theorem ve {gs:List Di} {u:Nat} (h:u≤gs.length):(shX gs u).length=u:=by unfold shX;simp;omega
theorem wH {gs:List Di} {u:Nat} {z:Di} (h:u < gs.length) (hz:gs[u]=z):shX gs u++[.agg [.slice none (z.ticket.map za),.slice none (z.conds.map zU),zd zeroTag]]=shX gs (u+1):=by
 unfold shX
 rw [List.take_add_one,List.getElem?_eq_getElem h,hz];simp;rfl
theorem kj {gs:List Di}:shX gs gs.length=(gs.map zu).map zC:=by unfold shX;rw [List.take_length]
section
variable [W:W32]
set_option maxHeartbeats 8000000 in
theorem qt (a:Alg) (m:Nat) (ha:AlgIn a m) (p:Pa) (gs:List Di) (r:Rq) (hg:gs.length≤100) (hm:m≤50000) (hb:BuIn (zE p gs r)) (h0:yZ (zE p gs r)=0) (k:Nat):
  ACall prog 78 [zA a,zG p,.slice none (gs.map zw),yD r] k [] (.tup [zA (zV a p gs r).1,ye (zV a p gs r).2,.lit (.int .i64 0)]) []:=by
 have hr:rqB r=true:=(vK hb h0).1.rq
 have hc:=wT (zE p gs r) hb 0
 rw [h0] at hc
 have hP:=ka ha oo p hr
 obtain ⟨⟨r1,r2⟩,r3,r4⟩:=rqB_iff.1 hr
 have c1:=qu r.gate.toNat r.nonce.toNat oo oo
 have c2:=qQ a p.tag (kI r.gate.toNat r.nonce.toNat) (by have:=ha.ml;omega) ha.mm
 have hin:AlgIn (qa a p r).1 (m+1):=yN ha _ _
 have hPd:yJ a p.tag (kI r.gate.toNat r.nonce.toNat)=qa a p r:=rfl
 rw [hPd] at c2
 clear hPd
 unfold zha at c2
 rw [hP] at c2
 unfold zV
 clear hb h0 ha hP
 generalize qa a p r=M at *
 obtain ⟨aM,tM,eM⟩:=M
 obtain ⟨ep,se,L,tg⟩:=p
 obtain ⟨rg,rn⟩:=r
 simp only at *
 obtain ⟨A',D',hrun⟩:∃ A' D',xj tg ⟨rg,rn⟩ gs 0 aM (gs.map zu)=(A',D'):=⟨_,_,rfl⟩
 have hDl:D'.length=gs.length:=by have:=xO (leaf:=tg) (r:=⟨rg,rn⟩) gs 0 aM (gs.map zu);rw [hrun] at this;simpa using this
 rw [hrun]
 simp only
 have hpA:zG ⟨ep,se,L,tg⟩=.agg [.lit (.int .i64 ep),.lit (.int .i64 se),.slice none (L.map z8),zd tg]:=rfl
 have hrA:yD ⟨rg,rn⟩=.agg [.lit (.int .i64 rg),.lit (.int .i64 rn)]:=rfl
 have hbA:ye ⟨⟨rg,rn⟩,ep,se,L,tM,D'⟩=.agg [.agg [.lit (.int .i64 rg),.lit (.int .i64 rn)],.lit (.int .i64 ep),.lit (.int .i64 se),.slice none (L.map z8),zd tM,.slice none (D'.map zC)]:=rfl
 have hsA:ye (zE ⟨ep,se,L,tg⟩ gs ⟨rg,rn⟩)=.agg [.agg [.lit (.int .i64 rg),.lit (.int .i64 rn)],.lit (.int .i64 ep),.lit (.int .i64 se),.slice none (L.map z8),zd zeroTag,.slice none ((gs.map zu).map zC)]:=rfl
 rw [hsA] at hc
 rw [hpA,hrA,hbA]
 rw [show ((rg.toNat:Nat):Int)=rg by omega,show ((rn.toNat:Nat):Int)=rn by omega] at c1
 generalize kI rg.toNat rn.toNat=rm at *
 clear hpA hbA hsA
 have hb24:gs.length * 80≤140737488355328:=by omega
 have hb25:gs.length≤140737488355327:=by omega
 refine Bd func78 ntmps78 fun σ N hp hpn hk hkn hfree=>?_
 refine Wk ?_
 refine vM (N+14) [5] 168 34 (bt:=75) (c:=.agg [.agg [.lit (.int .i64 rg),.lit (.int .i64 rn)],.lit (.int .i64 ep),.lit (.int .i64 se),.slice none (L.map z8),zd zeroTag,.nils]) (by simp (disch:=omega) [go_sem, *,-List.reduceReplicate];try rfl) rfl ?_
 refine ze zi (by kernel_rfl) [12,25,26,27,28,29,30,31,32,33,34,35,36,37,38,39,40,41,42,43,44,45,46] [N+14,N+17] (fun m_ s_ σ_ n_=>∃ (u:Nat),m_=gs.length - u∧s_ 12=.lit (.int .i64 u)∧σ_ (N+14)=.box 75 (.agg [.agg [.lit (.int .i64 rg),.lit (.int .i64 rn)],.lit (.int .i64 ep),.lit (.int .i64 se),.slice none (L.map z8),zd zeroTag,.ms (N+17) u 34 0 u])∧σ_ (N+17)=.mrow u 168 34 (shX gs u)∧(u≤gs.length)) ⟨_,0,rfl,WF,WF,WF,WC⟩ ?_
 intro m_1 s_1 σ_1 n_1 hs_1 hf_1 hn_1 hI_1
 obtain ⟨u,hm_1,h1_12,e1_0,e1_1,hu⟩:=hI_1
 have h1_2:=KS hs_1 2
 have h1_4:=KS hs_1 4
 have h1_5:=KS hs_1 5
 have h1_7:=KS hs_1 7
 have h1_8:=KS hs_1 8
 have h1_9:=KS hs_1 9
 have h1_10:=KS hs_1 10
 have h1_11:=KS hs_1 11
 have k1_0:=KE hf_1 (N)
 have k1_1:=KE hf_1 (N+1)
 have k1_2:=KE hf_1 (N+2)
 have k1_3:=KE hf_1 (N+3)
 have k1_4:=KE hf_1 (N+4)
 have hlow:=KL (N:=N) (σ:=σ) hf_1
 by_cases hul:u=gs.length
 ·subst hul
  rw [kj] at e1_1
  have hD0:(gs.map zu).length=gs.length:=List.length_map ..
  clear hu
  generalize gs.map zu=D0 at *
  iterate 2 refine Wz ?_
  (apply xI;· (simp only [List.length_cons,List.length_nil,Nat.reduceAdd,Nat.add_assoc];rfl))
  refine Wm ?_
  refine wS (pre:=[(N+17,.mrow gs.length 168 34 (D0.map zC))]) hc (by simp (disch:=omega) [go_sem, *,-List.reduceReplicate]) rfl (by simp) (by
   simp (disch:=omega) [go_sem, *,-List.reduceReplicate]
   exact .cons (.agg (.cons (.shut (AV.le_refl _) rfl) (.cons (.shut (AV.le_refl _) rfl) (.cons (.shut (AV.le_refl _) rfl) (.cons (.shut (AV.le_refl _) (qW L)) (.cons (.shut (AV.le_refl _) (vQ _)) (.cons (.ms (List.mem_singleton.2 rfl) (by simp [hD0]) (qT D0)) .nil))))))) .nil) (by simp (disch:=omega) [go_sem, *,-List.reduceReplicate]) ?_
  refine Wm ?_
  have hcs:=And.intro c1 (And.intro c2 True.intro)
  clear c1 c2 hc
  refine Wk ?_
  clear hcs
  refine ze zi (by kernel_rfl) [10,15,16,71,72,73,74,75,76,77,78,79,80,81,82,83,84,85,86,87,88,89,90,91,92,93,94,95,96,97,98] [N,N+14,N+17] (fun m_ s_ σ_ n_=>∃ (v:Nat) (A:Alg) (D:List Bo),m_=gs.length - v∧s_ 16=.lit (.int .i64 v)∧σ_ (N)=.box 41 (zA A)∧σ_ (N+14)=.box 75 (.agg [.agg [.lit (.int .i64 rg),.lit (.int .i64 rn)],.lit (.int .i64 ep),.lit (.int .i64 se),.slice none (L.map z8),zd tM,.ms (N+17) gs.length 34 0 gs.length])∧σ_ (N+17)=.mrow gs.length 168 34 (D.map zC)∧(v≤gs.length)∧(AlgIn A (m+1+v))∧(D.length=gs.length)∧(xj tg ⟨rg,rn⟩ (gs.drop v) v A D=(A',D'))) ⟨_,0,aM,D0,rfl,WF,WF,WF,WF,WC,WC,WC,WC⟩ ?_
  intro m_2 s_2 σ_2 n_2 hs_2 hf_2 hn_2 hI_2
  obtain ⟨v,A,D,hm_2,h2_16,e2_0,e2_1,e2_2,hv,hA,hD,hrun⟩:=hI_2
  have h2_2:=KS hs_2 2
  have h2_4:=KS hs_2 4
  have h2_5:=KS hs_2 5
  have h2_7:=KS hs_2 7
  have h2_8:=KS hs_2 8
  have h2_9:=KS hs_2 9
  have h2_11:=KS hs_2 11
  have k2_0:=KE hf_2 (N+1)
  have k2_1:=KE hf_2 (N+2)
  have k2_2:=KE hf_2 (N+3)
  have k2_3:=KE hf_2 (N+4)
  have hlow:=KL (N:=N) (σ:=σ) hf_2
  clear hin hD0
  by_cases hvl:v=gs.length
  ·subst hvl
   rw [List.drop_length,xj,Prod.mk.injEq] at hrun
   obtain ⟨rfl,rfl⟩:=hrun
   clear hv hA
   iterate 2 refine Wz ?_
   refine yM (N+14) [5] (r:=N+17) (ver:=gs.length) (size:=34) (e:=168) (xs:=D.map zC) (k:=gs.length) (by simp (disch:=omega) [go_sem, *,-List.reduceReplicate];try exact ⟨rfl,rfl⟩) (by simp (disch:=omega) [go_sem, *,-List.reduceReplicate]) (by simp (disch:=omega) [go_sem, *,-List.reduceReplicate]) (by simp [hD]) ?_
   exact WT
  ·have hv1:v < gs.length:=by omega
   have hv1i:(v:Int) < (gs.length:Int):=by omega
   obtain ⟨z,hz⟩:∃ z,gs[v]=z:=⟨_,rfl⟩
   have hzm:(gs.map zw)[v]?=some (zw z):=by rw [List.getElem?_map,List.getElem?_eq_getElem hv1,hz];rfl
   rw [List.drop_eq_getElem_cons hv1,hz,xj] at hrun
   have c3:=qs A (m+1+v) hA oo z tg ⟨rg,rn⟩
   have hBo:=vw hA oo z tg hr
   have hin2:=jk hA z tg ⟨rg,rn⟩
   have hB0:(vJ A z tg ⟨rg,rn⟩).2.2=0:=by rw [hBo.2]
   clear hBo
   unfold zgO at c3
   rw [hB0] at c3
   clear hB0
   generalize vJ A z tg ⟨rg,rn⟩=B at *
   obtain ⟨aB,bB,eB⟩:=B
   rw [hrA] at c3
   simp only at c3 hrun hin2
   have hv2:v < D.length:=by omega
   obtain ⟨y,hy⟩:∃ y,D[v]=y:=⟨_,rfl⟩
   have hy0:D[v]?=some y:=by rw [List.getElem?_eq_getElem hv2,hy]
   have hym:(D.map zC)[v]?=some (zC y):=by rw [List.getElem?_map,hy0];rfl
   have hysz:AV.szl ((D.map zC).take v)=v * 34:=by
    rw [← List.map_take,AV.szl_uniform _ 34 (fun x hx=>by obtain ⟨c,_,rfl⟩:=List.mem_map.1 hx;exact kG c),List.length_map,List.length_take,Nat.min_eq_left oo]
   have hyo:(AV.agg (D.map zC)).offs [v]=v * 34:=by simp only [AV.offs,hym,hysz];rfl
   clear hy
   have hset:(D.map zC).set v (zC bB)=(D.set v bB).map zC:=by rw [List.map_set]
   have hsl:(D.set v bB).length=gs.length:=by rw [List.length_set];exact hD
   generalize D.set v bB=D2 at *
   have hcs:=And.intro c3 True.intro
   clear c3
   refine Wk ?_
   exact ⟨WS,WG,WN,_,(show gs.length - (v+1) < m_2 by omega),v+1,aB,D2,rfl,WF,WF,WF,WF,WC,WC,WC,WC⟩
 ·have hu1:u < gs.length:=by omega
  have hu1i:(u:Int) < (gs.length:Int):=by omega
  obtain ⟨z,hz⟩:∃ z,gs[u]=z:=⟨_,rfl⟩
  have hzm:(gs.map zw)[u]?=some (.agg [.slice none (z.ticket.map za),.slice none (z.conds.map zU),zd z.tag]):=by rw [List.getElem?_map,List.getElem?_eq_getElem hu1,hz];rfl
  have htk:=wH hu1 hz
  have htk2:(shX gs u).take u++[.agg [.slice none (z.ticket.map za),.slice none (z.conds.map zU),zd zeroTag]]=shX gs (u+1):=by rw [List.take_of_length_le (by rw [ve hu];exact Nat.le_refl _)];exact htk
  have hXl:=ve hu
  have hb26:(u+1) * 80≤140737488355328:=by omega
  have hb27:u≤140737488355327:=by omega
  refine Wk ?_
  exact ⟨WS,WG,WN,_,(show gs.length - (u+1) < m_1 by omega),u+1,rfl,WF,WF,WF,WC⟩
end
theorem qd (l:List Pr) (he:l.isEmpty=false) (hl:l.length≤100000) (k:Nat):
  ACall prog 123 [.slice none (l.map zU)] k [] (.slice none (l.map zU)) []:=by
 refine Bd func123 ntmps123 fun σ N hp hpn hk hkn hfree=>?_
 exact WM
theorem vS (l:List Pr) (hl:l.length≤100000) (k:Nat):
  ACall prog 123 [.slice none (l.map zU)] k [] (.slice none (l.map zU)) []:=by
 cases l with
 | cons x r=>exact qd (x::r) rfl hl k
 | nil=>
  refine ACall.empty fun A c=>?_
  cases A with
  | none=>exact zaS c k
  | some A=>exact jg A c k
theorem vZ (w b:List UInt8) (g n:Nat) (hw:w.length≤1000) (hb:b.length≤1000) (hg:g≤281474976710656) (hn:n≤281474976710656) (k:Nat):
  ACall prog 171 [.lit (.string ⟨w.toArray⟩),.slice none (b.map za),.agg [.lit (.int .i64 g),.lit (.int .i64 n)]] k [] (.slice none ((w++(b++(leb g++leb n))).map za)) []:=by
 have c1:=yH w b oo oo
 have hwb:(w++b).length≤2000:=by rw [List.length_append];omega
 have hl:=zh g 7 oo
 have c2:=yU (w++b) oo g hg
 have c3:=yU (w++b++leb g) (by rw [List.length_append];omega) n hn
 have hA:w++b++leb g++leb n=w++(b++(leb g++leb n)):=by simp only [List.append_assoc]
 rw [hA] at c3
 generalize w++(b++(leb g++leb n))=R at *
 generalize w++b++leb g=R2 at *
 generalize w++b=R1 at *
 clear hA
 refine Bd func171 ntmps171 fun σ N hp hpn hk hkn hfree=>?_
 have hcs:=And.intro c1 (And.intro c2 (And.intro c3 True.intro))
 clear c1 c2 c3
 exact WM
section
variable [W:W32]
theorem qp {a:Alg} {key:Tg} {msg:List UInt8} (h:(yJ a key msg).2.2=0):zbk a 0 key msg=((yJ a key msg).1,0,(yJ a key msg).2.1):=by
 unfold zbk
 rw [if_neg (by simp),if_pos h]
set_option maxHeartbeats 4000000 in
theorem jm (a:Alg) (m:Nat) (ha:AlgIn a m) (hm:m≤60000) (d:Di) (leaf:Tg) (r:Rq) (hr:rqB r=true) (ht:d.ticket.length≤100000) (hc:d.conds.length≤100000) (q r1 r2 g k:Nat):
  ACall prog 172 [.ptr q [] 0,zw d,zd leaf,yD r] k (vA a 0 q r1 r2++[(g,yE)]) (zC (vJ a d leaf r).2.1) [(q,zcM (vJ a d leaf r).1 0 r1 r2),(r1,zfk (vJ a d leaf r).1.macs.length)]:=by
 obtain ⟨h0,hB⟩:=vw ha hm d leaf hr
 rw [hB]
 simp only
 obtain ⟨⟨q1,q2⟩,q3,q4⟩:=rqB_iff.1 hr
 have c1:=wg r
 rw [hr] at c1
 have c2:=yC d.ticket oo
 have c3:=vS d.conds hc
 have c4:=vZ [98,105,110,100] leaf.1 r.gate.toNat r.nonce.toNat (by decide) (by rw [leaf.2];decide) oo oo
 have hml:=zbc leaf (g:=r.gate.toNat) (n:=r.nonce.toNat) oo oo
 have hmp:0 < (y8 leaf r.gate.toNat r.nonce.toNat).length:=by simp [y8]
 have hbm:[98,105,110,100]++(leaf.1++(leb r.gate.toNat++leb r.nonce.toNat))=y8 leaf r.gate.toNat r.nonce.toNat:=rfl
 rw [hbm] at c4
 have c5:=vD a 0 d.tag (y8 leaf r.gate.toNat r.nonce.toNat) (by have:=ha.ml;omega) ha.mm (fun _=>hmp) oo q r1 r2 g
 rw [qp h0] at c5
 have hbx:=(vP a d.tag _ h0).1
 simp only at c5
 generalize yJ a d.tag (y8 leaf r.gate.toNat r.nonce.toNat)=Y at *
 obtain ⟨a2,t2,e2⟩:=Y
 simp only at *
 obtain ⟨rg,rn⟩:=r
 simp only at *
 rw [show ((rg.toNat:Nat):Int)=rg by omega,show ((rn.toNat:Nat):Int)=rn by omega] at c4
 generalize y8 leaf rg.toNat rn.toNat=bm at *
 obtain ⟨ti,cs,dt⟩:=d
 simp only at *
 have hrA:yD ⟨rg,rn⟩=.agg [.lit (.int .i64 rg),.lit (.int .i64 rn)]:=rfl
 have hdA:zw ⟨ti,cs,dt⟩=.agg [.slice none (ti.map za),.slice none (cs.map zU),zd dt]:=rfl
 have hoA:zC ⟨ti,cs,t2⟩=.agg [.slice none (ti.map za),.slice none (cs.map zU),zd t2]:=rfl
 have hlA:zd leaf=.agg (leaf.1.map za):=rfl
 have ps1:=zB leaf
 have ps2:=zj leaf
 obtain ⟨K,hK⟩:=leaf
 rw [hlA] at ps1 ps2 ⊢
 rw [hrA] at c1 ⊢
 rw [hdA,hoA]
 simp only at *
 clear hrA hdA hoA hlA hbm hB hml hmp h0 ha
 have htk:(K.map za).take 32=K.map za:=List.take_of_length_le (by rw [List.length_map];omega)
 unfold vA at *
 simp only [List.cons_append,List.nil_append] at *
 simp only [zW,zP,zO,hbx] at *
 clear hbx
 refine Bd func172 ntmps172 fun σ N hp hpn hk hkn hfree=>?_
 simp only [List.mem_cons,List.not_mem_nil,or_false,forall_eq_or_imp,forall_eq] at hp hpn;obtain ⟨hd1,hd2,hd3,hd4⟩:=hp;obtain ⟨hdn1,hdn2,hdn3,hdn4⟩:=hpn
 have hne:q≠r1:=by rintro rfl;rw [hd1] at hd2;cases hd2
 have hne3:q≠r2:=by rintro rfl;rw [hd1] at hd3;cases hd3
 have hneg:g≠q:=by rintro rfl;rw [hd4] at hd1;exact ya hd1
 have hneg1:g≠r1:=by rintro rfl;rw [hd4] at hd2;exact yb hd2
 have hne23:r1≠r2:=by rintro rfl;rw [hd2] at hd3;simp at hd3
 have hcs:=And.intro c1 (And.intro c2 (And.intro c3 (And.intro c4 (And.intro c5 True.intro))))
 clear c1 c2 c3 c4 c5
 refine Wk ?_
 refine yd [(q,(.box 249 (.agg [.agg [.lit (.bool a2.free),zd a2.seed,.lit (.int .i64 a2.fresh),.slice (some r1) (a2.macs.map zJ),.slice (some r2) (a.boxes.map zo)],.lit (.int .i64 0)]))),(r1,(.row 190 65 a2.macs.length))] (by simp (disch:=omega) [go_sem, *,-List.reduceReplicate];rfl) (by first | rfl | (simp (disch:=omega) [go_sem];done) | (simp (disch:=omega) [go_sem, *];done) | simp (disch:=omega) [go_sem]) (fun id hid=>by simp only [zF,yi];(by_cases hdd:id=q;(· (subst hdd;simp (disch:=omega) [go_sem, *]));(· (by_cases hdd2:id=r1;(· (subst hdd2;simp (disch:=omega) [go_sem, *]));(· (simp (disch:=omega) only [zg];try (first | exact hlow id hid hdd hdd2 | exact hlow id hid))))))) (by simp) (by simp (disch:=omega) [go_sem, *])
end
end Go.Proofs.YtglmjglbobhbbaaGreatDoor
namespace Go.Proofs.YtglmjglbobhbbaaGreatDoor
open _root_.Go.Proofs.Tryz
open Go.Ab
attribute [local irreducible] Go.Ab.tyAV Go.Ab.aw Go.Ab.aops Go.Ab.kReg Go.Ab.aThen Go.Ab.aBlk Go.Ab.acond Go.Ab.aguard Go.Ab.astep Go.Ab.AStepX Go.Ab.aRet
theorem zc0 (l:List Pa) (q:Pa→Bool) (f:FuncId) (a:Nat) (E:Ent) (hE:E≠.none) (hf:∀ x∈l,∀ k,ACall prog f [zG x,.ptr a [] 0] k [(a,E)] (.lit (.bool (q x))) []) (hl:l.length≤9223372036854775807) (k:Nat):
  ACall prog 153 [.slice none (l.map zG),.fn f [.ptr a [] 0]] k [(a,E)] (.lit (.int .i64 (ixF q l 0))) []:=by
 obtain ⟨R,hR⟩:∃ R,ixF q l 0=R:=⟨_,rfl⟩
 rw [hR]
 have hdr:l.drop 0=l:=rfl
 refine Bd (hpre:=by simp [hE]) func153 ntmps153 fun σ N hp hpn hk hkn hfree=>?_
 obtain ⟨hd,hdn⟩:=HD0 hp hpn;clear hp hpn
 refine Wk ?_
 refine ze zi (by kernel_rfl) [4,5,8,9,10,11,12,13,14,15,16,17,18] [] (fun m_ s_ σ_ n_=>∃ (u:Nat),m_=l.length - u∧s_ 8=.lit (.int .i64 u)∧(u≤l.length)∧(ixF q (l.drop u) u=R)) ⟨_,0,rfl,WF,WC,WC⟩ ?_
 intro m_1 s_1 σ_1 n_1 hs_1 hf_1 hn_1 hI_1
 obtain ⟨u,hm_1,h1_8,hu,hno⟩:=hI_1
 have h1_0:=KS hs_1 0
 have h1_1:=KS hs_1 1
 have h1_7:=KS hs_1 7
 have k1_0:=KE hf_1 (a)
 have hlow:=KL (N:=N) (σ:=σ) hf_1
 clear hR hdr
 by_cases hul:u=l.length
 ·subst hul
  rw [List.drop_length] at hno
  simp only [ixF] at hno
  subst hno
  clear hf
  exact W0
 ·have hu1:u < l.length:=by omega
  rw [List.drop_eq_getElem_cons hu1,ixF] at hno
  have c1:=hf _ (List.getElem_mem hu1)
  obtain ⟨z,hz⟩:∃ z,l[u]=z:=⟨_,rfl⟩
  rw [hz] at hno c1
  cases hc:q z with
  | true=>
   rw [if_pos hc] at hno
   subst hno
   rw [hc] at c1
   have hcs:=And.intro c1 True.intro
   clear c1 hf hc
   exact W0
  | false=>
   rw [if_neg (by rw [hc];simp)] at hno
   rw [hc] at c1
   have hcs:=And.intro c1 True.intro
   clear c1 hf hc
   refine Wk ?_
   exact ⟨WS,WG,WN,_,(show l.length - (u+1) < m_1 by omega),u+1,rfl,WF,WC,WC⟩
theorem zb9 (l:List Pa) (q:Pa→Bool) (f:FuncId) (a:Nat) (E:Ent) (hE:E≠.none) (hf:∀ x∈l,∀ k,ACall prog f [zG x,.ptr a [] 0] k [(a,E)] (.lit (.bool (q x))) []) (hl:l.length≤9223372036854775807) (k:Nat):
  ACall prog 86 [.slice none (l.map zG),.fn f [.ptr a [] 0]] k [(a,E)] (.lit (.bool (l.any q))) []:=by
 have c1:=zc0 l q f a E hE hf hl
 have h1:=xx q l 0
 have h2:=vC q l 0
 rw [← h1]
 generalize ixF q l 0=R at *
 clear h1 hf
 refine Bd (hpre:=by simp [hE]) func86 ntmps86 fun σ N hp hpn hk hkn hfree=>?_
 obtain ⟨hd,hdn⟩:=HD0 hp hpn;clear hp hpn
 have hcs:=And.intro c1 True.intro
 clear c1
 exact W0
theorem zcY (l:List Di) (q:Di→Bool) (f:FuncId) (a:Nat) (E:Ent) (hE:E≠.none) (hf:∀ x∈l,∀ k,ACall prog f [zw x,.ptr a [] 0] k [(a,E)] (.lit (.bool (q x))) []) (hl:l.length≤9223372036854775807) (k:Nat):
  ACall prog 154 [.slice none (l.map zw),.fn f [.ptr a [] 0]] k [(a,E)] (.lit (.int .i64 (ixF q l 0))) []:=by
 obtain ⟨R,hR⟩:∃ R,ixF q l 0=R:=⟨_,rfl⟩
 rw [hR]
 have hdr:l.drop 0=l:=rfl
 refine Bd (hpre:=by simp [hE]) func154 ntmps154 fun σ N hp hpn hk hkn hfree=>?_
 obtain ⟨hd,hdn⟩:=HD0 hp hpn;clear hp hpn
 refine Wk ?_
 refine ze zi (by kernel_rfl) [4,5,8,9,10,11,12,13,14,15,16,17,18] [] (fun m_ s_ σ_ n_=>∃ (u:Nat),m_=l.length - u∧s_ 8=.lit (.int .i64 u)∧(u≤l.length)∧(ixF q (l.drop u) u=R)) ⟨_,0,rfl,WF,WC,WC⟩ ?_
 intro m_2 s_2 σ_2 n_2 hs_2 hf_2 hn_2 hI_2
 obtain ⟨u,hm_2,h2_8,hu,hno⟩:=hI_2
 have h2_0:=KS hs_2 0
 have h2_1:=KS hs_2 1
 have h2_7:=KS hs_2 7
 have k2_0:=KE hf_2 (a)
 have hlow:=KL (N:=N) (σ:=σ) hf_2
 clear hR hdr
 by_cases hul:u=l.length
 ·subst hul
  rw [List.drop_length] at hno
  simp only [ixF] at hno
  subst hno
  clear hf
  exact W0
 ·have hu1:u < l.length:=by omega
  rw [List.drop_eq_getElem_cons hu1,ixF] at hno
  have c1:=hf _ (List.getElem_mem hu1)
  obtain ⟨z,hz⟩:∃ z,l[u]=z:=⟨_,rfl⟩
  rw [hz] at hno c1
  cases hc:q z with
  | true=>
   rw [if_pos hc] at hno
   subst hno
   rw [hc] at c1
   have hcs:=And.intro c1 True.intro
   clear c1 hf hc
   exact W0
  | false=>
   rw [if_neg (by rw [hc];simp)] at hno
   rw [hc] at c1
   have hcs:=And.intro c1 True.intro
   clear c1 hf hc
   refine Wk ?_
   exact ⟨WS,WG,WN,_,(show l.length - (u+1) < m_2 by omega),u+1,rfl,WF,WC,WC⟩
theorem zaU (l:List Di) (q:Di→Bool) (f:FuncId) (a:Nat) (E:Ent) (hE:E≠.none) (hf:∀ x∈l,∀ k,ACall prog f [zw x,.ptr a [] 0] k [(a,E)] (.lit (.bool (q x))) []) (hl:l.length≤9223372036854775807) (k:Nat):
  ACall prog 88 [.slice none (l.map zw),.fn f [.ptr a [] 0]] k [(a,E)] (.lit (.bool (l.any q))) []:=by
 have c1:=zcY l q f a E hE hf hl
 have h1:=xx q l 0
 have h2:=vC q l 0
 rw [← h1]
 generalize ixF q l 0=R at *
 clear h1 hf
 refine Bd (hpre:=by simp [hE]) func88 ntmps88 fun σ N hp hpn hk hkn hfree=>?_
 obtain ⟨hd,hdn⟩:=HD0 hp hpn;clear hp hpn
 have hcs:=And.intro c1 True.intro
 clear c1
 exact W0
theorem zcX (l:List Bu) (q:Bu→Bool) (f:FuncId) (a:Nat) (E:Ent) (hE:E≠.none) (hf:∀ x∈l,∀ k,ACall prog f [ye x,.ptr a [] 0] k [(a,E)] (.lit (.bool (q x))) []) (hl:l.length≤9223372036854775807) (k:Nat):
  ACall prog 155 [.slice none (l.map ye),.fn f [.ptr a [] 0]] k [(a,E)] (.lit (.int .i64 (ixF q l 0))) []:=by
 obtain ⟨R,hR⟩:∃ R,ixF q l 0=R:=⟨_,rfl⟩
 rw [hR]
 have hdr:l.drop 0=l:=rfl
 refine Bd (hpre:=by simp [hE]) func155 ntmps155 fun σ N hp hpn hk hkn hfree=>?_
 obtain ⟨hd,hdn⟩:=HD0 hp hpn;clear hp hpn
 refine Wk ?_
 refine ze zi (by kernel_rfl) [4,5,8,9,10,11,12,13,14,15,16,17,18] [] (fun m_ s_ σ_ n_=>∃ (u:Nat),m_=l.length - u∧s_ 8=.lit (.int .i64 u)∧(u≤l.length)∧(ixF q (l.drop u) u=R)) ⟨_,0,rfl,WF,WC,WC⟩ ?_
 intro m_3 s_3 σ_3 n_3 hs_3 hf_3 hn_3 hI_3
 obtain ⟨u,hm_3,h3_8,hu,hno⟩:=hI_3
 have h3_0:=KS hs_3 0
 have h3_1:=KS hs_3 1
 have h3_7:=KS hs_3 7
 have k3_0:=KE hf_3 (a)
 have hlow:=KL (N:=N) (σ:=σ) hf_3
 clear hR hdr
 by_cases hul:u=l.length
 ·subst hul
  rw [List.drop_length] at hno
  simp only [ixF] at hno
  subst hno
  clear hf
  exact W0
 ·have hu1:u < l.length:=by omega
  rw [List.drop_eq_getElem_cons hu1,ixF] at hno
  have c1:=hf _ (List.getElem_mem hu1)
  obtain ⟨z,hz⟩:∃ z,l[u]=z:=⟨_,rfl⟩
  rw [hz] at hno c1
  cases hc:q z with
  | true=>
   rw [if_pos hc] at hno
   subst hno
   rw [hc] at c1
   have hcs:=And.intro c1 True.intro
   clear c1 hf hc
   exact W0
  | false=>
   rw [if_neg (by rw [hc];simp)] at hno
   rw [hc] at c1
   have hcs:=And.intro c1 True.intro
   clear c1 hf hc
   refine Wk ?_
   exact ⟨WS,WG,WN,_,(show l.length - (u+1) < m_3 by omega),u+1,rfl,WF,WC,WC⟩
theorem zb7 (l:List Bu) (q:Bu→Bool) (f:FuncId) (a:Nat) (E:Ent) (hE:E≠.none) (hf:∀ x∈l,∀ k,ACall prog f [ye x,.ptr a [] 0] k [(a,E)] (.lit (.bool (q x))) []) (hl:l.length≤9223372036854775807) (k:Nat):
  ACall prog 90 [.slice none (l.map ye),.fn f [.ptr a [] 0]] k [(a,E)] (.lit (.bool (l.any q))) []:=by
 have c1:=zcX l q f a E hE hf hl
 have h1:=xx q l 0
 have h2:=vC q l 0
 rw [← h1]
 generalize ixF q l 0=R at *
 clear h1 hf
 refine Bd (hpre:=by simp [hE]) func90 ntmps90 fun σ N hp hpn hk hkn hfree=>?_
 obtain ⟨hd,hdn⟩:=HD0 hp hpn;clear hp hpn
 have hcs:=And.intro c1 True.intro
 clear c1
 exact W0
theorem zcZ (l:List It) (q:It→Bool) (f:FuncId) (a:Nat) (E:Ent) (hE:E≠.none) (hf:∀ x∈l,∀ k,ACall prog f [xm x,.ptr a [] 0] k [(a,E)] (.lit (.bool (q x))) []) (hl:l.length≤9223372036854775807) (k:Nat):
  ACall prog 156 [.slice none (l.map xm),.fn f [.ptr a [] 0]] k [(a,E)] (.lit (.int .i64 (ixF q l 0))) []:=by
 obtain ⟨R,hR⟩:∃ R,ixF q l 0=R:=⟨_,rfl⟩
 rw [hR]
 have hdr:l.drop 0=l:=rfl
 refine Bd (hpre:=by simp [hE]) func156 ntmps156 fun σ N hp hpn hk hkn hfree=>?_
 obtain ⟨hd,hdn⟩:=HD0 hp hpn;clear hp hpn
 refine Wk ?_
 refine ze zi (by kernel_rfl) [4,5,8,9,10,11,12,13,14,15,16,17,18] [] (fun m_ s_ σ_ n_=>∃ (u:Nat),m_=l.length - u∧s_ 8=.lit (.int .i64 u)∧(u≤l.length)∧(ixF q (l.drop u) u=R)) ⟨_,0,rfl,WF,WC,WC⟩ ?_
 intro m_4 s_4 σ_4 n_4 hs_4 hf_4 hn_4 hI_4
 obtain ⟨u,hm_4,h4_8,hu,hno⟩:=hI_4
 have h4_0:=KS hs_4 0
 have h4_1:=KS hs_4 1
 have h4_7:=KS hs_4 7
 have k4_0:=KE hf_4 (a)
 have hlow:=KL (N:=N) (σ:=σ) hf_4
 clear hR hdr
 by_cases hul:u=l.length
 ·subst hul
  rw [List.drop_length] at hno
  simp only [ixF] at hno
  subst hno
  clear hf
  exact W0
 ·have hu1:u < l.length:=by omega
  rw [List.drop_eq_getElem_cons hu1,ixF] at hno
  have c1:=hf _ (List.getElem_mem hu1)
  obtain ⟨z,hz⟩:∃ z,l[u]=z:=⟨_,rfl⟩
  rw [hz] at hno c1
  cases hc:q z with
  | true=>
   rw [if_pos hc] at hno
   subst hno
   rw [hc] at c1
   have hcs:=And.intro c1 True.intro
   clear c1 hf hc
   exact W0
  | false=>
   rw [if_neg (by rw [hc];simp)] at hno
   rw [hc] at c1
   have hcs:=And.intro c1 True.intro
   clear c1 hf hc
   refine Wk ?_
   exact ⟨WS,WG,WN,_,(show l.length - (u+1) < m_4 by omega),u+1,rfl,WF,WC,WC⟩
theorem zb8 (l:List It) (q:It→Bool) (f:FuncId) (a:Nat) (E:Ent) (hE:E≠.none) (hf:∀ x∈l,∀ k,ACall prog f [xm x,.ptr a [] 0] k [(a,E)] (.lit (.bool (q x))) []) (hl:l.length≤9223372036854775807) (k:Nat):
  ACall prog 91 [.slice none (l.map xm),.fn f [.ptr a [] 0]] k [(a,E)] (.lit (.bool (l.any q))) []:=by
 have c1:=zcZ l q f a E hE hf hl
 have h1:=xx q l 0
 have h2:=vC q l 0
 rw [← h1]
 generalize ixF q l 0=R at *
 clear h1 hf
 refine Bd (hpre:=by simp [hE]) func91 ntmps91 fun σ N hp hpn hk hkn hfree=>?_
 obtain ⟨hd,hdn⟩:=HD0 hp hpn;clear hp hpn
 have hcs:=And.intro c1 True.intro
 clear c1
 exact W0
theorem zaj (l:List Bo) (he:l.isEmpty=false) (hl:l.length≤100000) (k:Nat):
  ACall prog 194 [.slice none (l.map zC)] k [] (.ms k 1 34 0 l.length) [(k,.mrow 1 168 34 (l.map zC))]:=by
 have hb:l.length * 80≤140737488355328:=by omega
 have hb1:l.length≤140737488355327:=by omega
 refine Bd func194 ntmps194 fun σ N hp hpn hk hkn hfree=>?_
 have M:Mut (N+3):=⟨⟩
 refine Wk ?_
 refine zQ (r0:=N+3) (by simp (disch:=omega) [go_sem, *,-List.reduceReplicate];rfl) oo (by simp (disch:=omega) [go_sem];try rfl) (fun id hid=>by simp (disch:=omega) only [zg];try exact hlow id hid) (by simp (disch:=omega) only [zr];rfl) (by simp (disch:=omega) [go_sem])
theorem jD (A:Addr) (c k:Nat):
  ACall prog 194 [.lit (.slice (some A) 0 c)] k [] (.ms k 1 34 0 0) [(k,.mrow 1 168 34 [])]:=by
 refine Bd func194 ntmps194 fun σ N hp hpn hk hkn hfree=>?_
 have M:Mut (N+3):=⟨⟩
 refine Wk ?_
 refine zQ (r0:=N+3) (by simp (disch:=omega) [go_sem, *,-List.reduceReplicate];rfl) oo (by simp (disch:=omega) [go_sem];try rfl) (fun id hid=>by simp (disch:=omega) only [zg];try exact hlow id hid) (by simp (disch:=omega) only [zr];rfl) (by simp (disch:=omega) [go_sem])
theorem zb3 (c k:Nat):ACall prog 194 [.lit (.slice none 0 c)] k [] .nils []:=by
 refine Bd func194 ntmps194 fun σ N hp hpn hk hkn hfree=>?_
 exact W0
theorem zak (l:List Bo) (hl:l.length≤100000) (k:Nat):
  ACall prog 194 [.slice none (l.map zC)] k [] (.ms k 1 34 0 l.length) [(k,.mrow 1 168 34 (l.map zC))]:=by
 cases l with
 | cons x r=>exact zaj (x::r) rfl hl k
 | nil=>
  refine ACall.empty fun A c=>?_
  cases A with
  | none=>exact ACall.nilM (by decide) (zb3 c k)
  | some A=>exact jD A c k
theorem zal (l:List It) (he:l.isEmpty=false) (hl:l.length≤100000) (k:Nat):
  ACall prog 193 [.slice none (l.map xm)] k [] (.ms k 1 68 0 l.length) [(k,.mrow 1 85 68 (l.map xm))]:=by
 have hb:l.length * 112≤140737488355328:=by omega
 have hb1:l.length≤140737488355327:=by omega
 refine Bd func193 ntmps193 fun σ N hp hpn hk hkn hfree=>?_
 have M:Mut (N+3):=⟨⟩
 refine Wk ?_
 refine zQ (r0:=N+3) (by simp (disch:=omega) [go_sem, *,-List.reduceReplicate];rfl) oo (by simp (disch:=omega) [go_sem];try rfl) (fun id hid=>by simp (disch:=omega) only [zg];try exact hlow id hid) (by simp (disch:=omega) only [zr];rfl) (by simp (disch:=omega) [go_sem])
theorem jE (A:Addr) (c k:Nat):
  ACall prog 193 [.lit (.slice (some A) 0 c)] k [] (.ms k 1 68 0 0) [(k,.mrow 1 85 68 [])]:=by
 refine Bd func193 ntmps193 fun σ N hp hpn hk hkn hfree=>?_
 have M:Mut (N+3):=⟨⟩
 refine Wk ?_
 refine zQ (r0:=N+3) (by simp (disch:=omega) [go_sem, *,-List.reduceReplicate];rfl) oo (by simp (disch:=omega) [go_sem];try rfl) (fun id hid=>by simp (disch:=omega) only [zg];try exact hlow id hid) (by simp (disch:=omega) only [zr];rfl) (by simp (disch:=omega) [go_sem])
theorem zb4 (c k:Nat):ACall prog 193 [.lit (.slice none 0 c)] k [] .nils []:=by
 refine Bd func193 ntmps193 fun σ N hp hpn hk hkn hfree=>?_
 exact W0
theorem zam (l:List It) (hl:l.length≤100000) (k:Nat):
  ACall prog 193 [.slice none (l.map xm)] k [] (.ms k 1 68 0 l.length) [(k,.mrow 1 85 68 (l.map xm))]:=by
 cases l with
 | cons x r=>exact zal (x::r) rfl hl k
 | nil=>
  refine ACall.empty fun A c=>?_
  cases A with
  | none=>exact ACall.nilM (by decide) (zb4 c k)
  | some A=>exact jE A c k
set_option maxHeartbeats 1000000 in
theorem zcU (l:List It) (hl:l.length≤100000) (hc:∀ x∈l,x.box.length≤140737488351232) (k:Nat):
  ACall prog 142 [.slice none (l.map xm)] k [] (.slice none (l.map xm)) []:=by
 have c0:=zam l hl
 refine Bd func142 ntmps142 fun σ N hp hpn hk hkn hfree=>?_
 have hcs:=And.intro c0 True.intro
 clear c0
 refine Wk ?_
 clear hcs
 refine ze zi (by kernel_rfl) [4,9,10,11,12,13,14,15,16,17,18,19,20,21,22] [N+2] (fun m_ s_ σ_ n_=>∃ (u:Nat),m_=l.length - u∧s_ 9=.lit (.int .i64 u)∧s_ 3=.ms (N+2) 1 68 0 l.length∧σ_ (N+2)=.mrow 1 85 68 (l.map xm)∧(u≤l.length)) ⟨_,0,rfl,WF,WF,WF,WC⟩ ?_
 intro m_3 s_3 σ_3 n_3 hs_3 hf_3 hn_3 hI_3
 obtain ⟨u,hm_3,h3_9,h3_3,e3_0,hu⟩:=hI_3
 have h3_2:=KS hs_3 2
 have h3_3:=KS hs_3 3
 have h3_8:=KS hs_3 8
 have hlow:=KL (N:=N) (σ:=σ) hf_3
 by_cases hul:u=l.length
 ·subst hul
  clear hc
  refine Wm ?_
  iterate 1 refine Wz ?_
  refine qJ 3 (id:=N+2) (ver:=1) (size:=68) (e:=85) (xs:=l.map xm) (k:=l.length) (by simp (disch:=omega) [go_sem, *,-List.reduceReplicate]) (by simp (disch:=omega) [go_sem, *,-List.reduceReplicate]) (by simp (disch:=omega) [go_sem, *,-List.reduceReplicate]) ?_
  exact WM
 ·have hu1:u < l.length:=by omega
  have hmz:=hc _ (List.getElem_mem hu1)
  obtain ⟨z,hz⟩:∃ z,l[u]=z:=⟨_,rfl⟩
  rw [hz] at hmz
  have hset:(l.map xm).set u (xm z)=l.map xm:=by
   rw [← hz,← List.getElem_map (f:=xm) (h:=by rw [List.length_map];exact hu1)]
   exact List.set_getElem_self _
  have hzm:(l.map xm)[u]?=some (xm z):=by rw [List.getElem?_map,List.getElem?_eq_getElem hu1,hz];rfl
  have hsz:AV.szl ((l.map xm).take u)=u * 68:=by
   rw [← List.map_take,AV.szl_uniform _ 68 (fun x hx=>by obtain ⟨c,_,rfl⟩:=List.mem_map.1 hx;exact zjx c),List.length_map,List.length_take,Nat.min_eq_left oo]
  have ho4:(AV.agg (l.map xm)).offs [u,4]=u * 68+35:=by simp only [AV.offs,hzm,hsz];simp [xm,AV.offs,AV.szl,AV.sz,zB]
  have hp4:(xm z).put [4] (.slice none (z.box.map za))=xm z:=rfl
  have hg4:(xm z).get [4]=some (.slice none (z.box.map za)):=rfl
  have hg5:(xm z).offs [4]=35:=by simp [xm,AV.offs,AV.szl,AV.sz,zB]
  have k4:=yC z.box hmz
  have hcs:=And.intro k4 (True.intro)
  clear k4 hc hmz
  refine Wk ?_
  exact ⟨WS,WG,WN,_,(show l.length - (u+1) < m_3 by omega),u+1,rfl,WF,WF,WF,WC⟩
set_option maxHeartbeats 4000000 in
theorem zbi (b:Bu) (hb:BuC b) (k:Nat):ACall prog 143 [ye b] k [] (ye b) []:=by
 obtain ⟨h1,h2,h3,h4⟩:=hb
 obtain ⟨rq,ep,se,L,tg,D⟩:=b
 simp only at h1 h2 h3 h4
 have c1:=vB L h1 h2
 have c2:=zak D h3
 have hbA:ye ⟨rq,ep,se,L,tg,D⟩=.agg [yD rq,.lit (.int .i64 ep),.lit (.int .i64 se),.slice none (L.map z8),zd tg,.slice none (D.map zC)]:=rfl
 rw [hbA]
 clear hbA
 refine Bd func143 ntmps143 fun σ N hp hpn hk hkn hfree=>?_
 have hcs:=And.intro c1 (And.intro c2 True.intro)
 clear c1 c2
 refine Wk ?_
 clear hcs
 refine ze zi (by kernel_rfl) [3,4,16,17,18,19,20,21,22,23,24,25,26,27,28,29,30,31,32,33,34,35,36,37,38,39] [N,N+7] (fun m_ s_ σ_ n_=>∃ (u:Nat),m_=D.length - u∧s_ 16=.lit (.int .i64 u)∧σ_ (N)=.box 75 (.agg [yD rq,.lit (.int .i64 ep),.lit (.int .i64 se),.slice none (L.map z8),zd tg,.ms (N+7) 1 34 0 D.length])∧σ_ (N+7)=.mrow 1 168 34 (D.map zC)∧(u≤D.length)) ⟨_,0,rfl,WF,WF,WF,WC⟩ ?_
 intro m_1 s_1 σ_1 n_1 hs_1 hf_1 hn_1 hI_1
 obtain ⟨u,hm_1,h1_16,e1_0,e1_1,hu⟩:=hI_1
 have h1_1:=KS hs_1 1
 have h1_2:=KS hs_1 2
 have h1_15:=KS hs_1 15
 have k1_0:=KE hf_1 (N+1)
 have hlow:=KL (N:=N) (σ:=σ) hf_1
 by_cases hul:u=D.length
 ·subst hul
  clear h4
  iterate 1 refine Wz ?_
  refine yM N [5] (r:=N+7) (ver:=1) (size:=34) (e:=168) (xs:=D.map zC) (k:=D.length) (by simp (disch:=omega) [go_sem, *,-List.reduceReplicate];try exact ⟨rfl,rfl⟩) (by simp (disch:=omega) [go_sem, *,-List.reduceReplicate]) (by simp (disch:=omega) [go_sem, *,-List.reduceReplicate]) (by simp) ?_
  exact WA
 ·have hu1:u < D.length:=by omega
  have hmz:=h4 _ (List.getElem_mem hu1)
  obtain ⟨z,hz⟩:∃ z,D[u]=z:=⟨_,rfl⟩
  rw [hz] at hmz
  have hset:(D.map zC).set u (zC z)=D.map zC:=by
   rw [← hz,← List.getElem_map (f:=zC) (h:=by rw [List.length_map];exact hu1)]
   exact List.set_getElem_self _
  have hzm:(D.map zC)[u]?=some (zC z):=by rw [List.getElem?_map,List.getElem?_eq_getElem hu1,hz];rfl
  have hsz:AV.szl ((D.map zC).take u)=u * 34:=by
   rw [← List.map_take,AV.szl_uniform _ 34 (fun x hx=>by obtain ⟨c,_,rfl⟩:=List.mem_map.1 hx;exact kG c),List.length_map,List.length_take,Nat.min_eq_left oo]
  have ho:(AV.agg (D.map zC)).offs [u]=u * 34:=by simp only [AV.offs,hzm,hsz];rfl
  have ho0:(AV.agg (D.map zC)).offs [u,0]=u * 34+0:=by simp only [AV.offs,hzm,hsz];rfl
  have ho1:(AV.agg (D.map zC)).offs [u,1]=u * 34+1:=by simp only [AV.offs,hzm,hsz];rfl
  have hp0:(zC z).put [0] (.slice none (z.ticket.map za))=zC z:=rfl
  have hp1:(zC z).put [1] (.slice none (z.conds.map zU))=zC z:=rfl
  have k1:=yC z.ticket hmz.1
  have k2:=qO z.conds hmz.2
  have hcs:=And.intro k1 (And.intro k2 True.intro)
  clear k1 k2 h4 hmz
  refine Wk ?_
  exact ⟨WS,WG,WN,_,(show D.length - (u+1) < m_1 by omega),u+1,rfl,WF,WF,WF,WC⟩
set_option maxHeartbeats 4000000 in
theorem qN (q:Kn) (h:KnC q) (k:Nat):ACall prog 77 [xT q] k [] (xT q) []:=by
 have c1:=qR q.ps h.pl h.pc
 have c2:=yx q.ds h.dl h.dc
 have c3:=zcU q.its h.il h.ic
 have hbl:=h.bl
 have hbc:=h.bc
 clear h
 obtain ⟨P,D,B,I⟩:=q
 unfold xT
 simp only at *
 refine Bd func77 ntmps77 fun σ N hp hpn hk hkn hfree=>?_
 have hcs:=And.intro c1 (And.intro c2 (And.intro c3 True.intro))
 clear c1 c2 c3
 refine Wk ?_
 clear hcs
 refine zdC (N+2+10) [2] 75 38 (bt:=71) (c:=.agg [.slice none (P.map zG),.slice none (D.map zw),.nils,.slice none (I.map xm)]) (by simp (disch:=omega) [go_sem, *,-List.reduceReplicate]) rfl ?_
 refine ze zi (by kernel_rfl) [5,19,20,21,22,23,24,25,26,27,28,29,30] [N+2+10,N+18] (fun m_ s_ σ_ n_=>∃ (u:Nat) (acc:List Bu),m_=B.length - u∧s_ 19=.lit (.int .i64 u)∧σ_ (N+2+10)=.box 71 (.agg [.slice none (P.map zG),.slice none (D.map zw),.slice (some (N+18)) (acc.map ye),.slice none (I.map xm)])∧σ_ (N+18)=.row 75 38 acc.length∧(u≤B.length)∧(acc.length=u)∧(B.take u=acc)) ⟨_,0,[],rfl,WF,WF,WF,WC,WC,WC⟩ ?_
 intro m_2 s_2 σ_2 n_2 hs_2 hf_2 hn_2 hI_2
 obtain ⟨u,acc,hm_2,h2_19,e2_0,e2_1,hu,hal,hacc⟩:=hI_2
 have h2_2:=KS hs_2 2
 have h2_3:=KS hs_2 3
 have h2_17:=KS hs_2 17
 have h2_18:=KS hs_2 18
 have k2_0:=KE hf_2 (N)
 have k2_1:=KE hf_2 (N+1)
 have hlow:=KL (N:=N) (σ:=σ) hf_2
 by_cases hul:u=B.length
 ·subst hul
  rw [List.take_length] at hacc
  subst hacc
  clear hbc
  exact WA
 ·have hu1:u < B.length:=by omega
  obtain ⟨z,hz⟩:∃ z,B[u]=z:=⟨_,rfl⟩
  have hzm:(B.map ye)[u]?=some (ye z):=by rw [List.getElem?_map,List.getElem?_eq_getElem hu1,hz];rfl
  have c1:=zbi z (hbc z (by rw [← hz];exact List.getElem_mem _))
  have htk:B.take (u+1)=acc++[z]:=by rw [List.take_add_one,List.getElem?_eq_getElem hu1,hz,hacc];rfl
  have hb26:(acc.length+1) * 112≤140737488355328:=by omega
  clear hbc
  have hcs:=And.intro c1 True.intro
  clear c1
  refine Wk ?_
  exact ⟨WS,WG,WN,_,(show B.length - (u+1) < m_2 by omega),u+1,acc++[z],rfl,WF,WF,WF,WC,WC,WC⟩
def xy {α:Type} (l:List α) (x:α):List α:=if l.length < 64 then l++[x] else (l++[x]).drop 1
theorem wE {α:Type} {l:List α} {x y:α} (h:y∈xy l x):y∈l∨y=x:=by
 unfold xy at h
 have:y∈l++[x]:=by
  split at h
  ·exact h
  ·exact List.mem_of_mem_drop h
 rcases List.mem_append.1 this with h | h
 ·exact Or.inl h
 ·exact Or.inr (List.mem_singleton.1 h)
theorem xu {α:Type} (l:List α) (x:α):(xy l x).length≤l.length+1:=by
 unfold xy
 split <;> simp
theorem KnC.see {q:Kn} (h:KnC q) {b:Bu} (hb:BuC b) (hl:q.bs.length < 100000):KnC ⟨q.ps,q.ds,xy q.bs b,q.its⟩:=⟨h.pl,h.pc,h.dl,h.dc,by have:=xu q.bs b;simp only;omega,fun x hx=>by
  rcases wE hx with hx | hx
  ·exact h.bc x hx
  ·rw [hx];exact hb,h.il,h.ic⟩
theorem KnC.watch {q:Kn} (h:KnC q) {b:It} (hb:b.box.length≤140737488351232) (hl:q.its.length < 100000):KnC ⟨q.ps,q.ds,q.bs,xy q.its b⟩:=⟨h.pl,h.pc,h.dl,h.dc,h.bl,h.bc,by have:=xu q.its b;simp only;omega,fun x hx=>by
  rcases wE hx with hx | hx
  ·exact h.ic x hx
  ·rw [hx];exact hb⟩
theorem zen (p:Pa) (t:Tg) (a k:Nat):ACall prog 87 [zG p,.ptr a [] 0] k [(a,.box 28 (zd t))] (.lit (.bool (decide (p.tag=t)))) []:=by
 obtain ⟨ep,se,L,tg⟩:=p
 unfold zG
 simp only
 refine Bd func87 ntmps87 fun σ N hp hpn hk hkn hfree=>?_
 obtain ⟨hd,hdn⟩:=HD0 hp hpn;clear hp hpn
 exact W0
theorem zeo (d:Di) (t:Tg) (a k:Nat):ACall prog 89 [zw d,.ptr a [] 0] k [(a,.box 28 (zd t))] (.lit (.bool (decide (d.tag=t)))) []:=by
 obtain ⟨ti,L,tg⟩:=d
 unfold zw
 simp only
 refine Bd func89 ntmps89 fun σ N hp hpn hk hkn hfree=>?_
 obtain ⟨hd,hdn⟩:=HD0 hp hpn;clear hp hpn
 exact W0
theorem zdc (d:Bo) (t:Tg) (a k:Nat):ACall prog 85 [zC d,.ptr a [] 0] k [(a,.box 28 (zd t))] (.lit (.bool (decide (d.proof=t)))) []:=by
 obtain ⟨ti,L,tg⟩:=d
 unfold zC
 simp only
 refine Bd func85 ntmps85 fun σ N hp hpn hk hkn hfree=>?_
 obtain ⟨hd,hdn⟩:=HD0 hp hpn;clear hp hpn
 exact W0
theorem zep (d:It) (t:Tg) (a k:Nat):ACall prog 92 [xm d,.ptr a [] 0] k [(a,.box 28 (zd t))] (.lit (.bool (decide (d.tag=t)))) []:=by
 obtain ⟨x1,x2,x3,x4,x5,tg⟩:=d
 unfold xm
 simp only
 refine Bd func92 ntmps92 fun σ N hp hpn hk hkn hfree=>?_
 obtain ⟨hd,hdn⟩:=HD0 hp hpn;clear hp hpn
 exact W0
def zbv (t:Tg) (b:Bu):Bool:=decide (b.proof=t) || b.dis.any fun d=>decide (d.proof=t)
theorem zem (b:Bu) (hb:b.dis.length≤100000) (t:Tg) (a k:Nat):ACall prog 83 [ye b,.ptr a [] 0] k [(a,.box 28 (zd t))] (.lit (.bool (zbv t b))) []:=by
 have c1:=wx b.dis (fun d=>decide (d.proof=t)) 85 a (.box 28 (zd t)) (by simp) (fun x _ k=>zdc x t a k) oo
 obtain ⟨rq,ep,se,L,tg,D⟩:=b
 unfold zbv ye
 simp only at c1 hb ⊢
 generalize (D.any fun d=>decide (d.proof=t))=q at *
 by_cases h:tg=t
 ·subst h
  rw [decide_eq_true rfl,Bool.true_or]
  clear c1
  refine Bd func83 ntmps83 fun σ N hp hpn hk hkn hfree=>?_
  obtain ⟨hd,hdn⟩:=HD0 hp hpn;clear hp hpn
  exact W0
 ·rw [decide_eq_false h,Bool.false_or]
  have hd0:decide (tg=t)=false:=decide_eq_false h
  refine Bd func83 ntmps83 fun σ N hp hpn hk hkn hfree=>?_
  obtain ⟨hd,hdn⟩:=HD0 hp hpn;clear hp hpn
  have hcs:=And.intro c1 True.intro
  clear c1
  exact W0
def zka (q:Kn) (t:Tg):Bool:=(q.ps.any fun p=>decide (p.tag=t)) || ((q.ds.any fun d=>decide (d.tag=t)) || (q.bs.any (zbv t) || q.its.any fun d=>decide (d.tag=t)))
theorem zbH (q:Kn) (h:KnC q) (t:Tg) (k:Nat):ACall prog 29 [xT q,zd t] k [] (.lit (.bool (zka q t))) []:=by
 have c1:=fun a=>zb9 q.ps (fun p=>decide (p.tag=t)) 87 a (.box 28 (zd t)) (by simp) (fun x _ k=>zen x t a k) (by have:=h.pl;omega)
 have c2:=fun a=>zaU q.ds (fun d=>decide (d.tag=t)) 89 a (.box 28 (zd t)) (by simp) (fun x _ k=>zeo x t a k) (by have:=h.dl;omega)
 have c3:=fun a=>zb7 q.bs (zbv t) 83 a (.box 28 (zd t)) (by simp) (fun x hx k=>zem x (h.bc x hx).dl t a k) (by have:=h.bl;omega)
 have c4:=fun a=>zb8 q.its (fun d=>decide (d.tag=t)) 92 a (.box 28 (zd t)) (by simp) (fun x _ k=>zep x t a k) (by have:=h.il;omega)
 clear h
 obtain ⟨P,D,B,I⟩:=q
 unfold zka xT
 simp only at *
 generalize (P.any fun p=>decide (p.tag=t))=x1 at *
 generalize (D.any fun d=>decide (d.tag=t))=x2 at *
 generalize B.any (zbv t)=x3 at *
 generalize (I.any fun d=>decide (d.tag=t))=x4 at *
 cases x1 with
 | true=>
  rw [Bool.true_or]
  refine Bd func29 ntmps29 fun σ N hp hpn hk hkn hfree=>?_
  have hcs:=And.intro (c1 (N+1)) True.intro
  clear c1 c2 c3 c4
  exact W0
 | false=>
  rw [Bool.false_or]
  cases x2 with
  | true=>
   rw [Bool.true_or]
   refine Bd func29 ntmps29 fun σ N hp hpn hk hkn hfree=>?_
   have hcs:=And.intro (c1 (N+1)) (And.intro (c2 (N+1)) True.intro)
   clear c1 c2 c3 c4
   exact W0
  | false=>
   rw [Bool.false_or]
   cases x3 with
   | true=>
    rw [Bool.true_or]
    refine Bd func29 ntmps29 fun σ N hp hpn hk hkn hfree=>?_
    have hcs:=And.intro (c1 (N+1)) (And.intro (c2 (N+1)) (And.intro (c3 (N+1)) True.intro))
    clear c1 c2 c3 c4
    exact W0
   | false=>
    rw [Bool.false_or]
    refine Bd func29 ntmps29 fun σ N hp hpn hk hkn hfree=>?_
    have hcs:=And.intro (c1 (N+1)) (And.intro (c2 (N+1)) (And.intro (c3 (N+1)) (And.intro (c4 (N+1)) True.intro)))
    clear c1 c2 c3 c4
    exact W0
end Go.Proofs.YtglmjglbobhbbaaGreatDoor
