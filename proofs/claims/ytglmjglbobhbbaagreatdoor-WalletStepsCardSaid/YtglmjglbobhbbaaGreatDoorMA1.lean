/- Texts C1p, C3p, C4p, C5p, Fp, K5p, Q2p, U9p, P14p, P9p, P11p, P19, P20, P21, P15, P22, P1, W4p, P23, U27p, P16, U19, P24, W17, P17, P25, joined. -/
import Derived.Test.YtglmjglbobhbbaaGreatDoorM45
namespace Go.Ab
open Go.RowKit
theorem kB {a:Int} (h:(Lit.int .u8 a).wf=true):∃ b:UInt8,AV.lit (.int .u8 a)=za b∧a=(b.toNat:Int):=by
 have hw:IntKind.u8.min≤a∧a≤IntKind.u8.max:=by simpa [Lit.wf] using h
 have e1:IntKind.u8.min=0:=by decide
 have e2:IntKind.u8.max=255:=by decide
 obtain ⟨n,rfl⟩:=Int.eq_ofNat_of_zero_le (show 0≤a by omega)
 refine ⟨UInt8.ofNat n,?_,?_⟩
 ·simp only [za]
  rw [UInt8.toNat_ofNat',Nat.mod_eq_of_lt oo]
 ·rw [UInt8.toNat_ofNat',Nat.mod_eq_of_lt oo]
end Go.Ab
namespace Go.Ab
open Go.RowKit Go.ChangeShapes
def zjz (P:Program):List Field→Nat→Nat→Bool
 | [],off,tot=>off == tot
 | f::fs,off,tot=>f.offset == off && zjz P fs (off+P.cellsOf f.type) tot
def vL (P:Program):Nat→TypeId→Bool
 | 0,_=>false
 | m+1,t=>match P.underlying t with
  | some .bool=>P.cellsOf t == 1
  | some (.int _)=>P.cellsOf t == 1
  | some .string=>P.cellsOf t == 1
  | some (.slice e)=>vL P m e && decide (0 < P.cellsOf e) && P.cellsOf t == 1
  | some (.array n e)=>vL P m e && P.cellsOf t == n * P.cellsOf e
  | some (.struct fs)=>(fs.toList.all fun f=>vL P m f.type) && zjz P fs.toList 0 (P.cellsOf t)
  | _=>false
def ziL (P:Program) (t:TypeId):Bool:=
 match P.underlying t with
 | some (.array _ _) | some (.struct _)=>true
 | _=>false
theorem wB {w:World} {a:Addr} {n:Nat} {cs:List Value} (h:(List.range n).mapM (fun i=>w.cell? (a.add i))=some cs):cs.length=n∧∀ (i:Nat) (v:Value),cs[i]?=some v→w.cell? (a.add i)=some v:=by
 have hl:=mapM_some_length h
 refine ⟨by simpa using hl,fun i v hv=>?_⟩
 have hi:i < n:=by have:=(List.getElem?_eq_some_iff.1 hv).1;simp at hl;omega
 have:=mapM_some_get h i i (by simp [hi])
 rw [this];exact hv
theorem wR {cs:List Value} {size:Nat}:∀ (vs:List Value),cs.length=vs.length * size→(∀ (i:Nat) (v:Value),vs[i]?=some v→v.cells.toList=(cs.drop (i * size)).take size)→yG vs=cs
 | [],hl,_=>by
  simp at hl
  subst hl;rfl
 | v::vs,hl,h=>by
  have h0:=h 0 v rfl
  simp only [Nat.zero_mul,List.drop_zero] at h0
  rw [xX,h0]
  simp only [List.length_cons,Nat.add_mul,Nat.one_mul] at hl
  have ih:=wR (cs:=cs.drop size) (size:=size) vs (by rw [List.length_drop];omega) fun i u hu=>by
   have:=h (i+1) u (by simpa using hu)
   rw [this,List.drop_drop]
   congr 2
   rw [Nat.add_mul];omega
  rw [ih,List.take_append_drop]
theorem wQ {P:Program} {cs:List Value}:∀ (fs:List Field) (vs:List Value) (off:Nat),zjz P fs off cs.length=true→vs.length=fs.length→off≤cs.length→(∀ (i:Nat) (f:Field) (v:Value),fs[i]?=some f→vs[i]?=some v→v.cells.toList=(cs.drop f.offset).take (P.cellsOf f.type)∧v.cells.size=P.cellsOf f.type)→yG vs=cs.drop off
 | [],vs,off,hl,hv,hle,_=>by
  cases vs with
  | nil=>
   simp only [zjz,beq_iff_eq] at hl
   rw [hl,List.drop_length];rfl
  | cons=>simp at hv
 | f::fs,vs,off,hl,hv,hle,h=>by
  cases vs with
  | nil=>simp at hv
  | cons v vs=>
   simp only [zjz,Bool.and_eq_true,beq_iff_eq] at hl
   obtain ⟨h1,h2⟩:=h 0 f v rfl rfl
   have hsz:((cs.drop off).take (P.cellsOf f.type)).length=P.cellsOf f.type:=by rw [← hl.1,← h1,Array.length_toList,h2]
   rw [List.length_take,List.length_drop] at hsz
   have ih:=wQ (P:=P) (cs:=cs) fs vs (off+P.cellsOf f.type) hl.2 (by simpa using hv) oo fun i g u hg hu=>h (i+1) g u (by simpa using hg) (by simpa using hu)
   rw [xX,h1,hl.1,ih,← List.drop_drop,List.take_append_drop]
theorem qZ {α:Type} {Q:Nat→α→Prop}:∀ n,(∀ i,i < n→∃ p,Q i p)→∃ l:List α,l.length=n∧∀ (i:Nat) (p:α),l[i]?=some p→Q i p
 | 0,_=>⟨[],rfl,fun i p h=>by simp at h⟩
 | n+1,h=>by
  obtain ⟨l,hl,hq⟩:=qZ n fun i hi=>h i oo
  obtain ⟨p,hp⟩:=h n oo
  refine ⟨l++[p],by simp [hl],fun i q hq'=>?_⟩
  by_cases hi:i < l.length
  ·rw [List.getElem?_append_left hi] at hq';exact hq i q hq'
  ·rw [List.getElem?_append_right oo] at hq'
   have:i - l.length=0:=by
    have:=(List.getElem?_eq_some_iff.1 hq').1
    simp at this;omega
   rw [this] at hq'
   simp at hq'
   subst hq'
   have:i=n:=by omega
   rw [this];exact hp
theorem xo {H:Type} {P:Program} {e:TypeId}:∀ {ds:List (DataW H)} {i:Nat} {d:DataW H},ds[i]?=some d→∀ n∈d.weights P e,n∈DataW.weightsAll P e ds
 | d0::r,0,d,h,n,hn=>by
  simp only [List.getElem?_cons_zero,Option.some.injEq] at h
  subst h
  simp only [DataW.weightsAll,List.mem_append]
  exact .inl hn
 | d0::r,i+1,d,h,n,hn=>by
  simp only [List.getElem?_cons_succ] at h
  simp only [DataW.weightsAll,List.mem_append]
  exact .inr (xo h n hn)
 | [],_,_,h,_,_=>by simp at h
section
variable {H:Type} {enc:TypeId × Value→H} {P:Program} {w:World} {base:Nat} {spare:Nat→Bool} {held:Bool}
theorem wI:∀ (m:Nat) (t:TypeId),vL P m t=true→∀ (fuel:Nat) (cs:List Value) (x:DataW H × List MemPlace),DataW.trod enc P w base spare held fuel t cs=some x→(∀ n∈x.1.weights P t,n≤140737488351232) →
  ∃ (p:AV × Value),p.2.cells.toList=cs∧Rep (g0 w) p.1 p.2∧tyAV P m t p.1∧p.2.cells.size=P.cellsOf t∧kN p.2=ziL P t∧zj7 p.2=false
 | 0,_,h=>by simp [vL] at h
 | m+1,t,h=>by
  intro fuel cs x hx hw0
  unfold vL at h
  unfold tyAV ziL
  split at h
  ·rename_i ht
   obtain ⟨b,rfl,rfl⟩:=DataW.trod_bool ht hx
   simp only [ht]
   exact ⟨(.lit (.bool b),.bool b),rfl,.lit _ rfl,⟨b,rfl⟩,by simpa [Value.cells] using (beq_iff_eq.1 h).symm,rfl,rfl⟩
  ·rename_i k ht
   obtain ⟨n,rfl,rfl,hw⟩:=DataW.trod_int ht hx
   simp only [ht]
   exact ⟨(.lit (.int k n),.int k n),rfl,.lit _ rfl,⟨n,rfl,hw⟩,by simpa [Value.cells] using (beq_iff_eq.1 h).symm,rfl,rfl⟩
  ·rename_i ht
   obtain ⟨s,rfl,rfl,hw⟩:=DataW.trod_string ht hx
   simp only [ht]
   refine ⟨(.lit (.string s),.string s),rfl,.lit _ rfl,⟨s.data.toList,by simp,?_⟩,by simpa [Value.cells] using (beq_iff_eq.1 h).symm,rfl,rfl⟩
   unfold maxLen at hw
   have:s.data.toList.length=s.size:=by simp
   omega
  ·rename_i e ht
   simp only [Bool.and_eq_true,decide_eq_true_eq,beq_iff_eq] at h
   obtain ⟨⟨h1,h2⟩,h3⟩:=h
   simp only [ht]
   rcases DataW.trod_slice ht hx with ⟨rfl,rfl⟩ | ⟨a,len,cap,elems,rest,n,_,rfl,rfl,hba,hlc,hcm,hel,hcell,_⟩
   ·exact ⟨(.slice none [],.slice none 0 0),rfl,AV.le_nils0 _ _ .nils,⟨[],rfl,by simp,(fun y hy=>by cases hy),by simp⟩,by simp [Value.cells,h3],rfl,rfl⟩
   ·have hwu:(DataW.slice (elems.map (·.1)) (rest.map (·.1))).weights P t=((elems.map (·.1)).length+(rest.map (·.1)).length) * P.bytesOf e::(DataW.weightsAll P e (elems.map (·.1))++DataW.weightsAll P e (rest.map (·.1))):=by simp only [DataW.weights,ht]
    simp only [hwu] at hw0
    have hwl:len * P.bytesOf e≤140737488351232:=Nat.le_trans (Nat.mul_le_mul_right _ (by rw [List.length_map,hel];omega)) (hw0 _ (List.mem_cons_self ..))
    have hwe:∀ (i:Nat) (z:DataW H × List MemPlace),elems[i]?=some z→∀ n∈z.1.weights P e,n≤140737488351232:=fun i z hz n hn=>
     hw0 n (List.mem_cons_of_mem _ (List.mem_append_left _ (xo (i:=i) (by rw [List.getElem?_map,hz];rfl) n hn)))
    obtain ⟨l,hl,hq⟩:=qZ (Q:=fun i (p:AV × Value)=>Rep (g0 w) p.1 p.2∧tyAV P m e p.1∧p.2.cells.size=P.cellsOf e∧∀ (j:Nat) (v:Value),p.2.cells.toList[j]?=some v→w.cell? ((a.add (i * P.cellsOf e)).add j)=some v) len fun i hi=>by
     have hc:=hcell i hi
     have hei:elems[i]?=some elems[i]:=List.getElem?_eq_getElem oo
     rw [hei] at hc
     simp only [Option.bind_eq_some_iff] at hc
     obtain ⟨cs,hcs,hd⟩:=hc
     unfold World.cells? at hcs
     split at hcs
     ·obtain ⟨hcl,hcc⟩:=wB hcs
      obtain ⟨p,p1,p2,p3,p4,p5,p6⟩:=wI m e h1 n cs _ hd (hwe i _ hei)
      exact ⟨p,p2,p3,p4,by rw [p1];exact hcc⟩
     ·cases hcs
    have hlen:(l.map (·.1)).length=len:=by simp [hl]
    have hsz:∀ v∈l.map (·.2),v.cells.size=P.cellsOf e:=fun v hv=>by
     obtain ⟨p,hp,rfl⟩:=List.mem_map.1 hv
     obtain ⟨i,hi⟩:=List.getElem?_of_mem hp
     exact (hq i p hi).2.2.1
    have hrep:=Rep.slice (g:=g0 w) none (l.map (·.1)) (l.map (·.2)) (some a) cap (P.cellsOf e) (by simp) (by rw [hlen];exact hlc) hcm
     (fun i x v hx hv=>by
      rw [List.getElem?_map] at hx hv
      cases hli:l[i]? with
      | none=>rw [hli] at hx;cases hx
      | some p=>rw [hli] at hx hv;cases hx;cases hv;exact (hq i p hli).1) hsz
     (by
      rw [hlen]
      by_cases h0:len=0
      ·exact .inl h0
      ·right
       have hl0:l[0]?=some l[0]:=List.getElem?_eq_getElem oo
       obtain ⟨_,_,q3,q4⟩:=hq 0 _ hl0
       have hc0:0 < (l[0]).2.cells.toList.length:=by rw [Array.length_toList,q3];exact h2
       have hcell0:=q4 0 _ (List.getElem?_eq_getElem hc0)
       have hspot:a.spot=none:=by
        have:=World.cell?_spot hcell0
        simpa [Addr.add] using this
       obtain ⟨b,off,sp⟩:=a
       simp only at hspot
       subst hspot
       have hb:b < w.heap.size:=by
        rw [Addr.add_lit,Addr.add_lit] at hcell0
        rcases Nat.lt_or_ge b w.heap.size with h | h
        ·exact h
        ·exfalso
         simp [World.cell?,Array.getElem?_eq_none h] at hcell0
       refine ⟨b,off,rfl,fun j u hu=>?_⟩
       simp only [g0,if_pos hb]
       have hflen:(yG (l.map (·.2))).length=len * P.cellsOf e:=by rw [yL _ _ hsz,List.length_map,hl]
       have hj:j < len * P.cellsOf e:=by rw [← hflen];exact (List.getElem?_eq_some_iff.1 hu).1
       have hi:j / P.cellsOf e < len:=by rw [Nat.div_lt_iff_lt_mul h2];exact hj
       have hli:l[j / P.cellsOf e]?=some l[j / P.cellsOf e]:=List.getElem?_eq_getElem oo
       obtain ⟨_,_,r3,r4⟩:=hq _ _ hli
       have hjm:j % P.cellsOf e < (l[j / P.cellsOf e]).2.cells.toList.length:=by rw [Array.length_toList,r3];exact Nat.mod_lt _ h2
       have hat:=zhv (l.map (·.2)) (P.cellsOf e) hsz (j / P.cellsOf e) (l[j / P.cellsOf e]).2 (by rw [List.getElem?_map,hli];rfl) (j % P.cellsOf e) _ (List.getElem?_eq_getElem hjm)
       have hsplit:j / P.cellsOf e * P.cellsOf e+j % P.cellsOf e=j:=by rw [Nat.mul_comm];exact Nat.div_add_mod j (P.cellsOf e)
       rw [hsplit,hu] at hat
       have hcl:=r4 (j % P.cellsOf e) u (by rw [List.getElem?_eq_getElem hjm];exact hat.symm)
       rw [Addr.add_lit,Addr.add_lit] at hcl
       rw [← hcl]
       congr 2
       omega) (fun id hid=>by cases hid)
    rw [hlen] at hrep
    refine ⟨(.slice none (l.map (·.1)),.slice (some a) len cap),rfl,hrep,⟨_,rfl,by rw [hlen];unfold maxLen at hcm;omega,fun y hy=>?_,by rw [hlen];exact hwl⟩,by simp [Value.cells,h3],rfl,rfl⟩
    obtain ⟨p,hp,rfl⟩:=List.mem_map.1 hy
    obtain ⟨i,hi⟩:=List.getElem?_of_mem hp
    exact (hq i p hi).2.1
  ·rename_i n e ht
   simp only [Bool.and_eq_true,beq_iff_eq] at h
   obtain ⟨h1,h2⟩:=h
   obtain ⟨xs,q,_,rfl,hl,hxl,hf⟩:=DataW.trod_array ht hx
   have hwu:(DataW.agg (xs.map (·.1))).weights P t=DataW.weightsAll P e (xs.map (·.1)):=by simp only [DataW.weights,ht]
   simp only [hwu] at hw0
   have hwe:∀ (i:Nat) (z:DataW H × List MemPlace),xs[i]?=some z→∀ n∈z.1.weights P e,n≤140737488351232:=fun i z hz n hn=>
    hw0 n (xo (i:=i) (by rw [List.getElem?_map,hz];rfl) n hn)
   simp only [ht]
   obtain ⟨l,hll,hq⟩:=qZ (Q:=fun i (p:AV × Value)=>Rep (g0 w) p.1 p.2∧tyAV P m e p.1∧p.2.cells.size=P.cellsOf e∧p.2.cells.toList=(cs.drop (i * P.cellsOf e)).take (P.cellsOf e)) n fun i hi=>by
    have hd:=hf i hi
    have hxi:xs[i]?=some (xs[i]'oo):=List.getElem?_eq_getElem oo
    rw [hxi] at hd
    obtain ⟨p,p1,p2,p3,p4,p5,p6⟩:=wI m e h1 q _ _ hd (hwe i _ hxi)
    exact ⟨p,p2,p3,p4,p1⟩
   have hfl:yG (l.map (·.2))=cs:=wR (size:=P.cellsOf e) _ (by rw [hl,h2,List.length_map,hll]) fun i v hv=>by
    rw [List.getElem?_map] at hv
    cases hli:l[i]? with
    | none=>rw [hli] at hv;cases hv
    | some p=>rw [hli] at hv;cases hv;exact (hq i p hli).2.2.2
   refine ⟨(.agg (l.map (·.1)),.agg (yG (l.map (·.2))).toArray),by rw [hfl];rfl,.agg _ _ (by simp) (fun i x v hx hv=>?_),⟨_,rfl,by simp [hll],fun y hy=>?_⟩,by simp [Value.cells,hfl,hl],rfl,rfl⟩
   ·rw [List.getElem?_map] at hx hv
    cases hli:l[i]? with
    | none=>rw [hli] at hx;cases hx
    | some p=>rw [hli] at hx hv;cases hx;cases hv;exact (hq i p hli).1
   ·obtain ⟨p,hp,rfl⟩:=List.mem_map.1 hy
    obtain ⟨i,hi⟩:=List.getElem?_of_mem hp
    exact (hq i p hi).2.1
  ·rename_i fs ht
   simp only [Bool.and_eq_true,List.all_eq_true] at h
   obtain ⟨h1,h2⟩:=h
   obtain ⟨xs,q,_,rfl,hl,hxl,hf⟩:=DataW.trod_struct ht hx
   have hwu:(DataW.agg (xs.map (·.1))).weights P t=DataW.weightsEach P (fs.toList.map (·.type)) (xs.map (·.1)):=by simp only [DataW.weights,ht]
   simp only [hwu] at hw0
   have hwe:∀ (i:Nat) (f:Field) (z:DataW H × List MemPlace),fs[i]?=some f→xs[i]?=some z→∀ n∈z.1.weights P f.type,n≤140737488351232:=fun i f z hf hz n hn=>
    hw0 n (DataW.weights_mem_each (j:=i) (t:=f.type) (by rw [List.getElem?_map,Array.getElem?_toList,hf];rfl) (by rw [List.getElem?_map,hz];rfl) n hn)
   simp only [ht]
   obtain ⟨l,hll,hq⟩:=qZ (Q:=fun i (p:AV × Value)=>∀ f,fs[i]?=some f→Rep (g0 w) p.1 p.2∧tyAV P m f.type p.1∧p.2.cells.size=P.cellsOf f.type∧p.2.cells.toList=(cs.drop f.offset).take (P.cellsOf f.type)) fs.size fun i hi=>by
    have hfi:fs[i]?=some fs[i]:=by simp [hi]
    have hd:=hf i _ hfi
    have hxi:xs[i]?=some (xs[i]'oo):=List.getElem?_eq_getElem oo
    rw [hxi] at hd
    obtain ⟨p,p1,p2,p3,p4,p5,p6⟩:=wI m (fs[i]).type (h1 _ (Array.getElem_mem_toList hi)) q _ _ hd (hwe i _ _ hfi hxi)
    exact ⟨p,fun f hf'=>by rw [hfi] at hf';cases hf';exact ⟨p2,p3,p4,p1⟩⟩
   have hfl:yG (l.map (·.2))=cs:=by
    have:=wQ (P:=P) (cs:=cs) fs.toList (l.map (·.2)) 0 (by rw [hl];exact h2) (by simp [hll]) (Nat.zero_le _) fun i f v hf' hv=>by
     rw [List.getElem?_map] at hv
     cases hli:l[i]? with
     | none=>rw [hli] at hv;cases hv
     | some p=>
      rw [hli] at hv;cases hv
      obtain ⟨_,_,q3,q4⟩:=hq i p hli f (by simpa using hf')
      exact ⟨q4,q3⟩
    simpa using this
   have hat:∀ (i:Nat) (p:AV × Value),l[i]?=some p→∃ f,fs[i]?=some f:=fun i p hp=>by
    have:i < fs.size:=by have:=(List.getElem?_eq_some_iff.1 hp).1;omega
    exact ⟨fs[i],by simp [this]⟩
   refine ⟨(.agg (l.map (·.1)),.agg (yG (l.map (·.2))).toArray),by rw [hfl];rfl,.agg _ _ (by simp) (fun i x v hx hv=>?_),⟨_,rfl,by simp [hll],fun i f y hf' hy=>?_⟩,by simp [Value.cells,hfl,hl],rfl,rfl⟩
   ·rw [List.getElem?_map] at hx hv
    cases hli:l[i]? with
    | none=>rw [hli] at hx;cases hx
    | some p=>
     rw [hli] at hx hv;cases hx;cases hv
     obtain ⟨f,hf'⟩:=hat i p hli
     exact (hq i p hli f hf').1
   ·rw [List.getElem?_map] at hy
    cases hli:l[i]? with
    | none=>rw [hli] at hy;cases hy
    | some p=>rw [hli] at hy;cases hy;exact (hq i p hli f hf').2.1
  ·cases h
theorem q8 {m:Nat} {t:TypeId} {v:Value} {d:DataW H} {ps:List MemPlace} {r:Reach} {b0:Nat} (ht:vL P m t=true) (hval:Value.okWide P w r b0 t v) (hd:DataW.Trod enc P w base spare held t v d ps) (hw:∀ n∈d.weights P t,n≤140737488351232):∃ x,Rep (g0 w) x v∧tyAV P m t x:=by
 obtain ⟨fuel,hf⟩:=hd
 obtain ⟨p,p1,p2,p3,p4,p5,p6⟩:=wI m t ht fuel _ _ hf hw
 have hv:p.2=v:=by
  unfold Value.okWide at hval
  cases ha:ziL P t with
  | true=>
   have hag:∃ cs,v=.agg cs:=by
    unfold ziL at ha
    split at ha
    ·rename_i h;rw [h] at hval;exact ⟨_,hval.choose_spec.1⟩
    ·rename_i h;rw [h] at hval;exact ⟨_,hval.choose_spec.1⟩
    ·cases ha
   obtain ⟨cs,rfl⟩:=hag
   rw [ha] at p5
   cases hp:p.2 <;> rw [hp] at p5 <;> simp [kN] at p5
   rename_i cs'
   rw [hp] at p1
   simp only [Value.cells] at p1
   congr 1
   exact Array.ext' p1
  | false=>
   rw [ha] at p5
   have hna:kN v=false:=by
    cases v <;> try rfl
    rename_i cs
    exfalso
    obtain ⟨m',rfl⟩:∃ k,m=k+1:=by cases m with
     | zero=>simp [vL] at ht
     | succ k=>exact ⟨k,rfl⟩
    unfold vL at ht
    unfold ziL at ha
    split at ht <;> first | (cases ht;done) | (rename_i h;rw [h] at ha hval;simp [Cell.okWide,Cell.ok] at ha hval;done)
   have c1:∀ u:Value,kN u=false→u.cells=#[u]:=fun u hu=>by cases u <;> simp_all [kN,Value.cells]
   rw [c1 _ p5,c1 _ hna] at p1
   simpa using p1
 subst hv
 exact ⟨p.1,p2,p3⟩
end
end Go.Ab
namespace Go.Ab
open Go.RowKit
theorem xF {α:Type} {R:α→Prop} {f:α→AV}:∀ {xs:List AV},(∀ y∈xs,∃ d,R d∧y=f d)→∃ ds:List α,(∀ d∈ds,R d)∧xs=ds.map f∧ds.length=xs.length
 | [],_=>⟨[],fun d h=>(by cases h),rfl,rfl⟩
 | x::xs,h=>by
  obtain ⟨d,h1,h2⟩:=h x (List.mem_cons_self ..)
  obtain ⟨ds,h3,h4,h5⟩:=xF (xs:=xs) fun y hy=>h y (List.mem_cons_of_mem _ hy)
  refine ⟨d::ds,fun e he=>?_,by simp [h2,← h4],by simp [h5]⟩
  rcases List.mem_cons.1 he with rfl | he
  ·exact h1
  ·exact h3 e he
theorem vv {P:Program} {m:Nat} {t:TypeId} {k:IntKind} {x:AV} (ht:zbL P t=some k) (h:tyAV P (m+1) t x):∃ n,(Lit.int k n).wf=true∧x=.lit (.int k n):=by
 unfold tyAV at h
 rw [wz ht] at h
 obtain ⟨n,h1,h2⟩:=h
 exact ⟨n,h2,h1⟩
theorem zoN {P:Program} {m:Nat} {t:TypeId} {x:AV} (ht:zgf P t=true) (h:tyAV P (m+1) t x):∃ b,x=.lit (.bool b):=by
 have hb:P.underlying t=some .bool:=by
  unfold zgf at ht
  split at ht
  ·assumption
  ·cases ht
 unfold tyAV at h
 rw [hb] at h
 exact h
theorem zj5 {P:Program} {m:Nat} {t:TypeId} {x:AV} (ht:zM P t=true) (h:tyAV P (m+1) t x):∃ l:List UInt8,l.length≤9223372036854775807∧x=.lit (.string ⟨l.toArray⟩):=by
 unfold tyAV at h
 rw [wV ht] at h
 obtain ⟨l,h1,h2⟩:=h
 exact ⟨l,h2,h1⟩
theorem zdM {P:Program} {m:Nat} {t e:TypeId} {x:AV} (ht:zT P t=some e) (h:tyAV P (m+1) t x):∃ xs,xs.length≤9223372036854775807∧(∀ y∈xs,tyAV P m e y)∧x=.slice none xs:=by
 unfold tyAV at h
 rw [zD ht] at h
 obtain ⟨xs,h1,h2,h3,_⟩:=h
 exact ⟨xs,h2,h3,h1⟩
theorem zcy {P:Program} {m:Nat} {t e:TypeId} {x:AV} (ht:zT P t=some e) (h:tyAV P (m+1) t x):∃ xs,xs.length≤9223372036854775807∧(∀ y∈xs,tyAV P m e y)∧x=.slice none xs∧xs.length * P.bytesOf e≤140737488351232:=by
 unfold tyAV at h
 rw [zD ht] at h
 obtain ⟨xs,h1,h2,h3,h4⟩:=h
 exact ⟨xs,h2,h3,h1,h4⟩
theorem zeM {P:Program} {m:Nat} {t:TypeId} {x:AV} (ht:zq P t=true) (h:tyAV P (m+1) t x):∃ b:UInt8,True∧x=za b:=by
 have he:P.underlying t=some (.int .u8):=by
  unfold zq at ht
  split at ht
  ·assumption
  ·cases ht
 unfold tyAV at h
 rw [he] at h
 obtain ⟨n,rfl,hw⟩:=h
 obtain ⟨b,hb,_⟩:=kB hw
 exact ⟨b,trivial,hb⟩
theorem ja {P:Program} {m:Nat} {t e:TypeId} {x:AV} (ht:zT P t=some e) (he:zq P e=true) (hb:P.bytesOf e=1) (h:tyAV P (m+2) t x):∃ bs:List UInt8,bs.length≤140737488351232∧x=.slice none (bs.map za):=by
 obtain ⟨xs,h1,h2,rfl,h0⟩:=zcy ht h
 obtain ⟨bs,_,h3,h4⟩:=xF fun y hy=>zeM he (h2 y hy)
 rw [hb] at h0
 exact ⟨bs,by omega,by rw [h3]⟩
theorem zdn {P:Program} {m n size:Nat} {t e:TypeId} {x:AV} (ht:w7 P t=some (n,e,size)) (he:zq P e=true) (h:tyAV P (m+2) t x):∃ bs:List UInt8,bs.length=n∧x=.agg (bs.map za):=by
 unfold tyAV at h
 rw [wP (vH ht).1] at h
 obtain ⟨xs,rfl,h1,h2⟩:=h
 obtain ⟨bs,_,h3,h4⟩:=xF fun y hy=>zeM he (h2 y hy)
 exact ⟨bs,by omega,by rw [h3]⟩
theorem jb {P:Program} {α:Type} {R:α→Prop} {f:α→AV} {m:Nat} {t e:TypeId} {x:AV} (ht:zT P t=some e) (he:∀ y,tyAV P m e y→∃ d,R d∧y=f d) (h:tyAV P (m+1) t x):∃ l:List α,(l.length≤9223372036854775807∧∀ d∈l,R d)∧x=.slice none (l.map f):=by
 obtain ⟨xs,h1,h2,rfl⟩:=zdM ht h
 obtain ⟨l,h3,h4,h5⟩:=xF fun y hy=>he y (h2 y hy)
 exact ⟨l,⟨by omega,h3⟩,by rw [h4]⟩
theorem xY {P:Program} {m:Nat} {t:TypeId} {fs:Array Field} {x:AV} (ht:P.underlying t=some (.struct fs)) (h:tyAV P (m+1) t x):∃ xs,x=.agg xs∧xs.length=fs.size∧∀ (i:Nat) (f:Field) (y:AV),fs[i]?=some f→xs[i]?=some y→tyAV P m f.type y:=by
 unfold tyAV at h
 rw [ht] at h
 exact h
theorem zcR {P:Program} {m size:Nat} {t e:TypeId} {x:AV} (ht:w7 P t=some (32,e,size)) (he:zq P e=true) (h:tyAV P (m+2) t x):∃ a:Tg,True∧x=zd a:=by
 obtain ⟨bs,h1,rfl⟩:=zdn ht he h
 exact ⟨⟨bs,h1⟩,trivial,rfl⟩
end Go.Ab
namespace Go.Proofs.YtglmjglbobhbbaaGreatDoor
open _root_.Go.Proofs.Tryz
open Go.Ab
@[go_sem] theorem sl57:zT prog 57=some 25:=by kernel_rfl
@[go_sem] theorem si57:zH prog 57=some (25,2,48,(.agg [.nils,.nils])):=by kernel_rfl
@[go_sem] theorem zt57:zK prog 57=some .nils:=by kernel_rfl
@[go_sem] theorem tq57:zx prog 57=some (false,1)∧zq prog 57=false∧Program.concrete prog 57=true∧zM prog 57=false∧zz prog 57=1:=by and_intros <;> kernel_rfl
attribute [local irreducible] Go.Ab.tyAV Go.Ab.aw Go.Ab.aops Go.Ab.kReg Go.Ab.aThen Go.Ab.aBlk Go.Ab.acond Go.Ab.aguard Go.Ab.astep Go.Ab.AStepX Go.Ab.aRet
set_option maxHeartbeats 4000000 in
theorem kg (a b:List Ca) (ha:∀ c∈a,wY c) (hb:∀ c∈b,wY c) (hal:a.length≤100000) (hbl:b.length≤100000) (k:Nat):
  ACall prog 51 [.slice none (a.map z8),.slice none (b.map z8)] k [] (.lit (.bool (decide (a=b)))) []:=by
 by_cases hl:a.length=b.length
 ·refine Bd func51 ntmps51 fun σ N hp hpn hk hkn hfree=>?_
  refine Wk ?_
  refine ze zi (by kernel_rfl) (4::5::6::7::13::14::15::16::17::18::19::20::21::22::23::24::25::26::27::28::29::30::31::32::33::34::35::36::37::38::39::40::41::42::43::44::45::46::47::48::49::50::51::52::53::54::55::56::57::58::59::60::61::[]) [] (fun m_ s_ σ_ n_=>∃ (u:Nat),m_=a.length - u∧s_ 5=.lit (.int .i64 u)∧(u≤a.length)∧(a.take u=b.take u)) ⟨_,0,rfl,WF,WC,WC⟩ ?_
  intro m_1 s_1 σ_1 n_1 hs_1 hf_1 hn_1 hI_1
  obtain ⟨u,hm_1,h1_5,hu,heq⟩:=hI_1
  have h1_0:=KS hs_1 0
  have h1_1:=KS hs_1 1
  have hlow:=KL (N:=N) (σ:=σ) hf_1
  by_cases hul:u=a.length
  ·have:a=b:=by
    rw [hul,List.take_length,hl,List.take_length] at heq;exact heq
   rw [decide_eq_true this]
   subst hul
   clear heq this
   exact W0
  ·have hui:u < a.length:=by omega
   have hub:u < b.length:=by omega
   obtain ⟨x,hx⟩:∃ x,a[u]=x:=⟨_,rfl⟩
   obtain ⟨y,hy⟩:∃ y,b[u]=y:=⟨_,rfl⟩
   obtain ⟨x1,x2⟩:=ha x (by rw [← hx];exact List.getElem_mem hui)
   obtain ⟨y1,y2⟩:=hb y (by rw [← hy];exact List.getElem_mem hub)
   have hne:¬ x=y→a≠b:=fun hxy e=>hxy (by subst e;rw [← hx,← hy])
   have heq2:x=y→a.take (u+1)=b.take (u+1):=fun hxy=>by
    rw [List.take_add_one,List.take_add_one,List.getElem?_eq_getElem hui,List.getElem?_eq_getElem hub,hx,hy,heq,hxy]
   have c1:=vG x.ticket y.ticket oo
   have c2:=vG x.box y.box oo
   clear heq ha hb
   by_cases h1:x.third=y.third
   rotate_left
   ·rw [decide_eq_false (hne (fun e=>h1 (by rw [e])))]
    have f1:(x.third == y.third)=false:=by simp [h1]
    clear c1 c2 hne heq2
    exact W0
   by_cases h2:x.first=y.first
   rotate_left
   ·rw [decide_eq_false (hne (fun e=>h2 (by rw [e])))]
    have f1:(x.third == y.third)=true:=by simp [h1]
    have f2:decide (x.first=y.first)=false:=decide_eq_false h2
    clear c1 c2 hne heq2
    exact W0
   by_cases h3:x.party=y.party
   rotate_left
   ·rw [decide_eq_false (hne (fun e=>h3 (by rw [e])))]
    have f1:(x.third == y.third)=true:=by simp [h1]
    have f2:decide (x.first=y.first)=true:=decide_eq_true h2
    have f3:(x.party != y.party)=true:=by simp [h3]
    clear c1 c2 hne heq2
    exact W0
   have f1:(x.third == y.third)=true:=by simp [h1]
   have f2:decide (x.first=y.first)=true:=decide_eq_true h2
   have f3:(x.party != y.party)=false:=by simp [h3]
   by_cases h4:x.ticket=y.ticket
   rotate_left
   ·rw [decide_eq_false h4] at c1
    rw [decide_eq_false (hne (fun e=>h4 (by rw [e])))]
    have hcs:=And.intro c1 True.intro
    clear c1 c2 hne heq2
    exact W0
   rw [decide_eq_true h4] at c1
   by_cases h5:x.box=y.box
   rotate_left
   ·rw [decide_eq_false h5] at c2
    rw [decide_eq_false (hne (fun e=>h5 (by rw [e])))]
    have hcs:=And.intro c1 (And.intro c2 True.intro)
    clear c1 c2 hne heq2
    exact W0
   rw [decide_eq_true h5] at c2
   have hxy:x=y:=by
    obtain ⟨p1,p2,p3,p4,p5⟩:=x
    obtain ⟨q1,q2,q3,q4,q5⟩:=y
    simp only at h1 h2 h3 h4 h5
    rw [h1,h2,h3,h4,h5]
   have heq3:=heq2 hxy
   have hcs:=And.intro c1 (And.intro c2 True.intro)
   clear c1 c2 hne heq2 hxy
   refine Wk ?_
   exact ⟨WS,WG,WN,_,(show a.length - (u+1) < m_1 by omega),u+1,rfl,WF,WC,WC⟩
 ·have hne:a≠b:=fun e=>hl (by rw [e])
  have hlb:((a.length:Int) != (b.length:Int))=true:=by simp;omega
  rw [decide_eq_false hne]
  refine Bd func51 ntmps51 fun σ N hp hpn hk hkn hfree=>?_
  exact W0
attribute [local irreducible] yE
theorem qP (a:Alg) (e:Nat) (h:e≠0) (d r1 r2 k:Nat):
  ACall prog 101 [.ptr d [] 0] k (vA a e d r1 r2) (.tup [zA wZ,.lit (.int .i64 (e:Nat))]) []:=by
 obtain ⟨fr,sd,fs,L,B⟩:=a
 unfold vA zcM zbN
 simp only [zZ]
 have h1:decide ((e:Int)=0)=false:=decide_eq_false oo
 have h2:((e:Int) != 0)=true:=by simp;omega
 refine Bd (hpre:=by simp [zP,zO]) func101 ntmps101 fun σ N hp hpn hk hkn hfree=>?_
 simp only [List.mem_cons,List.not_mem_nil,or_false,forall_eq_or_imp,forall_eq] at hp hpn;obtain ⟨hd1,hd2,hd3⟩:=hp;obtain ⟨hdn1,hdn2,hdn3⟩:=hpn
 refine Wk ?_
 refine vn (by simp (disch:=omega) [go_sem, *,-List.reduceReplicate];rfl) (by exact AV.sub_tup (.cons (AV.sub_agg (by repeat' first | exact ALe.nil | exact AV.le_refl _ | apply ALe.cons | ((first | apply AV.le_slices | apply AV.le_nilsE | apply AV.le_clipE);first | rfl | (simp (disch:=omega) [go_sem, *,-List.reduceReplicate];done)))) (by repeat' first | exact ALe.nil | exact AV.le_refl _ | apply ALe.cons | ((first | apply AV.le_slices | apply AV.le_nilsE | apply AV.le_clipE);first | rfl | (simp (disch:=omega) [go_sem, *,-List.reduceReplicate];done))))) (by simp (disch:=omega) [go_sem];try rfl) (fun id hid=>by simp (disch:=omega) only [zg];try exact hlow id hid)
theorem kw (b:List UInt8) (hb:b.length≤140737488351232) (k:Nat):ACall prog 60 [.slice none (b.map za),.slice none (b.map za)] k [] (.lit (.bool true)) []:=by
 have:=vG b b hb k
 rw [decide_eq_true rfl] at this
 exact this
theorem zat (p:Pa) (hp:p.cavs.length≤100000) (hc:∀ c∈p.cavs,wY c) (k:Nat):
  ACall prog 117 [zG p,zG p] k [] (.lit (.bool true)) []:=by
 have c1:=kg p.cavs p.cavs hc hc hp hp
 rw [decide_eq_true rfl] at c1
 obtain ⟨ep,se,L,tg⟩:=p
 unfold zG
 simp only at c1 ⊢
 refine Bd func117 ntmps117 fun σ N hp hpn hk hkn hfree=>?_
 have hcs:=And.intro c1 True.intro
 clear c1
 exact W0
end Go.Proofs.YtglmjglbobhbbaaGreatDoor
namespace Go.Proofs.YtglmjglbobhbbaaGreatDoor
open _root_.Go.Proofs.Tryz
open Go.Ab
attribute [local irreducible] Go.Ab.tyAV Go.Ab.aw Go.Ab.aops Go.Ab.kReg Go.Ab.aThen Go.Ab.aBlk Go.Ab.acond Go.Ab.aguard Go.Ab.astep Go.Ab.AStepX Go.Ab.aRet
theorem qH (l:List Pr) (hl:l.length * 56≤140737488351232) (k:Nat):
  ACall prog 168 [.slice none (l.map zU),.slice none (l.map zU)] k [] (.lit (.bool true)) []:=by
 refine Bd func168 ntmps168 fun σ N hp hpn hk hkn hfree=>?_
 refine Wk ?_
 refine ze zi (by kernel_rfl) [4,5,11,12,13,14,15,16,17,18,19,20,21,22,23,24,25] [] (fun m_ s_ σ_ n_=>∃ (u:Nat),m_=l.length - u∧s_ 5=.lit (.int .i64 u)∧(u≤l.length)) ⟨_,0,rfl,WF,WC⟩ ?_
 intro m_1 s_1 σ_1 n_1 hs_1 hf_1 hn_1 hI_1
 obtain ⟨u,hm_1,h1_5,hu⟩:=hI_1
 have h1_0:=KS hs_1 0
 have h1_1:=KS hs_1 1
 have hlow:=KL (N:=N) (σ:=σ) hf_1
 by_cases hul:u=l.length
 ·subst hul
  exact W0
 ·have hui:u < l.length:=by omega
  obtain ⟨c,hc⟩:∃ c,l[u]=c:=⟨_,rfl⟩
  refine Wk ?_
  exact ⟨WS,WG,WN,_,(show l.length - (u+1) < m_1 by omega),u+1,rfl,WF,WC⟩
theorem ziG (p:Di) (hp:WdT p.ticket p.conds) (k:Nat):
  ACall prog 118 [zw p,zw p] k [] (.lit (.bool true)) []:=by
 obtain ⟨tk,cs,tg⟩:=p
 have c1:=kw tk hp.1
 have c2:=qH cs hp.2
 clear hp
 simp only [zw]
 refine Bd func118 ntmps118 fun σ N hp hpn hk hkn hfree=>?_
 have hcs:=And.intro c1 (And.intro c2 True.intro)
 clear c1 c2
 exact W0
def xy {α:Type} (l:List α) (x:α):List α:=if l.length < 64 then l++[x] else (l++[x]).drop 1
theorem wE {α:Type} {l:List α} {x y:α} (h:y∈xy l x):y∈l∨y=x:=by
 unfold xy at h
 have:y∈l++[x]:=by
  split at h
  ·exact h
  ·exact List.mem_of_mem_drop h
 rcases List.mem_append.1 this with h | h
 ·exact Or.inl h
 ·exact Or.inr (List.mem_singleton.1 h)
theorem xu {α:Type} (l:List α) (x:α):(xy l x).length≤l.length+1:=by
 unfold xy
 split <;> simp
theorem KnC.see {q:Kn} (h:KnC q) {b:Bu} (hb:BuC b) (hl:q.bs.length < 100000):KnC ⟨q.ps,q.ds,xy q.bs b,q.its⟩:=⟨h.pl,h.pc,h.dl,h.dc,by have:=xu q.bs b;simp only;omega,fun x hx=>by
  rcases wE hx with hx | hx
  ·exact h.bc x hx
  ·rw [hx];exact hb,h.il,h.ic⟩
theorem KnC.watch {q:Kn} (h:KnC q) {b:It} (hb:b.box.length≤140737488351232) (hl:q.its.length < 100000):KnC ⟨q.ps,q.ds,q.bs,xy q.its b⟩:=⟨h.pl,h.pc,h.dl,h.dc,h.bl,h.bc,by have:=xu q.its b;simp only;omega,fun x hx=>by
  rcases wE hx with hx | hx
  ·exact h.ic x hx
  ·rw [hx];exact hb⟩
attribute [local irreducible] yE
theorem KnC.learn {q:Kn} (h:KnC q) {p:Pa} (hp:PaC p) {L:List Di} (hL:∀ d∈L,WdT d.ticket d.conds) (h1:q.ps.length < 100000) (h2:q.ds.length+L.length≤100000):KnC ⟨q.ps++[p],q.ds++L,q.bs,q.its⟩:=
 ⟨by simp only [List.length_append,List.length_singleton];omega,fun x hx=>by
  rcases List.mem_append.1 hx with hx | hx
  ·exact h.pc x hx
  ·rw [List.mem_singleton.1 hx];exact hp,by simp only [List.length_append];omega,fun x hx=>by
  rcases List.mem_append.1 hx with hx | hx
  ·exact h.dc x hx
  ·exact hL x hx,h.bl,h.bc,h.il,h.ic⟩
def v7 (q:Kn) (p:Pa) (L:List Di):Kn × Nat:=if q.ps.length < 32∧q.ds.length+L.length≤32 then (⟨q.ps++[p],q.ds++L,q.bs,q.its⟩,0) else (⟨[],[],[],[]⟩,2)
end Go.Proofs.YtglmjglbobhbbaaGreatDoor
namespace Go.Proofs.YtglmjglbobhbbaaGreatDoor
open _root_.Go.Proofs.Tryz
open Go.Ab
attribute [local irreducible] Go.Ab.tyAV Go.Ab.aw Go.Ab.aops Go.Ab.kReg Go.Ab.aThen Go.Ab.aBlk Go.Ab.acond Go.Ab.aguard Go.Ab.astep Go.Ab.AStepX Go.Ab.aRet
structure Wa where
 ps:List Pa
 ds:List Di
def yp (w:Wa):AV:=.agg [.slice none (w.ps.map zG),.slice none (w.ds.map zw)]
@[go_sem] theorem zoQ (k:Wa):(yp k).sz=2:=by simp only [yp,AV.sz,AV.szl]
@[go_sem] theorem zhT (k:Wa):(yp k).isAgg=true:=rfl
@[go_sem] theorem zj9 (k:Wa):(yp k).cell=true:=by simp only [yp,AV.cell,AV.celll,Bool.and_self]
@[go_sem] theorem zmb (f:Nat→Option Nat) (k:Wa):(yp k).ren f=yp k:=by simp only [yp,AV.ren,AV.renl,Option.bind_none,zgY,ze0]
def fdI {α:Type} (q:α→Bool):List α→Nat→Option Nat
 | [],_=>none
 | x::r,u=>if q x=true then some u else fdI q r (u+1)
theorem zcJ {α:Type} {q:α→Bool}:∀ {l:List α} {u i:Nat},fdI q l u=some i→u≤i∧i < u+l.length∧l.eraseP q=l.eraseIdx (i - u)
 | [],u,i,h=>by cases h
 | x::r,u,i,h=>by
  rw [fdI] at h
  by_cases hq:q x=true
  ·rw [if_pos hq] at h
   cases h
   refine ⟨Nat.le_refl _,by simp only [List.length_cons];omega,?_⟩
   rw [List.eraseP_cons_of_pos hq,Nat.sub_self,List.eraseIdx_cons_zero]
  ·rw [if_neg hq] at h
   obtain ⟨h1,h2,h3⟩:=zcJ h
   refine ⟨by omega,by simp only [List.length_cons];omega,?_⟩
   rw [List.eraseP_cons_of_neg hq,h3,show i - u=(i - (u+1))+1 by omega,List.eraseIdx_cons_succ]
theorem zcI {α:Type} {q:α→Bool}:∀ {l:List α} {u:Nat},fdI q l u=none→l.eraseP q=l∧l.any q=false
 | [],u,h=>⟨rfl,rfl⟩
 | x::r,u,h=>by
  rw [fdI] at h
  by_cases hq:q x=true
  ·rw [if_pos hq] at h;cases h
  ·rw [if_neg hq] at h
   obtain ⟨h1,h2⟩:=zcI h
   rw [List.eraseP_cons_of_neg hq,h1]
   refine ⟨rfl,?_⟩
   rw [List.any_cons,h2]
   simpa using hq
theorem zci {α:Type} {q:α→Bool}:∀ {l:List α} {u:Nat},(fdI q l u).isSome=l.any q
 | [],u=>rfl
 | x::r,u=>by
  rw [fdI,List.any_cons]
  by_cases hq:q x=true
  ·rw [if_pos hq,hq];rfl
  ·rw [if_neg hq,zci (l:=r)]
   simp only [Bool.not_eq_true] at hq
   rw [hq];rfl
def kx:Option Nat→AV
 | none=>.tup [.lit (.int .i64 0),.lit (.bool false)]
 | some i=>.tup [.lit (.int .i64 i),.lit (.bool true)]
theorem zaO (d:Di) (k:Nat):ACall prog 119 [.iface 34 (zw d)] k [] (.tup [.slice none (d.ticket.map za),.lit (.bool true)]) []:=by
 obtain ⟨ti,L,tg⟩:=d
 have hdA:zw ⟨ti,L,tg⟩=.agg [.slice none (ti.map za),.slice none (L.map zU),zd tg]:=rfl
 have hs:=zbt ⟨ti,L,tg⟩
 have hc:=zbd ⟨ti,L,tg⟩
 rw [hdA] at hs hc ⊢
 refine Bd func119 ntmps119 fun σ N hp hpn hk hkn hfree=>?_
 exact W0
theorem kq (d:Ca) (k:Nat):ACall prog 119 [.iface 140 (z8 d)] k [] (.tup [.slice none (d.ticket.map za),.lit (.bool d.third)]) []:=by
 obtain ⟨th,fi,pa,ti,bx⟩:=d
 have hdA:z8 ⟨th,fi,pa,ti,bx⟩=.agg [.lit (.bool th),zU fi,.lit (.int .i64 pa),.slice none (ti.map za),.slice none (bx.map za)]:=rfl
 have hs:=zlj ⟨th,fi,pa,ti,bx⟩
 have hc:=zgi ⟨th,fi,pa,ti,bx⟩
 rw [hdA] at hs hc ⊢
 refine Bd func119 ntmps119 fun σ N hp hpn hk hkn hfree=>?_
 exact W0
def isT (t:List UInt8) (d:Di):Bool:=decide (d.ticket=t)
def isC (t:List UInt8) (c:Ca):Bool:=c.third && decide (c.ticket=t)
theorem za1 (l:List Ca) (hl:l.length≤1000000) (hc:∀ x∈l,wY x) (t:List UInt8) (ht:t.length≤140737488351232) (k:Nat):
  ACall prog 62 [.slice none (l.map z8),.slice none (t.map za)] k [] (kx (fdI (isC t) l 0)) []:=by
 obtain ⟨R,hR⟩:∃ R,fdI (isC t) l 0=R:=⟨_,rfl⟩
 rw [hR]
 have hdr:l.drop 0=l:=rfl
 refine Bd func62 ntmps62 fun σ N hp hpn hk hkn hfree=>?_
 refine Wk ?_
 refine ze zi (by kernel_rfl) [4,5,6,7,8,9,12,13,14,15,16,17,18,19,20,21,22,23,24,25,26,27,28,29,30] [] (fun m_ s_ σ_ n_=>∃ (u:Nat),m_=l.length - u∧s_ 12=.lit (.int .i64 u)∧(u≤l.length)∧(fdI (isC t) (l.drop u) u=R)) ⟨_,0,rfl,WF,WC,WC⟩ ?_
 intro m_2 s_2 σ_2 n_2 hs_2 hf_2 hn_2 hI_2
 obtain ⟨u,hm_2,h2_12,hu,hno⟩:=hI_2
 have h2_1:=KS hs_2 1
 have h2_10:=KS hs_2 10
 have h2_11:=KS hs_2 11
 have hlow:=KL (N:=N) (σ:=σ) hf_2
 clear hR hdr
 by_cases hul:u=l.length
 ·subst hul
  rw [List.drop_length,fdI] at hno
  subst hno
  unfold kx
  clear hc
  exact W0
 ·have hu1:u < l.length:=by omega
  rw [List.drop_eq_getElem_cons hu1,fdI] at hno
  have hzt:=(hc _ (List.getElem_mem hu1)).1
  obtain ⟨z,hz⟩:∃ z,l[u]=z:=⟨_,rfl⟩
  rw [hz] at hno hzt
  have hzm:(l.map z8)[u]?=some (z8 z):=by rw [List.getElem?_map,List.getElem?_eq_getElem hu1,hz];rfl
  have c1:=kq z
  have c2:=xB z.ticket t hzt ht
  unfold isC at hno
  cases h3:z.third with
  | false=>
   rw [h3,Bool.false_and,if_neg (by simp)] at hno
   rw [h3] at c1
   clear hc c2
   have hcs:=And.intro c1 True.intro
   clear c1
   refine Wk ?_
   clear hcs
   exact ⟨WS,WG,WN,_,(show l.length - (u+1) < m_2 by omega),u+1,rfl,WF,WC,WC⟩
  | true=>
   rw [h3,Bool.true_and] at hno
   rw [h3] at c1
   by_cases hq:z.ticket=t
   ·rw [decide_eq_true hq] at hno c2
    rw [if_pos rfl] at hno
    subst hno
    unfold kx
    clear hc hq
    have hcs:=And.intro c1 (And.intro c2 True.intro)
    clear c1 c2
    exact W0
   ·rw [decide_eq_false hq] at hno c2
    rw [if_neg (by simp)] at hno
    clear hc hq
    have hcs:=And.intro c1 (And.intro c2 True.intro)
    clear c1 c2
    refine Wk ?_
    clear hcs
    exact ⟨WS,WG,WN,_,(show l.length - (u+1) < m_2 by omega),u+1,rfl,WF,WC,WC⟩
@[go_sem] theorem zft (l:List Di):(l.map zw).all (fun x=>x.cell)=true:=by
 rw [List.all_eq_true];intro x hx;obtain ⟨b,_,rfl⟩:=List.mem_map.1 hx;exact zbd b
@[go_sem] theorem zse:zDiAV.sz=34:=by unfold zDiAV;simp [AV.sz,AV.szl,zB]
@[go_sem] theorem zmc:zDiAV.cell=true:=by unfold zDiAV;simp [AV.cell,AV.celll,zj]
set_option maxHeartbeats 1000000 in
theorem ku (l:List Di) (hl:l.length≤100000) (hc:∀ x∈l,WdT x.ticket x.conds) (k:Nat):
  ACall prog 59 [.slice none (l.map zw)] k [] (.ms k 1 34 0 l.length) [(k,.mrow 1 34 34 (l.map zw))]:=by
 have c0:=zbG l hl
 refine Bd func59 ntmps59 fun σ N hp hpn hk hkn hfree=>?_
 have hcs:=And.intro c0 True.intro
 clear c0
 refine Wk ?_
 clear hcs
 refine ze zi (by kernel_rfl) [4,9,10,11,12,13,14,15,16,17,18,19,20,21,22,23,24,25,26,27,28,29,30,31,32] [N+2] (fun m_ s_ σ_ n_=>∃ (u:Nat),m_=l.length - u∧s_ 9=.lit (.int .i64 u)∧s_ 3=.ms (N+2) 1 34 0 l.length∧σ_ (N+2)=.mrow 1 34 34 (l.map zw)∧(u≤l.length)) ⟨_,0,rfl,WF,WF,WF,WC⟩ ?_
 intro m_1 s_1 σ_1 n_1 hs_1 hf_1 hn_1 hI_1
 obtain ⟨u,hm_1,h1_9,h1_3,e1_0,hu⟩:=hI_1
 have h1_2:=KS hs_1 2
 have h1_3:=KS hs_1 3
 have h1_8:=KS hs_1 8
 have hlow:=KL (N:=N) (σ:=σ) hf_1
 by_cases hul:u=l.length
 ·subst hul
  clear hc
  refine Wk ?_
  refine zQ (r0:=N+2) (E':=.mrow 1 34 34 (l.map zw)) (by simp (disch:=omega) [go_sem, *,-List.reduceReplicate];rfl) oo (by simp (disch:=omega) [go_sem];try rfl) (fun id hid=>by simp (disch:=omega) only;try exact hlow id hid) (by simp (disch:=omega) only;assumption) (by simp (disch:=omega) [go_sem])
 ·have hu1:u < l.length:=by omega
  have hmz:=hc _ (List.getElem_mem hu1)
  obtain ⟨z,hz⟩:∃ z,l[u]=z:=⟨_,rfl⟩
  rw [hz] at hmz
  have hset:(l.map zw).set u (zw z)=l.map zw:=by
   rw [← hz,← List.getElem_map (f:=zw) (h:=by rw [List.length_map];exact hu1)]
   exact List.set_getElem_self _
  have hzm:(l.map zw)[u]?=some (zw z):=by rw [List.getElem?_map,List.getElem?_eq_getElem hu1,hz];rfl
  have hsz:AV.szl ((l.map zw).take u)=u * 34:=by
   rw [← List.map_take,AV.szl_uniform _ 34 (fun x hx=>by obtain ⟨c,_,rfl⟩:=List.mem_map.1 hx;exact zbt c),List.length_map,List.length_take,Nat.min_eq_left oo]
  have ho0:(AV.agg (l.map zw)).offs [u,0]=u * 34+0:=by simp only [AV.offs,hzm,hsz];rfl
  have hp0:(zw z).put [0] (.slice none (z.ticket.map za))=zw z:=rfl
  have k0:=yC z.ticket hmz.1
  have ho1:(AV.agg (l.map zw)).offs [u,1]=u * 34+1:=by simp only [AV.offs,hzm,hsz];rfl
  have hp1:(zw z).put [1] (.slice none (z.conds.map zU))=zw z:=rfl
  have k1:=qO z.conds hmz.2
  have hcs:=And.intro k0 (And.intro k1 (True.intro))
  clear k0 k1 hc hmz
  refine Wk ?_
  exact ⟨WS,WG,WN,_,(show l.length - (u+1) < m_1 by omega),u+1,rfl,WF,WF,WF,WC⟩
theorem zc8 {l:List Di} {i:Nat}:l.take i++(l.drop (i+1))=l.eraseIdx i:=(List.eraseIdx_eq_take_drop_succ l i).symm
theorem zao (l:List Di) (i:Nat) (hi:i < l.length) (hl:l.length≤100000) (d k:Nat):
  ACall prog 58 [.ms d 1 34 0 l.length,.lit (.int .i64 i),.lit (.int .i64 (i+1))] k [(d,.mrow 1 34 34 (l.map zw))] (.ms d 1 34 0 (l.length - 1)) [(d,.mrow 1 34 34 ((l.eraseIdx i).map zw++[zDiAV]))]:=by
 obtain ⟨L,hL⟩:∃ L,l.length=L:=⟨_,rfl⟩
 have hiL:i+1≤L:=by omega
 have hlen:(l.eraseIdx i).length=L - 1:=by rw [List.length_eraseIdx_of_lt hi];omega
 have ht1:((i:Int)+1).toNat=i+1:=by omega
 have ht2:(0:Int)≤(i:Int)+1:=by omega
 have hkm:i+(L - (i+1))=L - 1:=by omega
 have hne:((i:Int) == (i:Int)+1)=false:=by rw [beq_eq_false_iff_ne];omega
 have hL1:((L - 1:Nat):Int).toNat=L - 1:=by omega
 have hL2:L - (L - 1)=1:=by omega
 have hL3:L - 1+1=L:=by omega
 have h1:i+1+(L - (i+1))=L:=by omega
 have h2:((l.map zw).drop (i+1)).take (L - (i+1))=(l.map zw).drop (i+1):=List.take_of_length_le (by simp;omega)
 have e1:(l.map zw).take i++((l.map zw).drop (i+1)++(l.map zw).drop (L - 1))=(l.eraseIdx i).map zw++(l.map zw).drop (L - 1):=by
  rw [← List.append_assoc,← List.map_take,← List.map_drop (i:=i+1),← List.map_append,zc8]
 obtain ⟨M,hM⟩:∃ M,(l.map zw).take i++((l.map zw).drop (i+1)++(l.map zw).drop (L - 1))=M:=⟨_,rfl⟩
 have m1:M.take (L - 1)=(l.eraseIdx i).map zw:=by rw [← hM,e1,List.take_left' (by simp [hlen])]
 have m2:M.length=L:=by rw [← hM,e1];simp [hlen];omega
 have m3:M.drop L=[]:=by rw [List.drop_eq_nil_iff];omega
 have hz0:AV.agg [.nils,.nils,zd zeroTag]=zDiAV:=rfl
 clear e1
 rw [hL]
 refine Bd func58 ntmps58 fun σ N hp hpn hk hkn hfree=>?_
 obtain ⟨hd,hdn⟩:=HD0 hp hpn;clear hp hpn
 refine Wk ?_
 exact RW (d) (.mrow 1 34 34 ((l.eraseIdx i).map zw++[zDiAV]))
theorem kT (l:List Di) (hl:l.length≤1000000) (hc:∀ x∈l,x.ticket.length≤140737488351232) (t:List UInt8) (ht:t.length≤140737488351232) (d k:Nat):
  ACall prog 57 [.ms d 1 34 0 l.length,.slice none (t.map za)] k [(d,.mrow 1 34 34 (l.map zw))] (kx (fdI (isT t) l 0)) []:=by
 obtain ⟨R,hR⟩:∃ R,fdI (isT t) l 0=R:=⟨_,rfl⟩
 rw [hR]
 have hdr:l.drop 0=l:=rfl
 refine Bd func57 ntmps57 fun σ N hp hpn hk hkn hfree=>?_
 obtain ⟨hd,hdn⟩:=HD0 hp hpn;clear hp hpn
 refine Wk ?_
 refine ze zi (by kernel_rfl) [4,5,6,7,8,9,12,13,14,15,16,17,18,19,20,21,22,23,24,25,26,27,28,29,30] [] (fun m_ s_ σ_ n_=>∃ (u:Nat),m_=l.length - u∧s_ 12=.lit (.int .i64 u)∧(u≤l.length)∧(fdI (isT t) (l.drop u) u=R)) ⟨_,0,rfl,WF,WC,WC⟩ ?_
 intro m_2 s_2 σ_2 n_2 hs_2 hf_2 hn_2 hI_2
 obtain ⟨u,hm_2,h2_12,hu,hno⟩:=hI_2
 have h2_1:=KS hs_2 1
 have h2_10:=KS hs_2 10
 have h2_11:=KS hs_2 11
 have k2_0:=KE hf_2 (d)
 have hlow:=KL (N:=N) (σ:=σ) hf_2
 clear hR hdr
 by_cases hul:u=l.length
 ·subst hul
  rw [List.drop_length,fdI] at hno
  subst hno
  unfold kx
  clear hc
  exact W0
 ·have hu1:u < l.length:=by omega
  rw [List.drop_eq_getElem_cons hu1,fdI] at hno
  have hzt:=hc _ (List.getElem_mem hu1)
  obtain ⟨z,hz⟩:∃ z,l[u]=z:=⟨_,rfl⟩
  rw [hz] at hno hzt
  have hzm:(l.map zw)[u]?=some (zw z):=by rw [List.getElem?_map,List.getElem?_eq_getElem hu1,hz];rfl
  have hsz:AV.szl ((l.map zw).take u)=u * 34:=by
   rw [← List.map_take,AV.szl_uniform _ 34 (fun x hx=>by obtain ⟨c,_,rfl⟩:=List.mem_map.1 hx;exact zbt c),List.length_map,List.length_take,Nat.min_eq_left oo]
  have ho:(AV.agg (l.map zw)).offs [u]=u * 34:=by simp only [AV.offs,hzm,hsz];rfl
  have c1:=zaO z
  have c2:=xB z.ticket t hzt ht
  unfold isT at hno
  by_cases hq:z.ticket=t
  ·rw [decide_eq_true hq] at hno c2
   rw [if_pos rfl] at hno
   subst hno
   unfold kx
   clear hc hq
   have hcs:=And.intro c1 (And.intro c2 True.intro)
   clear c1 c2
   exact W0
  ·rw [decide_eq_false hq] at hno c2
   rw [if_neg (by simp)] at hno
   clear hc hq
   have hcs:=And.intro c1 (And.intro c2 True.intro)
   clear c1 c2
   refine Wk ?_
   clear hcs
   exact ⟨WS,WG,WN,_,(show l.length - (u+1) < m_2 by omega),u+1,rfl,WF,WC,WC⟩
structure WaC (w:Wa):Prop where
 pl:w.ps.length≤100000
 pc:∀ p∈w.ps,PaC p
 dl:w.ds.length≤100000
 dc:∀ d∈w.ds,WdT d.ticket d.conds
theorem za8 (w:Wa) (h:WaC w) (k:Nat):ACall prog 53 [yp w] k [] (yp w) []:=by
 have c1:=qR w.ps h.pl h.pc
 have c2:=yx w.ds h.dl h.dc
 clear h
 obtain ⟨P,D⟩:=w
 unfold yp
 simp only at *
 refine Bd func53 ntmps53 fun σ N hp hpn hk hkn hfree=>?_
 have hcs:=And.intro c1 (And.intro c2 True.intro)
 clear c1 c2
 exact W0
theorem qe (w:Wa) (h:WaC w) (k:Nat):ACall prog 53 [yp w] k [] (.agg [.slice none (w.ps.map zG),.ms k 1 34 0 w.ds.length]) [(k,.mrow 1 34 34 (w.ds.map zw))]:=by
 have c1:=qR w.ps h.pl h.pc
 have c2:=ku w.ds h.dl h.dc
 clear h
 obtain ⟨P,D⟩:=w
 unfold yp
 simp only at *
 refine Bd func53 ntmps53 fun σ N hp hpn hk hkn hfree=>?_
 have hcs:=And.intro c1 (And.intro c2 True.intro)
 clear c1 c2
 refine Wk ?_
 refine zQ (r0:=N+2+5) (E':=.mrow 1 34 34 (D.map zw)) (by simp (disch:=omega) [go_sem, *,-List.reduceReplicate];rfl) oo (by simp (disch:=omega) [go_sem];try rfl) (fun id hid=>by simp (disch:=omega) only [zg,zF,yi];try exact hlow id hid) (by simp (disch:=omega) [go_sem, *,-List.reduceReplicate]) (by simp (disch:=omega) [go_sem])
def w0:Wa:=⟨[],[]⟩
def wW (w:Wa) (p:Pa):Wa × Nat:=if w.ps.length < 32 then (⟨w.ps++[p],w.ds⟩,0) else (w0,2)
theorem ziD (w:Wa) (h:WaC w) (p:Pa) (hp:PaC p) (hl:w.ps.length < 32) (k:Nat):ACall prog 14 [yp w,zG p] k [] (.tup [yp ⟨w.ps++[p],w.ds⟩,.lit (.int .i64 0)]) []:=by
 have c1:=zaR w.ps oo
 have c2:=za8 ⟨w.ps++[p],w.ds⟩ ⟨by simp only [List.length_append,List.length_singleton];omega,fun x hx=>by
  rcases List.mem_append.1 hx with hx | hx
  ·exact h.pc x hx
  ·rw [List.mem_singleton.1 hx];exact hp,h.dl,h.dc⟩
 clear h hp
 obtain ⟨P,D⟩:=w
 unfold yp at *
 simp only at *
 have hp1:¬ (32:Int)≤(P.length:Int):=by omega
 have hb26:(P.length+1) * 72≤140737488355328:=by omega
 have hmm:P.map zG++[zG p]=(P++[p]).map zG:=by simp
 generalize P++[p]=P2 at *
 refine Bd func14 ntmps14 fun σ N hp hpn hk hkn hfree=>?_
 have hcs:=And.intro c1 (And.intro c2 True.intro)
 clear c1 c2
 refine Wk ?_
 exact WD
theorem zf7 (w:Wa) (p:Pa) (hl:32≤w.ps.length) (k:Nat):ACall prog 14 [yp w,zG p] k [] (.tup [.agg [.nils,.nils],.lit (.int .i64 2)]) []:=by
 obtain ⟨P,D⟩:=w
 unfold yp at *
 simp only at *
 have hp1:(32:Int)≤(P.length:Int):=by omega
 refine Bd func14 ntmps14 fun σ N hp hpn hk hkn hfree=>?_
 exact W0
theorem zdY:AV.le (.agg [.nils,.nils]) (yp w0):=AV.sub_agg (.cons AV.le_nils0 (.cons AV.le_nils0 .nil))
theorem qc (w:Wa) (h:WaC w) (p:Pa) (hp:PaC p) (k:Nat):ACall prog 14 [yp w,zG p] k [] (.tup [yp (wW w p).1,.lit (.int .i64 (wW w p).2)]) []:=by
 unfold wW
 by_cases hc:w.ps.length < 32
 ·rw [if_pos hc];exact ziD w h p hp hc k
 ·rw [if_neg hc]
  exact (zf7 w p oo k).result (AV.sub_tup (.cons zdY (.cons (AV.le_refl _) .nil)))
def wL (w:Wa) (d:Di):Wa × Nat:=if (w.ds.eraseP (isT d.ticket)).length < 32 then (⟨w.ps,w.ds.eraseP (isT d.ticket)++[d]⟩,0) else (w0,2)
set_option maxHeartbeats 4000000 in
theorem zd1 (w:Wa) (h:WaC w) (d:Di) (hd:WdT d.ticket d.conds) (hf:fdI (isT d.ticket) w.ds 0=none) (k:Nat):
  ACall prog 17 [yp w,zw d] k [] (.tup [yp (wL w d).1,.lit (.int .i64 (wL w d).2)]) []:=by
 have he:=(zcI hf).1
 unfold wL
 rw [he]
 have c1:=qe w h
 have c2:=fun a=>kT w.ds (by have:=h.dl;omega) (fun x hx=>(h.dc x hx).1) d.ticket hd.1 a
 have c3:=yx [d] (by simp) (fun x hx=>by rw [List.mem_singleton.1 hx];exact hd)
 rw [hf] at c2
 have hdl:=h.dl
 clear h hd hf he
 obtain ⟨P,D⟩:=w
 obtain ⟨ti,L,tg⟩:=d
 have hdA:zw ⟨ti,L,tg⟩=.agg [.slice none (ti.map za),.slice none (L.map zU),zd tg]:=rfl
 unfold yp kx at *
 simp only [List.map_cons,List.map_nil] at *
 have hmm:D.map zw++[zw ⟨ti,L,tg⟩]=(D++[(⟨ti,L,tg⟩:Di)]).map zw:=by simp
 have htk:(D.map zw).take D.length=D.map zw:=List.take_of_length_le (by simp)
 have hll:(D++[(⟨ti,L,tg⟩:Di)]).length=D.length+1:=by simp
 have hb80:(D.length+1) * 80≤140737488355328:=by omega
 generalize hD2:D++[(⟨ti,L,tg⟩:Di)]=D2 at *
 clear hD2
 rw [hdA] at c3 hmm ⊢
 clear hdA
 by_cases h32:D.length < 32
 ·rw [if_pos h32]
  have h32i:¬ (32:Int) < (D.length:Int)+1:=by omega
  simp only
  refine Bd func17 ntmps17 fun σ N hp hpn hk hkn hfree=>?_
  have hcs:=And.intro c1 (And.intro (c2 (N+4+1)) (And.intro c3 True.intro))
  clear c1 c2 c3
  refine Wm ?_
  iterate 6 refine Wz ?_
  refine yM (N+4+2) [1] (r:=N+4+1) (ver:=2) (size:=34) (e:=34) (xs:=D2.map zw) (k:=D.length+1) (by simp (disch:=omega) [go_sem, *,-List.reduceReplicate];try exact ⟨rfl,rfl⟩) (by simp (disch:=omega) [go_sem, *,-List.reduceReplicate]) (by simp (disch:=omega) [go_sem, *,-List.reduceReplicate]) (by simp [hll]) ?_
  refine Wk ?_
  exact WD
 ·rw [if_neg h32]
  have h32i:(32:Int) < (D.length:Int)+1:=by omega
  refine ACall.result (r:=.tup [.agg [.nils,.nils],.lit (.int .i64 2)]) ?_ (AV.sub_tup (.cons zdY (.cons (AV.le_refl _) .nil)))
  refine Bd func17 ntmps17 fun σ N hp hpn hk hkn hfree=>?_
  have hcs:=And.intro c1 (And.intro (c2 (N+4+1)) (And.intro c3 True.intro))
  clear c1 c2 c3
  exact W0
set_option maxHeartbeats 4000000 in
theorem zd2 (w:Wa) (h:WaC w) (d:Di) (hd:WdT d.ticket d.conds) (i:Nat) (hf:fdI (isT d.ticket) w.ds 0=some i) (k:Nat):
  ACall prog 17 [yp w,zw d] k [] (.tup [yp (wL w d).1,.lit (.int .i64 (wL w d).2)]) []:=by
 obtain ⟨_,hi,he⟩:=zcJ hf
 unfold wL
 rw [he]
 simp only [Nat.sub_zero,Nat.zero_add] at hi ⊢
 have c1:=qe w h
 have c2:=fun a=>kT w.ds (by have:=h.dl;omega) (fun x hx=>(h.dc x hx).1) d.ticket hd.1 a
 have c3:=yx [d] (by simp) (fun x hx=>by rw [List.mem_singleton.1 hx];exact hd)
 have c4:=fun a=>zao w.ds i hi h.dl a
 rw [hf] at c2
 have hdl:=h.dl
 have hel:(w.ds.eraseIdx i).length=w.ds.length - 1:=List.length_eraseIdx_of_lt hi
 clear h hd hf he
 obtain ⟨P,D⟩:=w
 obtain ⟨ti,L,tg⟩:=d
 have hdA:zw ⟨ti,L,tg⟩=.agg [.slice none (ti.map za),.slice none (L.map zU),zd tg]:=rfl
 unfold yp kx at *
 simp only [List.map_cons,List.map_nil] at *
 generalize D.eraseIdx i=E at *
 have hmm:E.map zw++[zw ⟨ti,L,tg⟩]=(E++[(⟨ti,L,tg⟩:Di)]).map zw:=by simp
 have htk:(E.map zw++[zDiAV]).take (D.length - 1)=E.map zw:=List.take_left' (by simp [hel])
 have hll:(E++[(⟨ti,L,tg⟩:Di)]).length=D.length - 1+1:=by simp [hel]
 have hb80:(D.length - 1+1) * 80≤140737488355328:=by omega
 have hb80':D.length * 80≤140737488355328:=by omega
 have hcast:((D.length - 1:Nat):Int)+1=(D.length:Int):=by omega
 have hcn:D.length - 1+1=D.length:=by omega
 generalize hD2:E++[(⟨ti,L,tg⟩:Di)]=D2 at *
 clear hD2
 rw [hdA] at c3 hmm ⊢
 clear hdA
 by_cases h32:E.length < 32
 ·rw [if_pos h32]
  have h32i:¬ (32:Int) < (D.length:Int):=by omega
  simp only
  refine Bd func17 ntmps17 fun σ N hp hpn hk hkn hfree=>?_
  have hcs:=And.intro c1 (And.intro (c2 (N+4+1)) (And.intro (c4 (N+4+1)) (And.intro c3 True.intro)))
  clear c1 c2 c3 c4
  refine Wm ?_
  iterate 7 refine Wz ?_
  refine yM (N+4+2) [1] (r:=N+4+1) (ver:=2) (size:=34) (e:=34) (xs:=D2.map zw) (k:=D.length) (by simp (disch:=omega) [go_sem, *,-List.reduceReplicate];try exact ⟨rfl,rfl⟩) (by simp (disch:=omega) [go_sem, *,-List.reduceReplicate]) (by simp (disch:=omega) [go_sem, *,-List.reduceReplicate]) (by simp [hll];omega) ?_
  refine Wk ?_
  exact WD
 ·rw [if_neg h32]
  have h32i:(32:Int) < (D.length:Int):=by omega
  refine ACall.result (r:=.tup [.agg [.nils,.nils],.lit (.int .i64 2)]) ?_ (AV.sub_tup (.cons zdY (.cons (AV.le_refl _) .nil)))
  refine Bd func17 ntmps17 fun σ N hp hpn hk hkn hfree=>?_
  have hcs:=And.intro c1 (And.intro (c2 (N+4+1)) (And.intro (c4 (N+4+1)) (And.intro c3 True.intro)))
  clear c1 c2 c3 c4
  exact W0
theorem zbV (w:Wa) (h:WaC w) (d:Di) (hd:WdT d.ticket d.conds) (k:Nat):
  ACall prog 17 [yp w,zw d] k [] (.tup [yp (wL w d).1,.lit (.int .i64 (wL w d).2)]) []:=by
 rcases hf:fdI (isT d.ticket) w.ds 0 with _ | i
 ·exact zd1 w h d hd hf k
 ·exact zd2 w h d hd i hf k
def yf (w:Wa) (i:Int):Pa × Bool:=if 0≤i∧i < (w.ps.length:Int) then ((w.ps[i.toNat]?).getD pa0,true) else (pa0,false)
theorem vE {w:Wa} {i:Int}:(yf w i).1=pa0∨(yf w i).1∈w.ps:=by
 unfold yf
 split
 ·rename_i h
  have hi:i.toNat < w.ps.length:=by omega
  rw [List.getElem?_eq_getElem hi,Option.getD_some]
  exact Or.inr (List.getElem_mem _)
 ·exact Or.inl rfl
theorem zfX:PaC pa0:=⟨by simp [pa0],fun c hc=>by simp [pa0] at hc⟩
theorem wA {w:Wa} (h:∀ p∈w.ps,PaC p) (i:Int):PaC (yf w i).1:=by
 rcases vE (w:=w) (i:=i) with h1 | h1
 ·rw [h1];exact zfX
 ·exact h _ h1
theorem vF (w:Wa) (hw:w.ps.length≤1000000) (i:Int) (k:Nat):ACall prog 61 [yp w,.lit (.int .i64 i)] k [] (.tup [zG (yf w i).1,.lit (.bool (yf w i).2)]) []:=by
 obtain ⟨P,D⟩:=w
 unfold yf
 simp only at *
 have h0A:zG pa0=.agg [.lit (.int .i64 0),.lit (.int .i64 0),.slice none [],zd zeroTag]:=rfl
 have hle:AV.le (.tup [.agg [.lit (.int .i64 0),.lit (.int .i64 0),.nils,zd zeroTag],.lit (.bool false)]) (.tup [zG pa0,.lit (.bool false)]):=by
  rw [h0A]
  exact AV.sub_tup (.cons (AV.sub_agg (.cons (AV.le_refl _) (.cons (AV.le_refl _) (.cons AV.le_nils0 (.cons (AV.le_refl _) .nil))))) (.cons (AV.le_refl _) .nil))
 by_cases h1:i < 0
 ·rw [if_neg oo]
  refine ACall.result ?_ hle
  clear hle h0A
  unfold yp
  simp only
  refine Bd func61 ntmps61 fun σ N hp hpn hk hkn hfree=>?_
  exact W0
 ·by_cases h2:(P.length:Int)≤i
  ·rw [if_neg oo]
   refine ACall.result ?_ hle
   clear hle h0A
   unfold yp
   simp only
   refine Bd func61 ntmps61 fun σ N hp hpn hk hkn hfree=>?_
   exact W0
  ·rw [if_pos oo]
   clear hle h0A
   obtain ⟨n,rfl⟩:=Int.eq_ofNat_of_zero_le (show 0≤i by omega)
   have hn:n < P.length:=by omega
   rw [Int.toNat_natCast,List.getElem?_eq_getElem hn,Option.getD_some]
   obtain ⟨z,hz⟩:∃ z,P[n]=z:=⟨_,rfl⟩
   have hzm:(P.map zG)[n]?=some (zG z):=by rw [List.getElem?_map,List.getElem?_eq_getElem hn,hz];rfl
   rw [hz]
   unfold yp
   simp only
   refine Bd func61 ntmps61 fun σ N hp hpn hk hkn hfree=>?_
   exact W0
theorem qb (w:Wa) (hw:w.ps.length≤1000000) (i:Int) (k:Nat):ACall prog 63 [yp w,.lit (.int .i64 i)] k [] (.tup [zG (yf w i).1,.lit (.bool (yf w i).2)]) []:=by
 obtain ⟨P,D⟩:=w
 unfold yf
 simp only at *
 have h0A:zG pa0=.agg [.lit (.int .i64 0),.lit (.int .i64 0),.slice none [],zd zeroTag]:=rfl
 have hle:AV.le (.tup [.agg [.lit (.int .i64 0),.lit (.int .i64 0),.nils,zd zeroTag],.lit (.bool false)]) (.tup [zG pa0,.lit (.bool false)]):=by
  rw [h0A]
  exact AV.sub_tup (.cons (AV.sub_agg (.cons (AV.le_refl _) (.cons (AV.le_refl _) (.cons AV.le_nils0 (.cons (AV.le_refl _) .nil))))) (.cons (AV.le_refl _) .nil))
 by_cases h1:i < 0
 ·rw [if_neg oo]
  refine ACall.result ?_ hle
  clear hle h0A
  unfold yp
  simp only
  refine Bd func63 ntmps63 fun σ N hp hpn hk hkn hfree=>?_
  exact W0
 ·by_cases h2:(P.length:Int)≤i
  ·rw [if_neg oo]
   refine ACall.result ?_ hle
   clear hle h0A
   unfold yp
   simp only
   refine Bd func63 ntmps63 fun σ N hp hpn hk hkn hfree=>?_
   exact W0
  ·rw [if_pos oo]
   clear hle h0A
   obtain ⟨n,rfl⟩:=Int.eq_ofNat_of_zero_le (show 0≤i by omega)
   have hn:n < P.length:=by omega
   rw [Int.toNat_natCast,List.getElem?_eq_getElem hn,Option.getD_some]
   obtain ⟨z,hz⟩:∃ z,P[n]=z:=⟨_,rfl⟩
   have hzm:(P.map zG)[n]?=some (zG z):=by rw [List.getElem?_map,List.getElem?_eq_getElem hn,hz];rfl
   rw [hz]
   unfold yp
   simp only
   refine Bd func63 ntmps63 fun σ N hp hpn hk hkn hfree=>?_
   exact W0
theorem zaP (p:Pa) (hp:PaC p) (t:List UInt8) (_ht:t.length≤140737488351232) (k:Nat):
  ACall prog 64 [zG p,.slice none (t.map za)] k [] (.lit (.bool (p.cavs.any (isC t)))) []:=by
 obtain ⟨hpl,hpc⟩:=hp
 obtain ⟨ep,se,l,tg⟩:=p
 unfold zG
 simp only at *
 obtain ⟨R,hR⟩:∃ R,(l.drop 0).any (isC t)=R:=⟨_,rfl⟩
 rw [show l.any (isC t)=R from hR]
 refine Bd func64 ntmps64 fun σ N hp hpn hk hkn hfree=>?_
 refine Wk ?_
 refine ze zi (by kernel_rfl) [4,5,6,7,8,9,10,11,12,13,14,15,16,17,18,19,20,21,22,23,24,25,26,27,28] [] (fun m_ s_ σ_ n_=>∃ (u:Nat),m_=l.length - u∧s_ 5=.lit (.int .i64 u)∧(u≤l.length)∧((l.drop u).any (isC t)=R)) ⟨_,0,rfl,WF,WC,WC⟩ ?_
 intro m_1 s_1 σ_1 n_1 hs_1 hf_1 hn_1 hI_1
 obtain ⟨u,hm_1,h1_5,hu,hno⟩:=hI_1
 have h1_1:=KS hs_1 1
 have h1_2:=KS hs_1 2
 have k1_0:=KE hf_1 (N)
 have hlow:=KL (N:=N) (σ:=σ) hf_1
 clear hR
 by_cases hul:u=l.length
 ·subst hul
  rw [List.drop_length,List.any_nil] at hno
  subst hno
  clear hpc
  exact W0
 ·have hu1:u < l.length:=by omega
  rw [List.drop_eq_getElem_cons hu1,List.any_cons] at hno
  have hzt:=(hpc _ (List.getElem_mem hu1)).1
  obtain ⟨z,hz⟩:∃ z,l[u]=z:=⟨_,rfl⟩
  rw [hz] at hno hzt
  have hzm:(l.map z8)[u]?=some (.agg [.lit (.bool z.third),zU z.first,.lit (.int .i64 z.party),.slice none (z.ticket.map za),.slice none (z.box.map za)]):=by rw [List.getElem?_map,List.getElem?_eq_getElem hu1,hz];rfl
  have c2:=vG z.ticket t hzt
  unfold isC at hno
  cases h3:z.third with
  | false=>
   rw [h3,Bool.false_and,Bool.false_or] at hno
   rw [h3] at hzm
   clear hpc c2
   refine Wk ?_
   exact ⟨WS,WG,WN,_,(show l.length - (u+1) < m_1 by omega),u+1,rfl,WF,WC,WC⟩
  | true=>
   rw [h3,Bool.true_and] at hno
   rw [h3] at hzm
   by_cases hq:z.ticket=t
   ·rw [decide_eq_true hq] at hno c2
    rw [Bool.true_or] at hno
    subst hno
    clear hpc hq
    have hcs:=And.intro c2 True.intro
    clear c2
    exact W0
   ·rw [decide_eq_false hq] at hno c2
    rw [Bool.false_or] at hno
    clear hpc hq
    have hcs:=And.intro c2 True.intro
    clear c2
    refine Wk ?_
    clear hcs
    exact ⟨WS,WG,WN,_,(show l.length - (u+1) < m_1 by omega),u+1,rfl,WF,WC,WC⟩
def jc (p:Pa) (D:List Di):List Di:=D.filter fun d=>p.cavs.any (isC d.ticket)
def zbr (w:Wa) (i:Int):List Di:=jc (yf w i).1 w.ds
theorem zdj {w:Wa} (h:∀ d∈w.ds,WdT d.ticket d.conds) (i:Int):∀ d∈zbr w i,WdT d.ticket d.conds:=fun d hd=>h d (List.mem_filter.1 hd).1
theorem kK {w:Wa} (i:Int):(zbr w i).length≤w.ds.length:=List.length_filter_le ..
theorem zgN (D:List Di):jc pa0 D=[]:=by
 unfold jc pa0
 simp
set_option maxHeartbeats 4000000 in
theorem we (w:Wa) (h:WaC w) (i:Int) (k:Nat):ACall prog 19 [yp w,.lit (.int .i64 i)] k [] (.slice none ((zbr w i).map zw)) []:=by
 have c1:=vF w (by have:=h.pl;omega) i
 have hpz:=wA h.pc i
 have c3:=yx (zbr w i) (by have:=kK (w:=w) i;have:=h.dl;omega) (zdj h.dc i)
 unfold zbr at *
 generalize yf w i=X at *
 obtain ⟨p,b⟩:=X
 have hdl:=h.dl
 have hdc:=h.dc
 clear h
 simp only at *
 have c2:=fun (d:Di) (hd:WdT d.ticket d.conds)=>za1 p.cavs (by have:=hpz.1;omega) hpz.2 d.ticket hd.1
 clear hpz
 have hpA:zG p=.agg [.lit (.int .i64 p.epoch),.lit (.int .i64 p.serial),.slice none (p.cavs.map z8),zd p.tag]:=rfl
 obtain ⟨P,D⟩:=w
 unfold yp at *
 simp only at *
 rw [hpA] at c1
 clear hpA
 obtain ⟨M,hM⟩:∃ M,jc p (D.drop 0)=M:=⟨_,rfl⟩
 rw [show jc p D=M from hM] at c3 ⊢
 refine Bd func19 ntmps19 fun σ N hp hpn hk hkn hfree=>?_
 have hcs:=And.intro c1 True.intro
 clear c1
 refine Wk ?_
 clear hcs
 refine ALoop.nilrow 7 34 34 (by simp (disch:=omega) [go_sem, *,-List.reduceReplicate]) ?_
 refine yn (N) zi (by kernel_rfl) [7,9,10,11,21,22,23,24,25,26,27,28,29,30,31,32,33,34,35,36,37,38] [] (fun m_ s_ σ_ n_=>∃ (u:Nat) (r:Nat) (acc:List Di),m_=D.length - u∧s_ 21=.lit (.int .i64 u)∧s_ 7=.slice (some r) (acc.map zw)∧σ_ (N)=.box 25 (.agg [.slice none (P.map zG),.slice none (D.map zw)])∧σ_ (N+2+6)=.box 30 (.agg [.lit (.int .i64 p.epoch),.lit (.int .i64 p.serial),.slice none (p.cavs.map z8),zd p.tag])∧σ_ (r)=.row 34 34 acc.length∧(N+16≤r)∧(r < n_)∧(u≤D.length)∧(acc.length≤u)∧(acc++jc p (D.drop u)=M)) ⟨_,0,_,[],rfl,WF,WF,WF,WF,WF,WC,WC,WC,WC,WC⟩ ?_
 intro m_2 s_2 σ_2 n_2 hs_2 hf_2 hn_2 hI_2
 obtain ⟨u,r,acc,hm_2,h2_21,h2_7,e2_0,e2_1,e2_2,hNr,hrn,hu,hal,hacc⟩:=hI_2
 have h2_4:=KS hs_2 4
 have h2_5:=KS hs_2 5
 have h2_19:=KS hs_2 19
 have h2_20:=KS hs_2 20
 have hlow:=KL (N:=N) (σ:=σ) hf_2
 clear hM
 by_cases hul:u=D.length
 ·subst hul
  rw [List.drop_length] at hacc
  simp only [jc,List.filter_nil,List.append_nil] at hacc
  subst hacc
  clear hdc c2
  have hcs:=And.intro c3 True.intro
  clear c3
  exact WM
 ·have hu1:u < D.length:=by omega
  have hzd:=hdc _ (List.getElem_mem hu1)
  rw [List.drop_eq_getElem_cons hu1] at hacc
  obtain ⟨z,hz⟩:∃ z,D[u]=z:=⟨_,rfl⟩
  rw [hz] at hacc hzd
  have c4:=c2 z hzd
  have hzA:zw z=.agg [.slice none (z.ticket.map za),.slice none (z.conds.map zU),zd z.tag]:=rfl
  have hzm:(D.map zw)[u]?=some (.agg [.slice none (z.ticket.map za),.slice none (z.conds.map zU),zd z.tag]):=by rw [List.getElem?_map,List.getElem?_eq_getElem hu1,hz];rfl
  have ha:=zci (q:=isC z.ticket) (l:=p.cavs) (u:=0)
  have hb80:(acc.length+1) * 80≤140737488355328:=by omega
  unfold jc at hacc
  rw [List.filter_cons] at hacc
  rcases hf:fdI (isC z.ticket) p.cavs 0 with _ | ix
  ·rw [hf] at ha c4
   simp only [Option.isSome_none] at ha
   rw [← ha] at hacc
   simp only [Bool.false_eq_true,if_false] at hacc
   unfold kx at c4
   clear hdc c2 c3 hzd hf ha
   have hcs:=And.intro c4 True.intro
   clear c4
   refine Wk ?_
   clear hcs
   exact ⟨WS,WG,WN,_,(show D.length - (u+1) < m_2 by omega),u+1,r,acc,rfl,WF,WF,WF,WF,WF,WC,WC,WC,WC,WC⟩
  ·rw [hf] at ha c4
   simp only [Option.isSome_some] at ha
   rw [← ha] at hacc
   simp only [if_true] at hacc
   have hacc2:acc++[z]++List.filter (fun d=>p.cavs.any (isC d.ticket)) (D.drop (u+1))=M:=by rw [← hacc];simp
   have hmm:acc.map zw++[zw z]=(acc++[z]).map zw:=by simp
   have hll:(acc++[z]).length=acc.length+1:=by simp
   generalize hac:acc++[z]=acc2 at *
   rw [hzA] at hmm
   unfold kx at c4
   clear hdc c2 c3 hzd hf ha hacc
   have hcs:=And.intro c4 True.intro
   clear c4
   refine Wk ?_
   clear hcs
   exact ⟨WS,WG,WN,_,(show D.length - (u+1) < m_2 by omega),u+1,r,acc2,rfl,WF,WF,WF,WF,WF,WC,WC,WC,WC,WC⟩
set_option maxHeartbeats 4000000 in
theorem kD (w:Wa) (h:WaC w) (i:Int) (k:Nat):ACall prog 20 [yp w,.lit (.int .i64 i)] k [] (.slice none ((zbr w i).map zw)) []:=by
 have c1:=qb w (by have:=h.pl;omega) i
 have hpz:=wA h.pc i
 have hp0:(yf w i).2=false→(yf w i).1=pa0:=by
  unfold yf
  split
  ·intro h;cases h
  ·intro _;rfl
 unfold zbr at *
 generalize yf w i=X at *
 obtain ⟨p,b⟩:=X
 have hdl:=h.dl
 have hdc:=h.dc
 clear h
 simp only at *
 have c2:=fun (d:Di) (hd:WdT d.ticket d.conds)=>zaP p hpz d.ticket hd.1
 clear hpz
 obtain ⟨P,D⟩:=w
 unfold yp at *
 simp only at *
 obtain ⟨M,hM⟩:∃ M,jc p (D.drop 0)=M:=⟨_,rfl⟩
 rw [show jc p D=M from hM]
 cases b with
 | false=>
  rw [hp0 rfl,zgN] at hM
  subst hM
  clear c2 hp0 hdc
  refine Bd func20 ntmps20 fun σ N hp hpn hk hkn hfree=>?_
  have hcs:=And.intro c1 True.intro
  clear c1
  refine Wk ?_
  clear hcs
  refine ze zi (by kernel_rfl) [7,8,15,16,17,18,19,20,21,22,23,24,25,26,27,28,29,30,31,32,33,34,35,36,37,38,39,40] [] (fun m_ s_ σ_ n_=>∃ (u:Nat),m_=0 - u∧s_ 8=.lit (.int .i64 u)∧s_ 7=.nils∧(u≤0)) ⟨_,0,rfl,WF,WF,WC⟩ ?_
  intro m_3 s_3 σ_3 n_3 hs_3 hf_3 hn_3 hI_3
  obtain ⟨u,hm_3,h3_8,h3_7,hu⟩:=hI_3
  have h3_2:=KS hs_3 2
  have h3_4:=KS hs_3 4
  have h3_5:=KS hs_3 5
  have h3_6:=KS hs_3 6
  have k3_0:=KE hf_3 (N)
  have k3_1:=KE hf_3 (N+2+6)
  have hlow:=KL (N:=N) (σ:=σ) hf_3
  obtain rfl:u=0:=by omega
  by_cases hD:D.length=0
  ·have hD1:¬ (0:Int) < (D.length:Int):=by omega
   exact WM
  ·have hD1:(0:Int) < (D.length:Int):=by omega
   exact WM
 | true=>
  clear hp0
  refine Bd func20 ntmps20 fun σ N hp hpn hk hkn hfree=>?_
  have hcs:=And.intro c1 True.intro
  clear c1
  refine Wk ?_
  clear hcs
  refine ALoop.nilrow 7 34 34 (by simp (disch:=omega) [go_sem, *,-List.reduceReplicate]) ?_
  refine yn (N) zi (by kernel_rfl) [7,8,15,16,17,18,19,20,21,22,23,24,25,26,27,28,29,30,31,32,33,34,35,36,37,38,39,40] [] (fun m_ s_ σ_ n_=>∃ (u:Nat) (r:Nat) (acc:List Di),m_=D.length - u∧s_ 8=.lit (.int .i64 u)∧s_ 7=.slice (some r) (acc.map zw)∧σ_ (N)=.box 25 (.agg [.slice none (P.map zG),.slice none (D.map zw)])∧σ_ (N+2+6)=.box 30 (zG p)∧σ_ (r)=.row 34 34 acc.length∧(N+13≤r)∧(r < n_)∧(u≤D.length)∧(acc.length≤u)∧(acc++jc p (D.drop u)=M)) ⟨_,0,_,[],rfl,WF,WF,WF,WF,WF,WC,WC,WC,WC,WC⟩ ?_
  intro m_4 s_4 σ_4 n_4 hs_4 hf_4 hn_4 hI_4
  obtain ⟨u,r,acc,hm_4,h4_8,h4_7,e4_0,e4_1,e4_2,hNr,hrn,hu,hal,hacc⟩:=hI_4
  have h4_2:=KS hs_4 2
  have h4_4:=KS hs_4 4
  have h4_5:=KS hs_4 5
  have h4_6:=KS hs_4 6
  have hlow:=KL (N:=N) (σ:=σ) hf_4
  clear hM
  by_cases hul:u=D.length
  ·subst hul
   rw [List.drop_length] at hacc
   simp only [jc,List.filter_nil,List.append_nil] at hacc
   subst hacc
   clear hdc c2
   exact WM
  ·have hu1:u < D.length:=by omega
   have hzd:=hdc _ (List.getElem_mem hu1)
   rw [List.drop_eq_getElem_cons hu1] at hacc
   obtain ⟨z,hz⟩:∃ z,D[u]=z:=⟨_,rfl⟩
   rw [hz] at hacc hzd
   have c4:=c2 z hzd
   have hzA:zw z=.agg [.slice none (z.ticket.map za),.slice none (z.conds.map zU),zd z.tag]:=rfl
   have hzm:(D.map zw)[u]?=some (.agg [.slice none (z.ticket.map za),.slice none (z.conds.map zU),zd z.tag]):=by rw [List.getElem?_map,List.getElem?_eq_getElem hu1,hz];rfl
   have hb80:(acc.length+1) * 80≤140737488355328:=by omega
   unfold jc at hacc
   rw [List.filter_cons] at hacc
   cases ha:p.cavs.any (isC z.ticket) with
   | false=>
    rw [ha] at c4 hacc
    simp only [Bool.false_eq_true,if_false] at hacc
    clear hdc c2 hzd ha
    have hcs:=And.intro c4 True.intro
    clear c4
    refine Wk ?_
    clear hcs
    exact ⟨WS,WG,WN,_,(show D.length - (u+1) < m_4 by omega),u+1,r,acc,rfl,WF,WF,WF,WF,WF,WC,WC,WC,WC,WC⟩
   | true=>
    rw [ha] at c4 hacc
    simp only [if_true] at hacc
    have hacc2:acc++[z]++List.filter (fun d=>p.cavs.any (isC d.ticket)) (D.drop (u+1))=M:=by rw [← hacc];simp
    have hmm:acc.map zw++[zw z]=(acc++[z]).map zw:=by simp
    have hll:(acc++[z]).length=acc.length+1:=by simp
    generalize hac:acc++[z]=acc2 at *
    rw [hzA] at hmm
    clear hdc c2 hzd ha hacc
    have hcs:=And.intro c4 True.intro
    clear c4
    refine Wk ?_
    clear hcs
    exact ⟨WS,WG,WN,_,(show D.length - (u+1) < m_4 by omega),u+1,r,acc2,rfl,WF,WF,WF,WF,WF,WC,WC,WC,WC,WC⟩
theorem zgT (w:Wa) (p:Pa) (hl:w.ps.length < 32) (k:Nat):ACall prog 15 [yp w,zG p] k [] (.tup [yp ⟨w.ps++[p],w.ds⟩,.lit (.int .i64 0)]) []:=by
 obtain ⟨P,D⟩:=w
 unfold yp at *
 simp only at *
 have hp1:¬ (32:Int)≤(P.length:Int):=by omega
 have hb26:(P.length+1) * 72≤140737488355328:=by omega
 have hb27:P.length * 72≤140737488355328:=by omega
 have hmm:P.map zG++[zG p]=(P++[p]).map zG:=by simp
 have hll:(P++[p]).length=P.length+1:=by simp
 generalize P++[p]=P2 at *
 refine Bd func15 ntmps15 fun σ N hp hpn hk hkn hfree=>?_
 refine Wk ?_
 exact WD
theorem zeB (w:Wa) (p:Pa) (hl:32≤w.ps.length) (k:Nat):ACall prog 15 [yp w,zG p] k [] (.tup [.agg [.nils,.nils],.lit (.int .i64 2)]) []:=by
 obtain ⟨P,D⟩:=w
 unfold yp at *
 simp only at *
 have hp1:(32:Int)≤(P.length:Int):=by omega
 refine Bd func15 ntmps15 fun σ N hp hpn hk hkn hfree=>?_
 exact W0
theorem zah (w:Wa) (p:Pa) (k:Nat):ACall prog 15 [yp w,zG p] k [] (.tup [yp (wW w p).1,.lit (.int .i64 (wW w p).2)]) []:=by
 unfold wW
 by_cases hc:w.ps.length < 32
 ·rw [if_pos hc];exact zgT w p hc k
 ·rw [if_neg hc]
  exact (zeB w p oo k).result (AV.sub_tup (.cons zdY (.cons (AV.le_refl _) .nil)))
def zmW (b:Bool) (t:List UInt8) (l:List Di):List Di:=if b=true then l else l.eraseP (isT t)
set_option maxHeartbeats 4000000 in
theorem zjL (w:Wa) (h:WaC w) (d:Di) (hd:WdT d.ticket d.conds) (k:Nat):
  ACall prog 18 [yp w,zw d] k [] (.tup [yp (wL w d).1,.lit (.int .i64 (wL w d).2)]) []:=by
 have hdl:=h.dl
 have hdc:=h.dc
 clear h
 have hd1:=hd.1
 clear hd
 unfold wL
 obtain ⟨P,D⟩:=w
 obtain ⟨ti,L,tg⟩:=d
 simp only at *
 have hdA:zw ⟨ti,L,tg⟩=.agg [.slice none (ti.map za),.slice none (L.map zU),zd tg]:=rfl
 have hwA:∀ X,yp ⟨P,X⟩=.agg [.slice none (P.map zG),.slice none (X.map zw)]:=fun _=>rfl
 rw [hwA]
 obtain ⟨M,hM⟩:∃ M,zmW false ti (D.drop 0)=M:=⟨_,rfl⟩
 rw [show D.eraseP (isT ti)=M from hM]
 have hMl:M.length≤100000:=by rw [← hM];exact Nat.le_trans (List.length_eraseP_le) (by simpa using hdl)
 obtain ⟨D2,hD2⟩:∃ D2,M++[(⟨ti,L,tg⟩:Di)]=D2:=⟨_,rfl⟩
 have hmm:M.map zw++[zw ⟨ti,L,tg⟩]=D2.map zw:=by rw [← hD2];simp
 rw [hD2]
 rw [hdA] at hmm ⊢
 obtain ⟨Q,E,hQE,hcase⟩:∃ (Q:Wa) (E:Nat),(if M.length < 32 then ((⟨P,D2⟩:Wa),0) else (w0,2))=(Q,E)∧((M.length < 32∧Q=⟨P,D2⟩∧E=0)∨(¬ M.length < 32∧Q=w0∧E=2)):=by
  by_cases h:M.length < 32
  ·exact ⟨⟨P,D2⟩,0,if_pos h,Or.inl ⟨h,rfl,rfl⟩⟩
  ·exact ⟨w0,2,if_neg h,Or.inr ⟨h,rfl,rfl⟩⟩
 rw [hQE]
 clear hQE hdA
 simp only
 refine Bd func18 ntmps18 fun σ N hp hpn hk hkn hfree=>?_
 refine Wk ?_
 refine ALoop.nilrow 6 34 34 (by simp (disch:=omega) [go_sem, *,-List.reduceReplicate]) ?_
 refine yn (N) zi (by kernel_rfl) [6,7,8,9,10,11,12,13,14,15,16,17,18,19,20,21,22,23,24,25,26,27,28,29,30,31,32,33,34,35,36] [] (fun m_ s_ σ_ n_=>∃ (u:Nat) (r:Nat) (b:Bool) (acc:List Di),m_=D.length - u∧s_ 8=.lit (.int .i64 u)∧s_ 7=.lit (.bool b)∧s_ 6=.slice (some r) (acc.map zw)∧σ_ (N)=.box 25 (.agg [.slice none (P.map zG),.slice none (D.map zw)])∧σ_ (N+1)=.box 34 (.agg [.slice none (ti.map za),.slice none (L.map zU),zd tg])∧σ_ (N+2)=.box 25 (.agg [.nils,.nils])∧σ_ (r)=.row 34 34 acc.length∧(N+7≤r)∧(r < n_)∧(u≤D.length)∧(acc.length≤u)∧(acc++zmW b ti (D.drop u)=M)) ⟨_,0,_,false,[],rfl,WF,WF,WF,WF,WF,WF,WF,WC,WC,WC,WC,WC⟩ ?_
 intro m_5 s_5 σ_5 n_5 hs_5 hf_5 hn_5 hI_5
 obtain ⟨u,r,b,acc,hm_5,h5_8,h5_7,h5_6,e5_0,e5_1,e5_2,e5_3,hNr,hrn,hu,hal,hacc⟩:=hI_5
 have h5_2:=KS hs_5 2
 have h5_3:=KS hs_5 3
 have h5_4:=KS hs_5 4
 have h5_5:=KS hs_5 5
 have hlow:=KL (N:=N) (σ:=σ) hf_5
 clear hM
 by_cases hul:u=D.length
 ·subst hul
  have hacc2:acc=M:=by
   rw [List.drop_length] at hacc
   unfold zmW at hacc
   rw [← hacc]
   cases b <;> simp
  subst hacc2
  clear hdc hacc
  have hb80:(acc.length+1) * 80≤140737488355328:=by omega
  rcases hcase with ⟨h1,rfl,rfl⟩ | ⟨h1,rfl,rfl⟩
  ·have h1i:¬ (32:Int)≤(acc.length:Int):=by omega
   rw [hwA]
   clear hwA
   refine Wk ?_
   exact WD
  ·have h1i:(32:Int)≤(acc.length:Int):=by omega
   have hw0:yp w0=.agg [.slice none [],.slice none []]:=rfl
   rw [hw0]
   clear hwA hw0
   refine Wk ?_
   exact WD
 ·have hu1:u < D.length:=by omega
  have hzd:=(hdc _ (List.getElem_mem hu1)).1
  rw [List.drop_eq_getElem_cons hu1] at hacc
  obtain ⟨z,hz⟩:∃ z,D[u]=z:=⟨_,rfl⟩
  rw [hz] at hacc hzd
  have c4:=vG z.ticket ti hzd
  have hzA:zw z=.agg [.slice none (z.ticket.map za),.slice none (z.conds.map zU),zd z.tag]:=rfl
  have hzm:(D.map zw)[u]?=some (.agg [.slice none (z.ticket.map za),.slice none (z.conds.map zU),zd z.tag]):=by rw [List.getElem?_map,List.getElem?_eq_getElem hu1,hz];rfl
  have hb80:(acc.length+1) * 80≤140737488355328:=by omega
  have hmz:acc.map zw++[zw z]=(acc++[z]).map zw:=by simp
  have hlz:(acc++[z]).length=acc.length+1:=by simp
  have hac:∀ X:List Di,acc++(z::X)=acc++[z]++X:=fun X=>by simp
  rw [hzA] at hmz
  cases b with
  | true=>
   unfold zmW at hacc
   rw [if_pos rfl,hac] at hacc
   generalize acc++[z]=acc2 at *
   clear hdc hzd c4 hwA hcase hac
   have hacc3:acc2++zmW true ti (D.drop (u+1))=M:=hacc
   clear hacc
   refine Wk ?_
   exact ⟨WS,WG,WN,_,(show D.length - (u+1) < m_5 by omega),u+1,r,true,acc2,rfl,WF,WF,WF,WF,WF,WF,WF,WC,WC,WC,WC,WC⟩
  | false=>
   unfold zmW at hacc
   rw [if_neg (by simp)] at hacc
   by_cases hq:z.ticket=ti
   ·rw [List.eraseP_cons_of_pos (by unfold isT;rw [decide_eq_true hq])] at hacc
    rw [decide_eq_true hq] at c4
    have hacc3:acc++zmW true ti (D.drop (u+1))=M:=hacc
    clear hdc hzd hwA hcase hac hacc hmz hlz hq
    have hcs:=And.intro c4 True.intro
    clear c4
    refine Wk ?_
    clear hcs
    exact ⟨WS,WG,WN,_,(show D.length - (u+1) < m_5 by omega),u+1,r,true,acc,rfl,WF,WF,WF,WF,WF,WF,WF,WC,WC,WC,WC,WC⟩
   ·rw [List.eraseP_cons_of_neg (by unfold isT;rw [decide_eq_false hq];simp),hac] at hacc
    rw [decide_eq_false hq] at c4
    generalize acc++[z]=acc2 at *
    have hacc3:acc2++zmW false ti (D.drop (u+1))=M:=hacc
    clear hdc hzd hwA hcase hac hacc hq
    have hcs:=And.intro c4 True.intro
    clear c4
    refine Wk ?_
    clear hcs
    exact ⟨WS,WG,WN,_,(show D.length - (u+1) < m_5 by omega),u+1,r,false,acc2,rfl,WF,WF,WF,WF,WF,WF,WF,WC,WC,WC,WC,WC⟩
theorem kX (l:List Pa) (hl:l.length≤1000000) (hc:∀ x∈l,PaC x) (k:Nat):
  ACall prog 55 [.slice none (l.map zG),.slice none (l.map zG)] k [] (.lit (.bool true)) []:=by
 refine Bd func55 ntmps55 fun σ N hp hpn hk hkn hfree=>?_
 refine Wk ?_
 refine ze zi (by kernel_rfl) [4,5,11,12,13,14,15,16,17,18,19,20,21,22,23,24,25,26] [] (fun m_ s_ σ_ n_=>∃ (u:Nat),m_=l.length - u∧s_ 5=.lit (.int .i64 u)∧(u≤l.length)) ⟨_,0,rfl,WF,WC⟩ ?_
 intro m_1 s_1 σ_1 n_1 hs_1 hf_1 hn_1 hI_1
 obtain ⟨u,hm_1,h1_5,hu⟩:=hI_1
 have h1_0:=KS hs_1 0
 have h1_1:=KS hs_1 1
 have hlow:=KL (N:=N) (σ:=σ) hf_1
 by_cases hul:u=l.length
 ·subst hul
  clear hc
  exact W0
 ·have hu1:u < l.length:=by omega
  have hmz:=hc _ (List.getElem_mem hu1)
  obtain ⟨z,hz⟩:∃ z,l[u]=z:=⟨_,rfl⟩
  rw [hz] at hmz
  have hzm:(l.map zG)[u]?=some (zG z):=by rw [List.getElem?_map,List.getElem?_eq_getElem hu1,hz];rfl
  have c1:=zat z hmz.1 hmz.2
  clear hc hmz
  have hcs:=And.intro c1 True.intro
  clear c1
  refine Wk ?_
  exact ⟨WS,WG,WN,_,(show l.length - (u+1) < m_1 by omega),u+1,rfl,WF,WC⟩
theorem wU (l:List Di) (hl:l.length≤1000000) (hc:∀ x∈l,WdT x.ticket x.conds) (k:Nat):
  ACall prog 56 [.slice none (l.map zw),.slice none (l.map zw)] k [] (.lit (.bool true)) []:=by
 refine Bd func56 ntmps56 fun σ N hp hpn hk hkn hfree=>?_
 refine Wk ?_
 refine ze zi (by kernel_rfl) [4,5,11,12,13,14,15,16,17,18,19,20,21,22,23,24,25,26] [] (fun m_ s_ σ_ n_=>∃ (u:Nat),m_=l.length - u∧s_ 5=.lit (.int .i64 u)∧(u≤l.length)) ⟨_,0,rfl,WF,WC⟩ ?_
 intro m_2 s_2 σ_2 n_2 hs_2 hf_2 hn_2 hI_2
 obtain ⟨u,hm_2,h2_5,hu⟩:=hI_2
 have h2_0:=KS hs_2 0
 have h2_1:=KS hs_2 1
 have hlow:=KL (N:=N) (σ:=σ) hf_2
 by_cases hul:u=l.length
 ·subst hul
  clear hc
  exact W0
 ·have hu1:u < l.length:=by omega
  have hmz:=hc _ (List.getElem_mem hu1)
  obtain ⟨z,hz⟩:∃ z,l[u]=z:=⟨_,rfl⟩
  rw [hz] at hmz
  have hzm:(l.map zw)[u]?=some (zw z):=by rw [List.getElem?_map,List.getElem?_eq_getElem hu1,hz];rfl
  have c1:=ziG z hmz
  clear hc hmz
  have hcs:=And.intro c1 True.intro
  clear c1
  refine Wk ?_
  exact ⟨WS,WG,WN,_,(show l.length - (u+1) < m_2 by omega),u+1,rfl,WF,WC⟩
attribute [local irreducible] yE
theorem zes {w:Wa} (h:WaC w) {d:Di} (hd:WdT d.ticket d.conds):WaC (wL w d).1:=by
 unfold wL
 split
 ·rename_i hc
  refine ⟨h.pl,h.pc,by simp only [List.length_append,List.length_singleton];omega,fun x hx=>?_⟩
  rcases List.mem_append.1 hx with hx | hx
  ·exact h.dc x (List.mem_of_mem_eraseP hx)
  ·rw [List.mem_singleton.1 hx];exact hd
 ·exact ⟨by simp [w0],fun x hx=>by simp [w0] at hx,by simp [w0],fun x hx=>by simp [w0] at hx⟩
theorem zff {w:Wa} (h:WaC w) {p:Pa} (hp:PaC p):WaC (wW w p).1:=by
 unfold wW
 split
 ·refine ⟨by simp only [List.length_append,List.length_singleton];omega,fun x hx=>?_,h.dl,h.dc⟩
  rcases List.mem_append.1 hx with hx | hx
  ·exact h.pc x hx
  ·rw [List.mem_singleton.1 hx];exact hp
 ·exact ⟨by simp [w0],fun x hx=>by simp [w0] at hx,by simp [w0],fun x hx=>by simp [w0] at hx⟩
def qD (X:Wa × Nat):List Di→Wa × Nat
 | []=>X
 | d::r=>if X.2=0 then qD (wL X.1 d) r else X
def zcA (f t:Wa) (i:Int):Wa × Nat:=if (yf f i).2=true then qD (wW t (yf f i).1) (zbr f i) else (w0,12)
theorem zdf {X:Wa × Nat} (h:X.2≠0) (l:List Di):qD X l=X:=by
 cases l with
 | nil=>rfl
 | cons d r=>rw [qD,if_neg h]
theorem zsl {w:Wa} {p:Pa} (h:(wW w p).2≠0):(wW w p).1=w0:=by
 unfold wW at *
 split
 ·rename_i hc;rw [if_pos hc] at h;exact absurd rfl h
 ·rfl
theorem zrn {w:Wa} {p:Di} (h:(wL w p).2≠0):(wL w p).1=w0:=by
 unfold wL at *
 split
 ·rename_i hc;rw [if_pos hc] at h;exact absurd rfl h
 ·rfl
theorem zuC {l:List Di} (hl:∀ d∈l,WdT d.ticket d.conds):∀ {X:Wa × Nat},WaC X.1→WaC (qD X l).1:=by
 induction l with
 | nil=>exact fun h=>h
 | cons d r ih=>
  intro X h
  rw [qD]
  split
  ·exact ih (fun x hx=>hl x (List.mem_cons_of_mem _ hx)) (zes h (hl d (List.mem_cons_self ..)))
  ·exact h
theorem zuw {f t:Wa} (hf:WaC f) (ht:WaC t) (i:Int):WaC (zcA f t i).1:=by
 unfold zcA
 split
 ·exact zuC (zdj hf.dc i) (zff ht (wA hf.pc i))
 ·exact ⟨by simp [w0],fun x hx=>by simp [w0] at hx,by simp [w0],fun x hx=>by simp [w0] at hx⟩
set_option maxHeartbeats 4000000 in
theorem zaT (f t:Wa) (hf:WaC f) (ht:WaC t) (i:Int) (k:Nat):ACall prog 21 [yp f,yp t,.lit (.int .i64 i)] k [] (.tup [yp (zcA f t i).1,.lit (.int .i64 (zcA f t i).2)]) []:=by
 have c1:=vF f (by have:=hf.pl;omega) i
 have c2:=qc t ht _ (wA hf.pc i)
 have h0:=zff ht (wA hf.pc i)
 have c3:=we f hf i
 have hmc:=zdj hf.dc i
 have hml:=kK (w:=f) i
 have hfl:=hf.dl
 unfold zcA
 generalize zbr f i=M at *
 clear hf ht
 generalize yf f i=Z at *
 obtain ⟨p,b⟩:=Z
 simp only at *
 cases b with
 | false=>
  rw [if_neg (by simp)]
  refine ACall.result (r:=.tup [.agg [.nils,.nils],.lit (.int .i64 12)]) ?_ (AV.sub_tup (.cons zdY (.cons (AV.le_refl _) .nil)))
  clear c2 c3 hmc h0
  refine Bd func21 ntmps21 fun σ N hp hpn hk hkn hfree=>?_
  have hcs:=And.intro c1 True.intro
  clear c1
  exact W0
 | true=>
  rw [if_pos rfl]
  obtain ⟨⟨R1,R2⟩,hR⟩:∃ R,qD (wW t p) (M.drop 0)=R:=⟨_,rfl⟩
  rw [show qD (wW t p) M=(R1,R2) from hR]
  simp only
  generalize hY:wW t p=Y at *
  obtain ⟨Y1,Y2⟩:=Y
  simp only at c2 h0
  clear hY
  refine Bd func21 ntmps21 fun σ N hp hpn hk hkn hfree=>?_
  have hcs:=And.intro c1 (And.intro c2 (And.intro c3 True.intro))
  clear c1 c2 c3
  refine Wk ?_
  clear hcs
  refine ze zi (by kernel_rfl) [11,13,33,34,35,36,37,38,39,40,41,42,43,44,45] [N+15+6] (fun m_ s_ σ_ n_=>∃ (u:Nat) (w:Wa) (e:Nat),m_=M.length - u∧s_ 33=.lit (.int .i64 u)∧s_ 11=.lit (.int .i64 e)∧σ_ (N+15+6)=.box 25 (yp w)∧(u≤M.length)∧(WaC w)∧(qD (w,e) (M.drop u)=(R1,R2))) ⟨_,0,Y1,Y2,rfl,WF,WF,WF,WC,WC,WC⟩ ?_
  intro m_1 s_1 σ_1 n_1 hs_1 hf_1 hn_1 hI_1
  obtain ⟨u,w,e,hm_1,h1_33,h1_11,e1_0,hu,hw,hres⟩:=hI_1
  have h1_6:=KS hs_1 6
  have h1_7:=KS hs_1 7
  have h1_10:=KS hs_1 10
  have h1_31:=KS hs_1 31
  have h1_32:=KS hs_1 32
  have k1_0:=KE hf_1 (N)
  have k1_1:=KE hf_1 (N+1)
  have k1_2:=KE hf_1 (N+2)
  have k1_3:=KE hf_1 (N+4+6)
  have hlow:=KL (N:=N) (σ:=σ) hf_1
  clear hR h0
  by_cases hul:u=M.length
  ·subst hul
   rw [List.drop_length,qD] at hres
   simp only [Prod.mk.injEq] at hres
   obtain ⟨rfl,rfl⟩:=hres
   clear hmc hw
   refine Wk ?_
   exact WD
  ·have hu1:u < M.length:=by omega
   rw [List.drop_eq_getElem_cons hu1,qD] at hres
   have hzd:=hmc _ (List.getElem_mem hu1)
   obtain ⟨z,hz⟩:∃ z,M[u]=z:=⟨_,rfl⟩
   rw [hz] at hres hzd
   have hzm:(M.map zw)[u]?=some (zw z):=by rw [List.getElem?_map,List.getElem?_eq_getElem hu1,hz];rfl
   by_cases he:e=0
   ·subst he
    simp only [↓reduceIte] at hres
    have c4:=zbV w hw z hzd
    have hw2:=zes hw hzd
    generalize wL w z=X at *
    obtain ⟨w2,e2⟩:=X
    simp only at c4 hw2 hres
    clear hmc hzd hw
    have hcs:=And.intro c4 True.intro
    clear c4
    refine Wk ?_
    clear hcs
    exact ⟨WS,WG,WN,_,(show M.length - (u+1) < m_1 by omega),u+1,w2,e2,rfl,WF,WF,WF,WC,WC,WC⟩
   ·simp only [if_neg he] at hres
    have he2:((e:Int) == 0)=false:=by rw [beq_eq_false_iff_ne];omega
    have hres2:qD (w,e) (M.drop (u+1))=(R1,R2):=by rw [zdf (X:=(w,e)) he];exact hres
    clear hmc hzd hres
    refine Wk ?_
    exact ⟨WS,WG,WN,_,(show M.length - (u+1) < m_1 by omega),u+1,w,e,rfl,WF,WF,WF,WC,WC,WC⟩
set_option maxHeartbeats 4000000 in
theorem zou (f t:Wa) (hf:WaC f) (ht:WaC t) (i:Int) (k:Nat):ACall prog 22 [yp f,yp t,.lit (.int .i64 i)] k [] (.tup [yp (zcA f t i).1,.lit (.int .i64 (zcA f t i).2)]) []:=by
 have c1:=qb f (by have:=hf.pl;omega) i
 have c2:=zah t (yf f i).1
 have h0:=zff ht (wA hf.pc i)
 have hb0:=fun h=>zsl (w:=t) (p:=(yf f i).1) h
 have c3:=kD f hf i
 have hmc:=zdj hf.dc i
 have hml:=kK (w:=f) i
 have hfl:=hf.dl
 unfold zcA
 generalize zbr f i=M at *
 clear hf ht
 generalize yf f i=Z at *
 obtain ⟨p,b⟩:=Z
 simp only at *
 cases b with
 | false=>
  rw [if_neg (by simp)]
  refine ACall.result (r:=.tup [.agg [.nils,.nils],.lit (.int .i64 12)]) ?_ (AV.sub_tup (.cons zdY (.cons (AV.le_refl _) .nil)))
  clear c2 c3 hmc h0 hb0
  refine Bd func22 ntmps22 fun σ N hp hpn hk hkn hfree=>?_
  have hcs:=And.intro c1 True.intro
  clear c1
  exact W0
 | true=>
  rw [if_pos rfl]
  obtain ⟨⟨R1,R2⟩,hR⟩:∃ R,qD (wW t p) (M.drop 0)=R:=⟨_,rfl⟩
  rw [show qD (wW t p) M=(R1,R2) from hR]
  simp only
  generalize hY:wW t p=Y at *
  obtain ⟨Y1,Y2⟩:=Y
  simp only at c2 h0 hb0
  clear hY
  refine Bd func22 ntmps22 fun σ N hp hpn hk hkn hfree=>?_
  have hcs:=And.intro c1 (And.intro c2 (And.intro c3 True.intro))
  clear c1 c2 c3
  refine Wk ?_
  clear hcs
  refine ze zi (by kernel_rfl) [11,13,32,33,34,35,36,37,38,39,40,41,42,43,44,45,46,47,48,49,50] [N+15+6] (fun m_ s_ σ_ n_=>∃ (u:Nat) (w:Wa) (e:Nat),m_=M.length - u∧s_ 13=.lit (.int .i64 u)∧s_ 11=.lit (.int .i64 e)∧σ_ (N+15+6)=.box 25 (yp w)∧(u≤M.length)∧(WaC w)∧(e≠0→w=w0)∧(qD (w,e) (M.drop u)=(R1,R2))) ⟨_,0,Y1,Y2,rfl,WF,WF,WF,WC,WC,WC,WC⟩ ?_
  intro m_2 s_2 σ_2 n_2 hs_2 hf_2 hn_2 hI_2
  obtain ⟨u,w,e,hm_2,h2_13,h2_11,e2_0,hu,hw,hb,hres⟩:=hI_2
  have h2_6:=KS hs_2 6
  have h2_7:=KS hs_2 7
  have h2_10:=KS hs_2 10
  have h2_12:=KS hs_2 12
  have k2_0:=KE hf_2 (N)
  have k2_1:=KE hf_2 (N+1)
  have k2_2:=KE hf_2 (N+2)
  have k2_3:=KE hf_2 (N+4+6)
  have hlow:=KL (N:=N) (σ:=σ) hf_2
  clear hR h0 hb0
  by_cases he:e=0
  ·subst he
   by_cases hul:u=M.length
   ·subst hul
    rw [List.drop_length,qD] at hres
    simp only [Prod.mk.injEq] at hres
    obtain ⟨rfl,rfl⟩:=hres
    clear hmc hw hb
    refine Wk ?_
    exact WD
   ·have hu1:u < M.length:=by omega
    rw [List.drop_eq_getElem_cons hu1,qD] at hres
    have hzd:=hmc _ (List.getElem_mem hu1)
    obtain ⟨z,hz⟩:∃ z,M[u]=z:=⟨_,rfl⟩
    rw [hz] at hres hzd
    have hzm:(M.map zw)[u]?=some (zw z):=by rw [List.getElem?_map,List.getElem?_eq_getElem hu1,hz];rfl
    simp only [↓reduceIte] at hres
    have c4:=zjL w hw z hzd
    have hw2:=zes hw hzd
    have hb2:=fun h=>zrn (w:=w) (p:=z) h
    generalize wL w z=X at *
    obtain ⟨w2,e2⟩:=X
    simp only at c4 hw2 hres hb2
    clear hmc hzd hw hb
    have hcs:=And.intro c4 True.intro
    clear c4
    refine Wk ?_
    clear hcs
    exact ⟨WS,WG,WN,_,(show M.length - (u+1) < m_2 by omega),u+1,w2,e2,rfl,WF,WF,WF,WC,WC,WC,WC⟩
  ·have he2:((e:Int) == 0)=false:=by rw [beq_eq_false_iff_ne];omega
   have he3:((e:Int) != 0)=true:=by rw [bne_iff_ne];omega
   obtain rfl:w=w0:=hb he
   rw [zdf (X:=(w0,e)) he] at hres
   simp only [Prod.mk.injEq] at hres
   obtain ⟨rfl,rfl⟩:=hres
   have hw0:yp w0=.agg [.slice none [],.slice none []]:=rfl
   rw [hw0] at *
   clear hmc hw hb hw0
   by_cases hul:u=M.length
   ·subst hul
    refine Wk ?_
    exact WD
   ·have hu1:u < M.length:=by omega
    refine Wk ?_
    exact WD
theorem jU (w:Wa) (h:WaC w) (k:Nat):ACall prog 16 [yp w,yp w] k [] (.lit (.bool true)) []:=by
 have c1:=kX w.ps (by have:=h.pl;omega) h.pc
 have c2:=wU w.ds (by have:=h.dl;omega) h.dc
 clear h
 obtain ⟨P,D⟩:=w
 unfold yp
 simp only at *
 refine Bd func16 ntmps16 fun σ N hp hpn hk hkn hfree=>?_
 have hcs:=And.intro c1 (And.intro c2 True.intro)
 clear c1 c2
 exact W0
section
variable [W:W32]
def wj (a:Alg) (p:Pa):List Pr→Alg × Nat × Pa
 | []=>(a,0,p)
 | x::r=>if (zY a 0 p (zR x)).2.1=0 then wj (zY a 0 p (zR x)).1 (zY a 0 p (zR x)).2.2 r else zY a 0 p (zR x)
theorem vz (a:Alg) (e:Nat) (p:Pa) (c:Ca):(zY a e p c).1.boxes=a.boxes:=by unfold zY;simp only [wa]
theorem vN (a:Alg) (e:Nat) (p:Pa) (c:Ca):(zY a e p c).2.2.cavs=p.cavs++[c]:=rfl
theorem zbM {a:Alg} {m:Nat} (h:AlgIn a m) (e:Nat) (p:Pa) (c:Ca):AlgIn (zY a e p c).1 (m+2):=zdE h _ _ _
theorem wb:∀ (l:List Pr) (a:Alg) (p:Pa),(wj a p l).1.boxes=a.boxes
 | [],a,p=>rfl
 | x::r,a,p=>by
  rw [wj]
  split
  ·rw [wb r,vz]
  ·exact vz a 0 p _
theorem jR:∀ (l:List Pr) (a:Alg) (p:Pa),yT a p l=if (wj a p l).2.1=0 then ((wj a p l).1,(wj a p l).2.2,0) else (wZ,pa0,(wj a p l).2.1)
 | [],a,p=>rfl
 | x::r,a,p=>by
  rw [yT,wj,zau]
  by_cases h:(zY a 0 p (zR x)).2.1=0
  ·rw [if_pos h,if_pos h,if_pos rfl]
   exact jR r _ _
  ·rw [if_neg h,if_neg h,if_neg h,if_neg h]
theorem kW:∀ (l:List Pr) (a:Alg) (p:Pa),(wj a p l).2.2.cavs.length≤p.cavs.length+l.length∧∀ c∈(wj a p l).2.2.cavs,c∈p.cavs∨∃ x∈l,c=zR x
 | [],a,p=>⟨by simp [wj],fun c hc=>Or.inl hc⟩
 | x::r,a,p=>by
  rw [wj]
  split
  ·obtain ⟨h1,h2⟩:=kW r (zY a 0 p (zR x)).1 (zY a 0 p (zR x)).2.2
   rw [vN,List.length_append,List.length_singleton] at h1
   refine ⟨by simp only [List.length_cons];omega,fun c hc=>?_⟩
   rcases h2 c hc with h | ⟨y,hy,h⟩
   ·rw [vN] at h
    rcases List.mem_append.1 h with h | h
    ·exact Or.inl h
    ·exact Or.inr ⟨x,List.mem_cons_self ..,List.mem_singleton.1 h⟩
   ·exact Or.inr ⟨y,List.mem_cons_of_mem _ hy,h⟩
  ·rw [vN,List.length_append,List.length_singleton]
   refine ⟨by simp only [List.length_cons];omega,fun c hc=>?_⟩
   rcases List.mem_append.1 hc with h | h
   ·exact Or.inl h
   ·exact Or.inr ⟨x,List.mem_cons_self ..,List.mem_singleton.1 h⟩
set_option maxHeartbeats 16000000 in
theorem zdI (a:Alg) (m:Nat) (ha:AlgIn a m) (l:List Pr) (hl:l.length≤1000) (hm:m≤100000) (p:Pa) (hpl:p.cavs.length≤1000) (hpc:∀ x∈p.cavs,wY x) (hlk:∀ x∈l,PrOk x) (q r1 r2 g h k:Nat):
  ACall prog 100 [.ptr q [] 0,zG p,.slice none (l.map zU)] k (vA a 0 q r1 r2++[(g,yE),(h,zS)]) (zG (wj a p l).2.2) [(q,zcM (wj a p l).1 (wj a p l).2.1 r1 r2),(r1,zfk (wj a p l).1.macs.length)]:=by
 have hRb:=wb l a p
 obtain ⟨R,hR⟩:∃ R,wj a p (l.drop 0)=R:=⟨_,rfl⟩
 rw [show wj a p l=R from hR] at hRb ⊢
 obtain ⟨Ra,Re,Rp⟩:=R
 simp only at hRb ⊢
 obtain ⟨BX,hBX⟩:∃ x,a.boxes=x:=⟨_,rfl⟩
 rw [hBX] at hRb
 unfold vA
 simp only [List.cons_append,List.nil_append]
 simp only [zW,zP,zO,hRb,hBX]
 have e00:((0:Nat):Int)=0:=rfl
 simp only [e00]
 refine Bd func100 ntmps100 fun σ N hp hpn hk hkn hfree=>?_
 simp only [List.mem_cons,List.not_mem_nil,or_false,forall_eq_or_imp,forall_eq] at hp hpn
 obtain ⟨hd1,hd2,hd3,hd4,hd5⟩:=hp
 obtain ⟨hdn1,hdn2,hdn3,hdn4,hdn5⟩:=hpn
 have hne:q≠r1:=by rintro rfl;rw [hd1] at hd2;cases hd2
 have hne3:q≠r2:=by rintro rfl;rw [hd1] at hd3;cases hd3
 have hneg:g≠q:=by rintro rfl;rw [hd4] at hd1;exact ya hd1
 have hneg1:g≠r1:=by rintro rfl;rw [hd4] at hd2;exact yb hd2
 have hneh:h≠q:=by rintro rfl;rw [hd5] at hd1;exact v8 hd1
 have hneh1:h≠r1:=by rintro rfl;rw [hd5] at hd2;exact v9 hd2
 have hne23:r1≠r2:=by
  rintro rfl
  rw [hd2] at hd3
  simp at hd3
 refine Wk ?_
 refine ze zi (by kernel_rfl) [8,9,10,13,14,15,16,17,18,19,20,21,22,23,24,25,26,27,28,29] [N,q,r1] (fun m_ s_ σ_ n_=>∃ (u:Nat) (A:Alg) (P:Pa),m_=l.length - u∧s_ 13=.lit (.int .i64 u)∧σ_ (N)=.box 30 (zG P)∧σ_ (q)=.box 249 (.agg [.agg [.lit (.bool A.free),zd A.seed,.lit (.int .i64 A.fresh),.slice (some r1) (A.macs.map zJ),.slice (some r2) (BX.map zo)],.lit (.int .i64 0)])∧σ_ (r1)=.row 190 65 A.macs.length∧(u≤l.length)∧(AlgIn A (m+2 * u))∧(A.boxes=BX)∧(P.cavs.length≤p.cavs.length+u)∧(∀ x∈P.cavs,wY x)∧(wj A P (l.drop u)=(Ra,Re,Rp))) ⟨_,0,a,p,rfl,WF,WF,WF,WF,WC,WC,WC,WC,WC,WC⟩ ?_
 intro m_3 s_3 σ_3 n_3 hs_3 hf_3 hn_3 hI_3
 obtain ⟨u,A,P,hm_3,h3_13,e3_0,e3_1,e3_2,hu,hA,hAb,hPl,hPc,hres⟩:=hI_3
 have h3_0:=KS hs_3 0
 have h3_4:=KS hs_3 4
 have h3_6:=KS hs_3 6
 have h3_11:=KS hs_3 11
 have h3_12:=KS hs_3 12
 have k3_0:=KE hf_3 (N+1)
 have k3_1:=KE hf_3 (r2)
 have k3_2:=KE hf_3 (g)
 have k3_3:=KE hf_3 (h)
 have hlow:∀ id,id < N→id≠q→id≠r1→σ_3 id=σ id:=fun id hid hdd0 hdd1=>(hf_3.at id oo (by simp [hdd0,hdd1];try omega)).trans (by simp (disch:=omega) only [zg];try first | exact hlow id hid hdd0 hdd1 | exact hlow id hid)
 clear hR ha hpc
 by_cases hul:u=l.length
 ·subst hul
  rw [List.drop_length,wj] at hres
  simp only [Prod.mk.injEq] at hres
  obtain ⟨rfl,rfl,rfl⟩:=hres
  clear hlk hA hPc
  refine Wk ?_
  refine yd [(q,(.box 249 (.agg [.agg [.lit (.bool A.free),zd A.seed,.lit (.int .i64 A.fresh),.slice (some r1) (A.macs.map zJ),.slice (some r2) (BX.map zo)],.lit (.int .i64 0)]))),(r1,(.row 190 65 A.macs.length))] (by simp (disch:=omega) [go_sem, *,-List.reduceReplicate];rfl) (by first | rfl | (simp (disch:=omega) [go_sem];done) | (simp (disch:=omega) [go_sem, *];done) | simp (disch:=omega) [go_sem]) (fun id hid=>by simp only [zF,yi];(by_cases hdd:id=q;(· (subst hdd;simp (disch:=omega) [go_sem, *]));(· (by_cases hdd2:id=r1;(· (subst hdd2;simp (disch:=omega) [go_sem, *]));(· (simp (disch:=omega) only [zg];try (first | exact hlow id hid hdd hdd2 | exact hlow id hid))))))) (by simp) (by simp (disch:=omega) [go_sem, *])
 ·have hu1:u < l.length:=by omega
  rw [List.drop_eq_getElem_cons hu1,wj] at hres
  have hx:=hlk _ (List.getElem_mem hu1)
  obtain ⟨x,hxe⟩:∃ x,l[u]=x:=⟨_,rfl⟩
  rw [hxe] at hres hx
  have hxm:(l.map zU)[u]?=some (zU x):=by rw [List.getElem?_map,List.getElem?_eq_getElem hu1,hxe];rfl
  have c1:=jl A (m+2 * u) hA oo 0 P oo hPc (zR x) ⟨by simp [zR],by simp [zR]⟩ hx q r1 r2 g h
  have hin:=zbM hA 0 P (zR x)
  have hbx:=vz A 0 P (zR x)
  have hcv:=vN A 0 P (zR x)
  generalize zY A 0 P (zR x)=X at *
  obtain ⟨a1,e1,p1⟩:=X
  simp only at c1 hbx hin hcv hres
  have hp1l:p1.cavs.length≤p.cavs.length+(u+1):=by rw [hcv,List.length_append,List.length_singleton];omega
  have hp1c:∀ y∈p1.cavs,wY y:=fun y hy=>by
   rw [hcv] at hy
   rcases List.mem_append.1 hy with hy | hy
   ·exact hPc y hy
   ·rw [List.mem_singleton.1 hy];exact ⟨by simp [zR],by simp [zR]⟩
  have hfA:z8 (zR x)=.agg [.lit (.bool false),zU x,.lit (.int .i64 0),.slice none [],.slice none []]:=rfl
  rw [hfA] at c1
  have hs1:=xv P
  have hs2:=yw P
  have hs3:=xv p1
  have hs4:=yw p1
  have hin2:AlgIn a1 (m+2 * (u+1)):=hin.more oo
  have hb2:a1.boxes=BX:=hbx.trans hAb
  clear hA hPl hPc hx hfA hlk hin hcv
  by_cases he:e1=0
  ·subst he
   have c2:=kF a1 q r1 r2
   unfold vA at c1 c2
   simp only [List.cons_append,List.nil_append] at c1 c2
   simp only [zW,zP,zO,hb2,hAb,e00] at c1 c2
   simp only [↓reduceIte] at hres
   have hcs:=And.intro c1 (And.intro c2 True.intro)
   clear c1 c2
   refine Wk ?_
   clear hcs
   exact ⟨WS,WG,WN,_,(show l.length - (u+1) < m_3 by omega),u+1,a1,p1,rfl,WF,WF,WF,WF,WC,WC,WC,WC,WC,WC⟩
  ·have c2:=qP a1 e1 he q r1 r2
   unfold vA at c1 c2
   simp only [List.cons_append,List.nil_append] at c1 c2
   simp only [zW,zP,zO,hb2,hAb,e00] at c1 c2
   simp only [if_neg he,Prod.mk.injEq] at hres
   obtain ⟨rfl,rfl,rfl⟩:=hres
   have he3:((e1:Int) != 0)=true:=by rw [bne_iff_ne];omega
   clear hp1l hp1c hin2
   have hcs:=And.intro c1 (And.intro c2 True.intro)
   clear c1 c2
   refine Wk ?_
   refine yd [(q,(.box 249 (.agg [.agg [.lit (.bool a1.free),zd a1.seed,.lit (.int .i64 a1.fresh),.slice (some r1) (a1.macs.map zJ),.slice (some r2) (BX.map zo)],.lit (.int .i64 e1)]))),(r1,(.row 190 65 a1.macs.length))] (by simp (disch:=omega) [go_sem, *,-List.reduceReplicate];rfl) (by first | rfl | (simp (disch:=omega) [go_sem];done) | (simp (disch:=omega) [go_sem, *];done) | simp (disch:=omega) [go_sem]) (fun id hid=>by simp only [zF,yi];(by_cases hdd:id=q;(· (subst hdd;simp (disch:=omega) [go_sem, *]));(· (by_cases hdd2:id=r1;(· (subst hdd2;simp (disch:=omega) [go_sem, *]));(· (simp (disch:=omega) only [zg];try (first | exact hlow id hid hdd hdd2 | exact hlow id hid))))))) (by simp) (by simp (disch:=omega) [go_sem, *])
end
def w3P:Pr:=⟨4,0,0,3000,[],0⟩
section
variable [W:W32]
theorem AlgOk.node0 {a:Alg} (h:AlgOk a) (key:Tg) (msg:List UInt8):AlgOk (xS a key msg).1:=by
 unfold xS
 split
 ·split
  ·exact (h.mac _ _).mac _ _
  ·exact AlgOk.zero
 ·exact AlgOk.zero
theorem AlgOk.att {a:Alg} (h:AlgOk a) (p:Pa) (c:Ca):AlgOk (zba a p c).1:=by
 unfold zba
 split
 ·exact AlgOk.zero
 ·split
  ·exact AlgOk.zero
  ·split
   ·exact h.node0 _ _
   ·exact AlgOk.zero
theorem AlgOk.nar:∀ {l:List Pr} {a:Alg} (_:AlgOk a) (p:Pa),AlgOk (yT a p l).1
 | [],_,h,_=>h
 | x::r,a,h,p=>by
  unfold yT
  split
  ·exact AlgOk.nar (l:=r) (h.att _ _) _
  ·exact AlgOk.zero
theorem AlgOk.restr {a:Alg} (h:AlgOk a) (d:Di) (p:Pr):AlgOk (wD a d p).1:=by
 unfold wD
 split
 ·exact AlgOk.zero
 ·split
  ·exact AlgOk.zero
  ·split
   ·exact AlgOk.zero
   ·split
    ·exact h.mac _ _
    ·exact AlgOk.zero
theorem AlgOk.blank {a:Alg} (h:AlgOk a) (c:Co) (t:Te):AlgOk (zax a c t).1:=by
 unfold zax
 split
 ·exact AlgOk.zero
 ·split
  ·split
   ·exact h.key.sealed _ _ _
   ·exact AlgOk.zero
  ·exact AlgOk.zero
theorem AlgOk.addT {a:Alg} (h:AlgOk a) (p:Pa) (b:Bl):AlgOk (zbq a p b).1:=by
 unfold zbq
 split
 ·split
  ·exact ((h.mac _ _).sealed _ _ _).att _ _
  ·exact AlgOk.zero
 ·exact AlgOk.zero
theorem AlgOk.grant {a:Alg} (h:AlgOk a) (c:Co) (t holder:List UInt8) (mi:Int):AlgOk (zaD a c t holder mi).1:=by
 unfold zaD
 split
 ·exact AlgOk.zero
 ·split
  ·exact AlgOk.zero
  ·split
   ·exact AlgOk.zero
   ·split
    ·exact AlgOk.zero
    ·split
     ·exact AlgOk.zero
     ·split
      ·exact (h.mac _ _).restr _ _
      ·exact AlgOk.zero
theorem zbz:∀ {l:List Pr} {a:Alg} {m:Nat} (_:AlgIn a m) (p:Pa),AlgIn (yT a p l).1 (m+2 * l.length)
 | [],_,_,h,_=>h
 | x::r,a,m,h,p=>by
  unfold yT
  split
  ·have:=zbz (l:=r) (zhi h p (zR x)) (zba a p (zR x)).2.1
   rw [show m+2 * (x::r).length=m+2+2 * r.length by simp;omega]
   exact this
  ·exact xE _
theorem zaJ:∀ {l:List Pr} {a:Alg} (p:Pa),(yT a p l).2.1.cavs.length≤p.cavs.length+l.length
 | [],_,_=>Nat.le_refl _
 | x::r,a,p=>by
  unfold yT
  split
  ·have:=zaJ (l:=r) (a:=(zba a p (zR x)).1) (zba a p (zR x)).2.1
   have h2:=zbJ (a:=a) (p:=p) (c:=zR x)
   rw [List.length_cons]
   omega
  ·simp [pa0]
theorem zaW {a:Alg} {p:Pa} {b:Bl}:(zbq a p b).2.1.cavs.length≤p.cavs.length+1:=by
 unfold zbq
 split
 ·split
  ·exact zbJ
  ·simp [pa0]
 ·simp [pa0]
structure SoW (S:Ss) (n m:Nat):Prop where
 ain:AlgIn S.A m
 ok:AlgOk S.A
 cl:S.p.cavs.length≤n
 gl:S.gs.length≤n
def zf1 (l:List Int):Nat→Nat→Alg→Di→(Alg × Di × Nat)→Prop
 | 0,j,A,g,R=>R=(A,g,j)
 | f+1,j,A,g,R=>∃ p j1,PRD l j false p j1∧zf1 l f j1 (wD A g w3P).1 (wD A g w3P).2.1 R
theorem zaL {l:List Int}:∀ (f j:Nat) (A:Alg) (g:Di) (R:Alg × Di × Nat) (m:Nat),zf1 l f j A g R→Dk l j→AlgIn A m→AlgOk A→Dk l R.2.2∧AlgIn R.1 (m+f)∧AlgOk R.1
 | 0,j,A,g,R,m,hR,h,ha,ok=>by
  have hR:R=(A,g,j):=hR
  subst hR
  exact ⟨h,ha,ok⟩
 | f+1,j,A,g,R,m,hR,h,ha,ok=>by
  obtain ⟨p,j1,hp,hR⟩:=hR
  have:=zaL f j1 _ _ R (m+1) hR hp.2.2.2.1 (zdm ha g w3P) (ok.restr g w3P)
  rw [show m+(f+1)=m+1+f by omega]
  exact this
theorem SoW.thd {con:Co} {mi:Int} {S:Ss} {n m:Nat} (h:SoW S n m) {l:List Int} {f j:Nat} (hj:Dk l j) (hf2:f≤2) {R2:Alg × Di × Nat} (hR:zf1 l f j (GR S con mi).1 (GR S con mi).2.1 R2):Dk l R2.2.2∧SoW ⟨R2.1,(AD S con).2.1,S.gs++[R2.2.1]⟩ (n+1) (m+12):=by
 have iB:AlgIn (BL S con).1 (m+2):=zc4 h.ain con ⟨0,150⟩
 have iA:AlgIn (AD S con).1 (m+6):=zhf iB S.p (BL S con).2.1
 have iG:AlgIn (GR S con mi).1 (m+8):=zel iA con (BL S con).2.1.ticket ann mi
 have oB:AlgOk (BL S con).1:=h.ok.blank con ⟨0,150⟩
 have oA:AlgOk (AD S con).1:=oB.addT S.p (BL S con).2.1
 have oG:AlgOk (GR S con mi).1:=oA.grant con (BL S con).2.1.ticket ann mi
 obtain ⟨h1,h2,h3⟩:=zaL f j _ _ R2 _ hR hj iG oG
 have hc:(AD S con).2.1.cavs.length≤S.p.cavs.length+1:=zaW
 have:=h.cl
 have:=h.gl
 exact ⟨h1,h2.more oo,h3,by simp only;omega,by simp;omega⟩
theorem SoW.nar {S:Ss} {n m:Nat} (h:SoW S n m) {L:List Pr} (hL:L.length≤1):SoW ⟨(yT S.A S.p L).1,(yT S.A S.p L).2.1,S.gs⟩ (n+1) (m+12):=by
 have h1:=zaJ (l:=L) (a:=S.A) S.p
 have:=h.cl
 have:=h.gl
 exact ⟨(zbz (l:=L) h.ain S.p).more oo,h.ok.nar S.p,by simp only;omega,by simp only;omega⟩
end
section
variable [W:W32]
omit W in
theorem ziJ:zA aF=.agg [.lit (.bool true),zd zeroTag,.lit (.int .i64 0),.slice none [],.slice none []]:=rfl
end
structure FewW (w:Wa):Prop where
 p:∀ x∈w.ps,x.cavs.length≤70
 pl:w.ps.length≤40
 dl:w.ds.length≤40
theorem zhs (w:Wa) (h1:w.ps.length≤9223372036854775807) (r:Bool) (hr:r=true↔FewW w) (k:Nat):
  ACall prog 9 [yp w] k [] (.lit (.bool r)) []:=by
 have hr0:(FewW w→False)→r=false:=fun h=>by
  cases r with
  | false=>rfl
  | true=>exact (h (hr.1 rfl)).elim
 have hr1:=hr.2
 clear hr
 obtain ⟨P,D⟩:=w
 unfold yp
 simp only at *
 refine Bd func9 ntmps9 fun σ N hp hpn hk hkn hfree=>?_
 refine Wk ?_
 refine ze zi (by kernel_rfl) [2,3,4,5,6,7,8,9,10,11,12,13,14,15,16,17,18] [] (fun m_ s_ σ_ n_=>∃ (u:Nat),m_=P.length - u∧s_ 3=.lit (.int .i64 u)∧(u≤P.length)∧(∀ x∈P.take u,x.cavs.length≤70)) ⟨_,0,rfl,WF,WC,WC⟩ ?_
 intro m_1 s_1 σ_1 n_1 hs_1 hf_1 hn_1 hI_1
 obtain ⟨u,hm_1,h1_3,hu,hP⟩:=hI_1
 have h1_1:=KS hs_1 1
 have k1_0:=KE hf_1 (N)
 have hlow:=KL (N:=N) (σ:=σ) hf_1
 by_cases hul:u=P.length
 ·subst hul
  rw [List.take_length] at hP
  by_cases a1:P.length≤40
  ·have b1:(P.length:Int)≤40:=by omega
   by_cases a2:D.length≤40
   ·have b2:(D.length:Int)≤40:=by omega
    obtain rfl:r=true:=hr1 ⟨hP,a1,a2⟩
    clear hP hr1 hr0
    exact W0
   ·have b2:¬ (D.length:Int)≤40:=by omega
    obtain rfl:r=false:=hr0 (fun h=>a2 h.dl)
    clear hP hr1 hr0
    exact W0
  ·have b1:¬ (P.length:Int)≤40:=by omega
   obtain rfl:r=false:=hr0 (fun h=>a1 h.pl)
   clear hP hr1 hr0
   exact W0
 ·have hu1:u < P.length:=by omega
  obtain ⟨z,hz⟩:∃ z,P[u]=z:=⟨_,rfl⟩
  have hzB:z∈P:=by rw [← hz];exact List.getElem_mem _
  have hzm:(P.map zG)[u]?=some (.agg [.lit (.int .i64 z.epoch),.lit (.int .i64 z.serial),.slice none (z.cavs.map z8),zd z.tag]):=by rw [List.getElem?_map,List.getElem?_eq_getElem hu1,hz];rfl
  by_cases a1:z.cavs.length≤70
  ·have b1:¬ (70:Int) < (z.cavs.length:Int):=by omega
   have hP2:∀ x∈P.take (u+1),x.cavs.length≤70:=fun x hx=>by
    rw [List.take_add_one,List.getElem?_eq_getElem hu1,hz] at hx
    rcases List.mem_append.1 hx with hx | hx
    ·exact hP x hx
    ·have hx2:x=z:=by simpa using hx
     rw [hx2];exact a1
   clear hP hr0 hr1
   refine Wk ?_
   exact ⟨WS,WG,WN,_,(show P.length - (u+1) < m_1 by omega),u+1,rfl,WF,WC,WC⟩
  ·have b1:(70:Int) < (z.cavs.length:Int):=by omega
   obtain rfl:r=false:=hr0 (fun h=>a1 (h.p z hzB))
   clear hP hr1 hr0
   exact W0
theorem kO:yp w0=.agg [.slice none [],.slice none []]:=rfl
theorem zd8 {w:Wa} {p:Pa}:(wW w p).2=0∨(wW w p).2=2:=by
 unfold wW
 split
 ·exact Or.inl rfl
 ·exact Or.inr rfl
section
variable [W:W32]
def zbK (a:Alg) (w:Wa) (i:Int) (l:List Pr):Alg × Wa × Nat:=
 if (yf w i).2=true then
  if (yT a (yf w i).1 l).2.2=0 then
   if (wW w (yT a (yf w i).1 l).2.1).2=0 then ((yT a (yf w i).1 l).1,(wW w (yT a (yf w i).1 l).2.1).1,0)
   else (wZ,w0,(wW w (yT a (yf w i).1 l).2.1).2)
  else (wZ,w0,(yT a (yf w i).1 l).2.2)
 else (wZ,w0,12)
def ze9 (R:Alg × Wa × Nat):AV:=.tup [zA R.1,yp R.2.1,.lit (.int .i64 R.2.2)]
theorem ze2 {a:Alg} {p:Pa} {l:List Pr} (hp:PaC p) (hl:p.cavs.length+l.length≤100000):PaC (wj a p l).2.2:=by
 obtain ⟨h1,h2⟩:=kW l a p
 refine ⟨by omega,fun c hc=>?_⟩
 rcases h2 c hc with h | ⟨x,_,rfl⟩
 ·exact hp.2 c h
 ·exact ⟨by simp [zR],by simp [zR]⟩
set_option maxHeartbeats 8000000 in
theorem zb1 (a:Alg) (m:Nat) (ha:AlgIn a m) (hm:m≤100000) (w:Wa) (hw:WaC w) (hpz:∀ p∈w.ps,p.cavs.length≤1000) (i:Int) (l:List Pr) (hl:l.length≤1000) (hlk:∀ x∈l,PrOk x) (g h k:Nat) (_hgh:g≠h):
  ACall prog 41 [zA a,yp w,.lit (.int .i64 i),.slice none (l.map zU)] k [(g,yE),(h,zS)] (ze9 (zbK a w i l)) []:=by
 have cf:=vF w (by have:=hw.pl;omega) i
 have hpc:=wA hw.pc i
 have hpl:(yf w i).1.cavs.length≤1000:=by
  rcases vE (w:=w) (i:=i) with h1 | h1
  ·rw [h1];simp [pa0]
  ·exact hpz _ h1
 clear hpz
 unfold zbK ze9
 generalize yf w i=Z at *
 obtain ⟨p,b⟩:=Z
 simp only at *
 cases b with
 | false=>
  rw [if_neg (by simp)]
  simp only
  rw [kO,zZ]
  clear hpc hlk ha hw
  refine Bd func41 ntmps41 fun σ N hp hpn hk hkn hfree=>?_
  simp only [List.mem_cons,List.not_mem_nil,or_false,forall_eq_or_imp,forall_eq] at hp hpn;obtain ⟨hd1,hd2⟩:=hp;obtain ⟨hdn1,hdn2⟩:=hpn
  have hcs:=And.intro cf True.intro
  clear cf
  refine Wk ?_
  exact WD
 | true=>
  rw [if_pos rfl,jR]
  have cb:=wK a (by have:=ha.ml;omega) (by have:=ha.bl;omega)
  have c1:=fun q r1 r2=>zdI a m ha l hl hm p hpl hpc.2 hlk q r1 r2 g h
  have hbx:=wb l a p
  have hpc2:=ze2 (a:=a) (l:=l) hpc oo
  generalize wj a p l=R at *
  obtain ⟨a1,e1,p1⟩:=R
  simp only at *
  have hs1:=xv p
  have hs2:=yw p
  have hs3:=xv p1
  have hs4:=yw p1
  have e00:((0:Nat):Int)=0:=rfl
  unfold zbN at cb
  unfold vA at c1
  simp only [List.cons_append,List.nil_append] at c1
  simp only [zW,zP,zO,hbx,e00] at cb c1
  by_cases he:e1=0
  ·subst he
   have c2:=kF a1
   unfold vA at c2
   simp only [zW,zP,zO,hbx,e00] at c1 c2
   simp only [↓reduceIte]
   have c3:=qc w hw p1 hpc2
   have hae:=zd8 (w:=w) (p:=p1)
   generalize wW w p1=Y at *
   obtain ⟨w2,e2⟩:=Y
   simp only at *
   clear hpc hpc2 hlk ha hw
   rcases hae with rfl | rfl
   ·simp only [↓reduceIte]
    refine Bd func41 ntmps41 fun σ N hp hpn hk hkn hfree=>?_
    simp only [List.mem_cons,List.not_mem_nil,or_false,forall_eq_or_imp,forall_eq] at hp hpn;obtain ⟨hd1,hd2⟩:=hp;obtain ⟨hdn1,hdn2⟩:=hpn
    have hcs:=And.intro cf (And.intro cb True.intro)
    clear cf cb
    refine Wm ?_
    iterate 4 refine Wz ?_
    clear hcs
    refine zL (N+16+1) [0,3] 190 65 (bt:=249) (c:=.agg [.agg [.lit (.bool a.free),zd a.seed,.lit (.int .i64 a.fresh),.clip (a.macs.map zJ),.clip (a.boxes.map zo)],.lit (.int .i64 ((0:Nat):Int))]) (xs:=a.macs.map zJ) (by simp (disch:=omega) [go_sem, *,-List.reduceReplicate]) rfl (vg _) ?_;refine zL (N+16+1) [0,4] 192 35 (bt:=249) (c:=.agg [.agg [.lit (.bool a.free),zd a.seed,.lit (.int .i64 a.fresh),.slice (some (N+16+3)) (a.macs.map zJ),.clip (a.boxes.map zo)],.lit (.int .i64 ((0:Nat):Int))]) (xs:=a.boxes.map zo) (by simp (disch:=omega) [go_sem, *,-List.reduceReplicate]) rfl (xC _) ?_
    have hcs:=And.intro (c1 (N+16+1) (N+16+3) (N+16+3+1)) (And.intro (c2 (N+16+1) (N+16+3) (N+16+3+1)) (And.intro c3 True.intro))
    clear c1 c2 c3
    refine Wk ?_
    exact WD
   ·simp only [show ¬ (2=0) by omega,if_false]
    rw [kO,zZ]
    refine Bd func41 ntmps41 fun σ N hp hpn hk hkn hfree=>?_
    simp only [List.mem_cons,List.not_mem_nil,or_false,forall_eq_or_imp,forall_eq] at hp hpn;obtain ⟨hd1,hd2⟩:=hp;obtain ⟨hdn1,hdn2⟩:=hpn
    have hcs:=And.intro cf (And.intro cb True.intro)
    clear cf cb
    refine Wm ?_
    iterate 4 refine Wz ?_
    clear hcs
    refine zL (N+16+1) [0,3] 190 65 (bt:=249) (c:=.agg [.agg [.lit (.bool a.free),zd a.seed,.lit (.int .i64 a.fresh),.clip (a.macs.map zJ),.clip (a.boxes.map zo)],.lit (.int .i64 ((0:Nat):Int))]) (xs:=a.macs.map zJ) (by simp (disch:=omega) [go_sem, *,-List.reduceReplicate]) rfl (vg _) ?_;refine zL (N+16+1) [0,4] 192 35 (bt:=249) (c:=.agg [.agg [.lit (.bool a.free),zd a.seed,.lit (.int .i64 a.fresh),.slice (some (N+16+3)) (a.macs.map zJ),.clip (a.boxes.map zo)],.lit (.int .i64 ((0:Nat):Int))]) (xs:=a.boxes.map zo) (by simp (disch:=omega) [go_sem, *,-List.reduceReplicate]) rfl (xC _) ?_
    have hcs:=And.intro (c1 (N+16+1) (N+16+3) (N+16+3+1)) (And.intro (c2 (N+16+1) (N+16+3) (N+16+3+1)) (And.intro c3 True.intro))
    clear c1 c2 c3
    refine Wk ?_
    exact WD
  ·have c2:=qP a1 e1 he
   unfold vA at c2
   simp only [zW,zP,zO,hbx] at c1 c2
   have he3:((e1:Int) != 0)=true:=by rw [bne_iff_ne];omega
   rw [if_neg he]
   simp only [if_neg he]
   rw [kO]
   simp only [zZ] at *
   clear hpc hpc2 hlk ha hw
   refine Bd func41 ntmps41 fun σ N hp hpn hk hkn hfree=>?_
   simp only [List.mem_cons,List.not_mem_nil,or_false,forall_eq_or_imp,forall_eq] at hp hpn;obtain ⟨hd1,hd2⟩:=hp;obtain ⟨hdn1,hdn2⟩:=hpn
   have hcs:=And.intro cf (And.intro cb True.intro)
   clear cf cb
   refine Wm ?_
   iterate 4 refine Wz ?_
   clear hcs
   refine zL (N+16+1) [0,3] 190 65 (bt:=249) (c:=.agg [.agg [.lit (.bool a.free),zd a.seed,.lit (.int .i64 a.fresh),.clip (a.macs.map zJ),.clip (a.boxes.map zo)],.lit (.int .i64 ((0:Nat):Int))]) (xs:=a.macs.map zJ) (by simp (disch:=omega) [go_sem, *,-List.reduceReplicate]) rfl (vg _) ?_;refine zL (N+16+1) [0,4] 192 35 (bt:=249) (c:=.agg [.agg [.lit (.bool a.free),zd a.seed,.lit (.int .i64 a.fresh),.slice (some (N+16+3)) (a.macs.map zJ),.clip (a.boxes.map zo)],.lit (.int .i64 ((0:Nat):Int))]) (xs:=a.boxes.map zo) (by simp (disch:=omega) [go_sem, *,-List.reduceReplicate]) rfl (xC _) ?_
   have hcs:=And.intro (c1 (N+16+1) (N+16+3) (N+16+3+1)) (And.intro (c2 (N+16+1) (N+16+3) (N+16+3+1)) True.intro)
   clear c1 c2
   refine Wk ?_
   exact WD
set_option maxHeartbeats 4000000 in
theorem zbY (a:Alg) (m:Nat) (ha:AlgIn a m) (w:Wa) (hw:w.ps.length≤1000000) (hpz:∀ p∈w.ps,p.cavs.length≤1000) (i:Int) (l:List Pr) (hm:m+2 * l.length≤800000) (hl:l.length≤1000) (hlk:∀ x∈l,PrOk x) (k:Nat):
  ACall prog 42 [zA a,yp w,.lit (.int .i64 i),.slice none (l.map zU)] k [] (ze9 (zbK a w i l)) []:=by
 have cf:=qb w hw i
 have hpl:(yf w i).1.cavs.length≤1000:=by
  rcases vE (w:=w) (i:=i) with h1 | h1
  ·rw [h1];simp [pa0]
  ·exact hpz _ h1
 clear hpz
 unfold zbK ze9
 generalize yf w i=Z at *
 obtain ⟨p,b⟩:=Z
 simp only at *
 cases b with
 | false=>
  rw [if_neg (by simp)]
  simp only
  rw [kO,zZ]
  clear hlk ha
  refine Bd func42 ntmps42 fun σ N hp hpn hk hkn hfree=>?_
  have hcs:=And.intro cf True.intro
  clear cf
  refine Wk ?_
  exact WD
 | true=>
  rw [if_pos rfl]
  have c1:=zdq a m ha p l hm oo hlk
  generalize yT a p l=R at *
  obtain ⟨a1,p1,e1⟩:=R
  unfold zdZ at c1
  simp only at *
  by_cases he:e1=0
  ·subst he
   simp only [↓reduceIte]
   have c3:=zah w p1
   have hae:=zd8 (w:=w) (p:=p1)
   generalize wW w p1=Y at *
   obtain ⟨w2,e2⟩:=Y
   simp only at *
   clear hlk ha
   rcases hae with rfl | rfl
   ·simp only [↓reduceIte]
    refine Bd func42 ntmps42 fun σ N hp hpn hk hkn hfree=>?_
    have hcs:=And.intro cf (And.intro c1 (And.intro c3 True.intro))
    clear cf c1 c3
    refine Wk ?_
    exact WD
   ·simp only [show ¬ (2=0) by omega,if_false]
    rw [kO,zZ]
    refine Bd func42 ntmps42 fun σ N hp hpn hk hkn hfree=>?_
    have hcs:=And.intro cf (And.intro c1 (And.intro c3 True.intro))
    clear cf c1 c3
    refine Wk ?_
    exact WD
  ·have he3:((e1:Int) != 0)=true:=by rw [bne_iff_ne];omega
   rw [if_neg he]
   simp only
   rw [kO,zZ]
   clear hlk ha
   refine Bd func42 ntmps42 fun σ N hp hpn hk hkn hfree=>?_
   have hcs:=And.intro cf (And.intro c1 True.intro)
   clear cf c1
   refine Wk ?_
   exact WD
def qK:Pa:=⟨1,1,[],zeroTag⟩
omit W in
theorem zjG:zG qK=.agg [.lit (.int .i64 1),.lit (.int .i64 1),.slice none [],zd zeroTag]:=rfl
omit W in
theorem zpu (L:List Pa) (hL:L.length≤10) (h:∀ p∈L,p=qK):WaC ⟨L,[]⟩:=
 ⟨by simp only;omega,fun p hp=>by rw [h p hp];exact ⟨by simp [qK],fun c hc=>by simp [qK] at hc⟩,by simp,fun d hd=>by cases hd⟩
set_option maxHeartbeats 4000000 in
theorem jZ (g h:Nat) (hgh:g≠h) (k:Nat):ACall prog 10 [] k [(g,yE),(h,zS)] (.lit (.bool true)) []:=by
 have c1:=qc w0 (zpu [] (by simp) (fun p hp=>by cases hp)) qK ⟨by simp [qK],fun c hc=>by simp [qK] at hc⟩
 have c2:=fun k=>zb1 aF 0 zld oo ⟨[qK],[]⟩ (zpu [qK] (by simp) (fun p hp=>List.mem_singleton.1 hp)) (fun p hp=>by rw [List.mem_singleton.1 hp];simp [qK]) 0 [] (by simp) (fun x hx=>by cases hx) g h k hgh
 have c3:=zaT ⟨[qK,qK],[]⟩ w0 (zpu [qK,qK] (by simp) (fun p hp=>by simpa using hp)) (zpu [] (by simp) (fun p hp=>by cases hp)) 2
 have h1:wW w0 qK=(⟨[qK],[]⟩,0):=rfl
 have h2:zbK aF ⟨[qK],[]⟩ 0 []=(aF,⟨[qK,qK],[]⟩,0):=rfl
 have h3:zcA ⟨[qK,qK],[]⟩ w0 2=(w0,12):=rfl
 rw [h1] at c1
 rw [h2] at c2
 rw [h3] at c3
 have e1:yp ⟨[qK],[]⟩=.agg [.slice none [zG qK],.slice none []]:=rfl
 have e2:yp ⟨[qK,qK],[]⟩=.agg [.slice none [zG qK,zG qK],.slice none []]:=rfl
 unfold ze9 at c2
 simp only at *
 rw [e1,kO] at c1
 rw [e1,e2,ziJ] at c2
 rw [e2,kO] at c3
 simp only [zjG,List.map_nil] at c1 c2 c3
 have f0:((0:Nat):Int)=0:=rfl
 have f12:((12:Nat):Int)=12:=rfl
 rw [f0] at c1 c2
 rw [f12] at c3
 clear h1 h2 h3 e1 e2 f0 f12
 refine Bd func10 ntmps10 fun σ N hp hpn hk hkn hfree=>?_
 simp only [List.mem_cons,List.not_mem_nil,or_false,forall_eq_or_imp,forall_eq] at hp hpn;obtain ⟨hd1,hd2⟩:=hp;obtain ⟨hdn1,hdn2⟩:=hpn
 have hcs:=And.intro c1 (And.intro c2 (And.intro c3 True.intro))
 clear c1 c2 c3
 exact W0
end
section
variable [W:W32]
theorem xU {leaf:Tg} {r:Rq} (hr:rqB r=true):∀ (L:List Di) (u m:Nat) (a:Alg) (D:List Bo),AlgIn a m→m+L.length≤60000→(xj leaf r L u a D).1.boxes=a.boxes
 | [],_,_,_,_,_,_=>rfl
 | d::L,u,m,a,D,ha,hm=>by
  simp only [List.length_cons] at hm
  obtain ⟨h0,hB⟩:=vw ha oo d leaf hr
  have h1:=(xJ h0).2.2.2
  have h3:=yN ha d.tag (y8 leaf r.gate.toNat r.nonce.toNat)
  rw [xj,hB]
  simp only
  rw [xU hr L (u+1) (m+1) _ _ h3 oo]
  exact h1
theorem vo {a:Alg} {m:Nat} (ha:AlgIn a m) (p:Pa) (gs:List Di) {r:Rq} (hr:rqB r=true) (hm:m+gs.length≤50000):(zV a p gs r).1.boxes=a.boxes:=by
 have h0:=ka ha oo p hr
 have h1:(qa a p r).1.boxes=a.boxes:=(xJ h0).2.2.2
 have h3:AlgIn (qa a p r).1 (m+1):=yN ha _ _
 unfold zV
 simp only
 rw [xU hr gs 0 (m+1) _ _ h3 oo]
 exact h1
end
structure Few (q:Kn):Prop where
 p:∀ x∈q.ps,x.cavs.length≤70
 b:∀ x∈q.bs,x.cavs.length≤70∧x.dis.length≤30
 pl:q.ps.length≤40
 dl:q.ds.length≤40
 bl:q.bs.length≤70
 il:q.its.length≤70
section
variable [W:W32]
def zaN (l:List Int) (s:Sc) (n:Nat) (X:Alg × Kn × Nat):Alg × Kn × Nat:=
 if (yl l X.2.2 3).1=0 then ((zV X.1 s.pass s.grants s.req).1,⟨X.2.1.ps,X.2.1.ds,xy X.2.1.bs (zV X.1 s.pass s.grants s.req).2,X.2.1.its⟩,(yl l X.2.2 3).2)
 else if (yl l X.2.2 3).1=1 then (X.1,⟨X.2.1.ps,X.2.1.ds,X.2.1.bs,xy X.2.1.its ⟨n,0,0,zeroTag,[],(zg5 l (yl l X.2.2 3).2).1⟩⟩,(zg5 l (yl l X.2.2 3).2).2)
 else (X.1,(if (v7 X.2.1 s.pass s.grants).2=0 then (v7 X.2.1 s.pass s.grants).1 else X.2.1),(yl l X.2.2 3).2)
structure KB (s:Sc) (A:Alg) (q:Kn) (i:Nat):Prop where
 ain:AlgIn A (1000+6 * i)
 ok:AlgOk A
 fr:A.free=s.alg.free
 bx:A.boxes=s.alg.boxes
 sub:∀ e∈s.alg.macs,e∈A.macs
 kc:KnC q
 p0:∃ r,q.ps=s.pass::r
 d0:∃ r,q.ds=s.grants++r∧∀ d∈r,d∈s.grants
 pl:q.ps.length≤1+i
 bl:q.bs.length≤i
 il:q.its.length≤i
 dl:q.ds.length≤100
theorem yW {s:Sc} (hs:ScV s):PaC s.pass∧(∀ d∈s.grants,WdT d.ticket d.conds)∧s.grants.length≤5:=by
 obtain ⟨⟨se,hG,_⟩,_⟩:=hs
 have hgl:=hG.gl
 have hcl:=hG.cl
 have hgv:=hG.gv
 have hcv:=hG.cv
 simp only at hgl hcl hgv hcv
 refine ⟨⟨by omega,fun c hc=>?_⟩,fun d hd=>?_,hgl⟩
 ·have:=hcv c hc
  exact ⟨by omega,by omega⟩
 ·have hv:=hgv d hd
  have v1:=hv.t2
  have v2:=hv.cl
  exact ⟨by omega,by omega⟩
theorem zbQ {s:Sc} (hs:ScV s) {A:Alg} {m:Nat} (hin0:AlgIn A m) (hm:m≤10000):BuC (zV A s.pass s.grants s.req).2:=by
 have hr:=hs.rq
 obtain ⟨hp,hd,hgl⟩:=yW hs
 have hin:AlgIn (qa A s.pass s.req).1 (m+1):=yN hin0 _ _
 obtain ⟨_,b2⟩:=zaw (leaf:=s.pass.tag) hr s.grants s.grants 0 _ (s.grants.map zu) (m+1) hin oo rfl (by simp) (fun i hi hj=>by rw [List.getElem_map];exact ⟨rfl,rfl⟩)
 have hl:(zV A s.pass s.grants s.req).2.dis.length=s.grants.length:=by unfold zV;simp only;rw [xO];simp
 refine ⟨?_,fun c hc=>hp.2 c hc,by omega,fun d hd2=>?_⟩
 ·show s.pass.cavs.length≤100000;exact hp.1
 ·obtain ⟨i,hi,rfl⟩:=List.getElem_of_mem hd2
  have hi2:i < s.grants.length:=by rw [← hl];exact hi
  obtain ⟨t1,t2⟩:=b2 i hi2 hi
  have hv:=hd _ (List.getElem_mem hi2)
  show WdT ((zV A s.pass s.grants s.req).2.dis[i]).ticket ((zV A s.pass s.grants s.req).2.dis[i]).conds
  rw [show ((zV A s.pass s.grants s.req).2.dis[i]).ticket=(s.grants[i]).ticket from t1,show ((zV A s.pass s.grants s.req).2.dis[i]).conds=(s.grants[i]).conds from t2]
  exact hv
theorem KB.step {s:Sc} (hs:ScV s) {l:List Int} {n:Nat} {X:Alg × Kn × Nat} {i:Nat} (h:KB s X.1 X.2.1 i) (hi:i≤10):KB s (zaN l s n X).1 (zaN l s n X).2.1 (i+1):=by
 obtain ⟨A,q,j⟩:=X
 obtain ⟨hp,hd,hgl⟩:=yW hs
 have hbl:=h.bl
 have hil:=h.il
 have hpl:=h.pl
 simp only at h hbl hil hpl ⊢
 unfold zaN
 simp only
 by_cases h0:(yl l j 3).1=0
 ·rw [if_pos h0]
  obtain ⟨k1,k2,k3,k4,_⟩:=zeZ h.ain h.ok s.pass s.grants hs.rq oo
  have k5:=vo h.ain s.pass s.grants hs.rq oo
  have hb:=zbQ hs h.ain oo
  refine ⟨k2.more oo,k1,k3.trans h.fr,k5.trans h.bx,fun e he=>k4 e (h.sub e he),h.kc.see hb oo,h.p0,h.d0,by first | omega | (simp only;omega),?_,by first | omega | (simp only;omega),h.dl⟩
  have:=xu q.bs (zV A s.pass s.grants s.req).2
  simp only;omega
 ·rw [if_neg h0]
  by_cases h1:(yl l j 3).1=1
  ·rw [if_pos h1]
   refine ⟨h.ain.more oo,h.ok,h.fr,h.bx,h.sub,h.kc.watch (by simp) oo,h.p0,h.d0,by first | omega | (simp only;omega),by first | omega | (simp only;omega),?_,h.dl⟩
   have:=xu q.its (⟨n,0,0,zeroTag,[],(zg5 l (yl l j 3).2).1⟩:It)
   simp only;omega
  ·rw [if_neg h1]
   unfold v7
   by_cases hc:q.ps.length < 32∧q.ds.length+s.grants.length≤32
   ·rw [if_pos hc]
    simp only [↓reduceIte]
    obtain ⟨r,hr⟩:=h.p0
    obtain ⟨r2,hr2,hr3⟩:=h.d0
    refine ⟨h.ain.more oo,h.ok,h.fr,h.bx,h.sub,h.kc.learn hp hd oo oo,⟨r++[s.pass],by rw [hr];rfl⟩,⟨r2++s.grants,by rw [hr2,List.append_assoc],fun d hd=>?_⟩,?_,(show q.bs.length≤i+1 by omega),(show q.its.length≤i+1 by omega),by simp only [List.length_append];omega⟩
    ·rcases List.mem_append.1 hd with hd | hd
     ·exact hr3 d hd
     ·exact hd
    ·rw [List.length_append,List.length_singleton];omega
   ·rw [if_neg hc]
    simp only [show ¬ (2=0) by omega,if_false]
    exact ⟨h.ain.more oo,h.ok,h.fr,h.bx,h.sub,h.kc,h.p0,h.d0,by omega,by omega,by omega,h.dl⟩
theorem KB.first {s:Sc} (hs:ScV s):KB s s.alg ⟨[s.pass],s.grants,[],[]⟩ 0:=by
 obtain ⟨hp,hd,hgl⟩:=yW hs
 obtain ⟨⟨se,hG,_⟩,_⟩:=hs
 exact ⟨hG.ain,hG.ok,rfl,rfl,fun e he=>he,⟨by simp,fun x hx=>by rw [List.mem_singleton.1 hx];exact hp,by simp only;omega,hd,by simp,fun x hx=>(by cases hx),by simp,fun x hx=>(by cases hx)⟩,⟨[],rfl⟩,⟨[],by simp,fun d hd=>(by cases hd)⟩,by simp,by simp,by simp,by simp only;omega⟩
end
end Go.Proofs.YtglmjglbobhbbaaGreatDoor
namespace Go.Proofs.YtglmjglbobhbbaaGreatDoor
open _root_.Go.Proofs.Tryz
open Go.Ab
attribute [local irreducible] Go.Ab.tyAV Go.Ab.aw Go.Ab.aops Go.Ab.kReg Go.Ab.aThen Go.Ab.aBlk Go.Ab.acond Go.Ab.aguard Go.Ab.astep Go.Ab.AStepX Go.Ab.aRet
def zlO (l:List Int) (r:Bool):Nat→Nat→List Pr→(List Pr × Nat)→Prop
 | 0,j,acc,R=>R=(acc,j)
 | f+1,j,acc,R=>∃ p j1,PRD l j r p j1∧zlO l r f j1 (acc++[p]) R
theorem zcs {l:List Int} {r:Bool}:∀ (f j:Nat) (acc:List Pr),Dk l j→(∀ p∈acc,PrOk p∧yc p=true)→∃ R,zlO l r f j acc R∧Dk l R.2∧(∀ p∈R.1,PrOk p∧yc p=true)∧R.1.length=acc.length+f
 | 0,j,acc,h,ha=>⟨_,rfl,h,ha,rfl⟩
 | f+1,j,acc,h,ha=>by
  obtain ⟨p,j1,hp⟩:=zkG h r
  obtain ⟨R,hR,h1,h2,h3⟩:=zcs (r:=r) f j1 (acc++[p]) hp.2.2.2.1 (fun q hq=>by
   rcases List.mem_append.1 hq with hq | hq
   ·exact ha q hq
   ·rw [List.mem_singleton.1 hq];exact ⟨hp.2.1,hp.1⟩)
  exact ⟨R,⟨p,j1,hp,hR⟩,h1,h2,by rw [h3];simp;omega⟩
set_option maxHeartbeats 2000000 in
theorem zaV (l:List Int) (i:Nat) (h:Dk l i) (n:Nat) (hn:n≤1000) (r:Bool) (R:List Pr) (j:Nat) (hR:zlO l r (yl l i (n+1)).1 (yl l i (n+1)).2 [] (R,j)) (d k:Nat):
  ACall prog 40 [.ptr d [] 0,.lit (.int .i64 n),.lit (.bool r)] k [(d,zy l i)] (.slice none (R.map zU)) [(d,zy l j)]:=by
 have c1:=yV l i (n+1) h oo oo
 have h1:=yu (n+1) h
 have h2:=y7 l i (n+1) oo
 clear h
 generalize yl l i (n+1)=X at *
 obtain ⟨f0,j0⟩:=X
 simp only at *
 rw [show ((n+1:Nat):Int)=(n:Int)+1 by omega] at c1
 refine Bd func40 ntmps40 fun σ N hp hpn hk hkn hfree=>?_
 obtain ⟨hd,hdn⟩:=HD0 hp hpn;clear hp hpn
 have hcs:=And.intro (c1 d) True.intro
 clear c1
 refine Wk ?_
 clear hcs
 refine ALoop.nilrow 7 138 6 (by simp (disch:=omega) [go_sem, *,-List.reduceReplicate]) ?_
 refine yn (N) zi (by kernel_rfl) [7,8,13,14,15,16,17,18,19,20,21,22] [d] (fun m_ s_ σ_ n_=>∃ (f:Nat) (q:Nat) (acc:List Pr) (j':Nat),m_=f∧s_ 8=.lit (.int .i64 f)∧s_ 7=.slice (some q) (acc.map zU)∧σ_ (d)=zy l j'∧σ_ (q)=.row 138 6 acc.length∧(N≤q)∧(q < n_)∧(acc.length+f≤1000)∧(Dk l j')∧(zlO l r f j' acc (R,j))) ⟨_,f0,_,[],j0,rfl,WF,WF,WF,WF,WC,WC,WC,WC,WC⟩ ?_
 intro m_1 s_1 σ_1 n_1 hs_1 hf_1 hn_1 hI_1
 obtain ⟨f,q,acc,j',hm_1,h1_8,h1_7,e1_0,e1_1,hq,hqn,hal,hj,hrun⟩:=hI_1
 have h1_0:=KS hs_1 0
 have h1_2:=KS hs_1 2
 have h1_6:=KS hs_1 6
 have hlow:=KD (N:=N) (d:=d) (σ:=σ) hf_1
 clear hR
 cases f with
 | zero=>
  have hrun:(R,j)=(acc,j'):=hrun
  simp only [Prod.mk.injEq] at hrun
  obtain ⟨rfl,rfl⟩:=hrun
  clear hj
  refine Wk ?_
  exact RV (d) (zy l j)
 | succ f=>
  obtain ⟨p,j1,⟨p1,p2,p3,p4,p5⟩,hrun⟩:=hrun
  have hcs:=And.intro (p5 d) True.intro
  clear p5 p1 p2 p3 hj
  refine Wk ?_
  exact ⟨WS,WG,WN,_,(show (f) < m_1 by omega),f,q,acc++[p],j1,rfl,WF,WF,WF,WF,WC,WC,WC,WC,WC⟩
theorem zbI (l:List Int) (i:Nat) (h:Dk l i) (n:Nat) (hn:n≤1000) (r:Bool):∃ (R:List Pr) (j:Nat),R.length≤n∧(∀ p∈R,PrOk p∧yc p=true)∧Dk l j∧∀ d k,ACall prog 40 [.ptr d [] 0,.lit (.int .i64 n),.lit (.bool r)] k [(d,zy l i)] (.slice none (R.map zU)) [(d,zy l j)]:=by
 obtain ⟨⟨R,j⟩,hR,h1,h2,h3⟩:=zcs (r:=r) (yl l i (n+1)).1 (yl l i (n+1)).2 [] (yu _ h) (fun p hp=>by cases hp)
 have:=y7 l i (n+1) oo
 exact ⟨R,j,by simp only [List.length_nil] at h3;omega,h2,h1,fun d k=>zaV l i h n hn r R j hR d k⟩
attribute [local irreducible] yE
def zfZ:Nat→List Pa→List Pa
 | 0,l=>l
 | f+1,l=>zfZ f (l++[⟨0,l.length,[],zeroTag⟩])
def tkD (n:Nat):List UInt8:=[UInt8.ofNat (n % 256),77]
theorem zuY (n:Nat):(Value.int .u8 (IntKind.u8.wrap (n:Int)))=.int .u8 ((UInt8.ofNat (n % 256)).toNat:Int):=by
 have h1:(UInt8.ofNat (n % 256)).toNat=n % 256:=by rw [UInt8.toNat_ofNat'];omega
 rw [IntKind.wrap_u8,h1]
 congr 1
def zfY:Nat→List Di→List Di
 | 0,l=>l
 | f+1,l=>zfY f (l++[⟨tkD l.length,[],zeroTag⟩])
theorem kM {Q:Pa→Prop} (hq:∀ s,Q ⟨0,s,[],zeroTag⟩):∀ (f:Nat) (l:List Pa),(∀ p∈l,Q p)→(∀ p∈zfZ f l,Q p)∧(zfZ f l).length=l.length+f
 | 0,l,h=>⟨h,rfl⟩
 | f+1,l,h=>by
  obtain ⟨h1,h2⟩:=kM hq f (l++[⟨0,l.length,[],zeroTag⟩]) (fun p hp=>by
   rcases List.mem_append.1 hp with hp | hp
   ·exact h p hp
   ·rw [List.mem_singleton.1 hp];exact hq _)
  exact ⟨h1,by rw [zfZ,h2,List.length_append,List.length_singleton];omega⟩
theorem kL {Q:Di→Prop} (hq:∀ n,Q ⟨tkD n,[],zeroTag⟩):∀ (f:Nat) (l:List Di),(∀ p∈l,Q p)→(∀ p∈zfY f l,Q p)∧(zfY f l).length=l.length+f
 | 0,l,h=>⟨h,rfl⟩
 | f+1,l,h=>by
  obtain ⟨h1,h2⟩:=kL hq f (l++[⟨tkD l.length,[],zeroTag⟩]) (fun p hp=>by
   rcases List.mem_append.1 hp with hp | hp
   ·exact h p hp
   ·rw [List.mem_singleton.1 hp];exact hq _)
  exact ⟨h1,by rw [zfY,h2,List.length_append,List.length_singleton];omega⟩
def zcl (w:Wa) (n:Nat):Wa:=⟨zfZ (n - w.ps.length) w.ps,zfY (n - w.ds.length) w.ds⟩
theorem zb0 {x y:AV} (h:AV.le x y):∀ xs:List AV,ALe (xs++[x]) (xs++[y])
 | []=>.cons h .nil
 | z::r=>.cons (AV.le_refl z) (zb0 h r)
theorem zor (P:List Pa) (s:Int) (r:Nat):AV.le (.slice (some r) (P.map zG++[.agg [.lit (.int .i64 0),.lit (.int .i64 s),.nils,zd zeroTag]])) (.slice none ((P++[(⟨0,s,[],zeroTag⟩:Pa)]).map zG)):=by
 rw [List.map_append]
 intro g0 v0 hv0
 refine AV.le_own _ _ g0 v0 (AV.le_sliceS (some r) (zb0 ?_ _) g0 v0 hv0)
 exact AV.sub_agg (.cons (AV.le_refl _) (.cons (AV.le_refl _) (.cons AV.le_nils0 (.cons (AV.le_refl _) .nil))))
theorem zoq (P:List Di) (n:Nat) (r x:Nat):AV.le (.slice (some r) (P.map zw++[.agg [.slice (some x) [.lit (.int .u8 (IntKind.u8.wrap (n:Int))),.lit (.int .u8 77)],.nils,zd zeroTag]])) (.slice none ((P++[(⟨tkD n,[],zeroTag⟩:Di)]).map zw)):=by
 rw [List.map_append]
 intro g0 v0 hv0
 refine AV.le_own _ _ g0 v0 (AV.le_sliceS (some r) (zb0 ?_ _) g0 v0 hv0)
 rw [zuY]
 exact AV.sub_agg (.cons (AV.le_own _ _) (.cons AV.le_nils0 (.cons (AV.le_refl _) .nil)))
set_option maxHeartbeats 4000000 in
theorem zfG (w:Wa) (h1:w.ps.length≤100000) (h2:w.ds.length≤100000) (n:Nat) (hn:n≤100000) (k:Nat):
  ACall prog 12 [yp w,.lit (.int .i64 n)] k [] (yp (zcl w n)) []:=by
 obtain ⟨P0,D0⟩:=w
 unfold zcl yp
 simp only at *
 obtain ⟨RP,hRP⟩:∃ R,zfZ (n - P0.length) P0=R:=⟨_,rfl⟩
 obtain ⟨RD,hRD⟩:∃ R,zfY (n - D0.length) D0=R:=⟨_,rfl⟩
 rw [hRP,hRD]
 have hC0:AV.le (.slice none (P0.map zG)) (.slice none (P0.map zG)):=AV.le_refl _
 have hC1:(AV.slice none (P0.map zG)).sz=1:=rfl
 have hE0:AV.le (.slice none (D0.map zw)) (.slice none (D0.map zw)):=AV.le_refl _
 have hE1:(AV.slice none (D0.map zw)).sz=1:=rfl
 refine Bd func12 ntmps12 fun σ N hp hpn hk hkn hfree=>?_
 refine Wk ?_
 refine ze zi (by kernel_rfl) [5,6,7,8,9,10,11,12,13,14,15,16,17,18,19,20] [N] (fun m_ s_ σ_ n_=>∃ (f:Nat) (P:List Pa) (C:AV),m_=f∧σ_ (N)=.box 25 (.agg [C,.slice none (D0.map zw)])∧(P.length+f=n∨(f=0∧n≤P.length))∧(zfZ f P=RP)∧(P.length≤200000)∧(AV.le C (.slice none (P.map zG)))∧(C.sz=1)) ⟨_,n - P0.length,P0,.slice none (P0.map zG),rfl,WF,WC,WC,WC,WC,WC⟩ ?_
 intro m_1 s_1 σ_1 n_1 hs_1 hf_1 hn_1 hI_1
 obtain ⟨f,P,C,hm_1,e1_0,hf,hP,hl,hC,hS⟩:=hI_1
 have h1_1:=KS hs_1 1
 have h1_2:=KS hs_1 2
 have h1_4:=KS hs_1 4
 have k1_0:=KE hf_1 (N+1)
 have hlow:=KL (N:=N) (σ:=σ) hf_1
 clear hRP hC0 hC1
 refine wl (bt:=25) N [0] (.slice none (P.map zG)) (c:=.agg [C,.slice none (D0.map zw)]) (by simp (disch:=omega) [go_sem, *,-List.reduceReplicate];try first | done | rfl | exact ⟨rfl,rfl⟩) (by rfl) hC hS (by rfl) ?_
 clear hC hS
 cases f with
 | zero=>
  have hi:¬ (P.length:Int) < (n:Int):=by omega
  rw [zfZ] at hP
  subst hP
  clear hf
  refine Wk ?_
  refine ze zi (by kernel_rfl) [21,22,23,24,25,26,27,28,29,30,31,32,33,34,35,36,37,38] [N] (fun m_ s_ σ_ n_=>∃ (f:Nat) (D:List Di) (C:AV),m_=f∧σ_ (N)=.box 25 (.agg [.slice none (P.map zG),C])∧(D.length+f=n∨(f=0∧n≤D.length))∧(zfY f D=RD)∧(D.length≤200000)∧(AV.le C (.slice none (D.map zw)))∧(C.sz=1)) ⟨_,n - D0.length,D0,.slice none (D0.map zw),rfl,WF,WC,WC,WC,WC,WC⟩ ?_
  intro m_2 s_2 σ_2 n_2 hs_2 hf_2 hn_2 hI_2
  obtain ⟨f,D,C,hm_2,e2_0,hf,hD,hl,hC,hS⟩:=hI_2
  have h2_1:=KS hs_2 1
  have h2_2:=KS hs_2 2
  have h2_4:=KS hs_2 4
  have k2_0:=KE hf_2 (N+1)
  have hlow:=KL (N:=N) (σ:=σ) hf_2
  clear hRD hE0 hE1
  refine wl (bt:=25) N [1] (.slice none (D.map zw)) (c:=.agg [.slice none (P.map zG),C]) (by simp (disch:=omega) [go_sem, *,-List.reduceReplicate];try first | done | rfl | exact ⟨rfl,rfl⟩) (by rfl) hC hS (by rfl) ?_
  clear hC hS
  cases f with
  | zero=>
   have hi:¬ (D.length:Int) < (n:Int):=by omega
   rw [zfY] at hD
   subst hD
   clear hf
   exact WA
  | succ f=>
   have hi:(D.length:Int) < (n:Int):=by omega
   have hf2:(D++[(⟨tkD D.length,[],zeroTag⟩:Di)]).length+f=n∨(f=0∧n≤(D++[(⟨tkD D.length,[],zeroTag⟩:Di)]).length):=by rw [List.length_append,List.length_singleton];omega
   have hl2:(D++[(⟨tkD D.length,[],zeroTag⟩:Di)]).length≤200000:=by rw [List.length_append,List.length_singleton];omega
   rw [zfY] at hD
   have hC:=zoq D D.length (n_2+5) (n_2+5+8)
   have hS:(AV.slice (some (n_2+5)) (D.map zw++[.agg [.slice (some (n_2+5+8)) [.lit (.int .u8 (IntKind.u8.wrap (D.length:Int))),.lit (.int .u8 77)],.nils,zd zeroTag]])).sz=1:=rfl
   generalize hD2:D++[(⟨tkD D.length,[],zeroTag⟩:Di)]=D2 at *
   clear hD2 hf
   have hb80:(D.length+1) * 80≤140737488355328:=by omega
   refine Wk ?_
   exact ⟨WS,WG,WN,_,(show (f) < m_2 by omega),f,D2,.slice (some (n_2+5)) (D.map zw++[.agg [.slice (some (n_2+5+8)) [.lit (.int .u8 (IntKind.u8.wrap (D.length:Int))),.lit (.int .u8 77)],.nils,zd zeroTag]]),rfl,WF,WC,WC,WC,WC,WC⟩
 | succ f=>
  have hi:(P.length:Int) < (n:Int):=by omega
  have hf2:(P++[(⟨0,P.length,[],zeroTag⟩:Pa)]).length+f=n∨(f=0∧n≤(P++[(⟨0,P.length,[],zeroTag⟩:Pa)]).length):=by rw [List.length_append,List.length_singleton];omega
  have hl2:(P++[(⟨0,P.length,[],zeroTag⟩:Pa)]).length≤200000:=by rw [List.length_append,List.length_singleton];omega
  rw [zfZ] at hP
  have hC:=zor P P.length (n_1+5)
  have hS:(AV.slice (some (n_1+5)) (P.map zG++[.agg [.lit (.int .i64 0),.lit (.int .i64 (P.length:Int)),.nils,zd zeroTag]])).sz=1:=rfl
  generalize hP2:P++[(⟨0,P.length,[],zeroTag⟩:Pa)]=P2 at *
  clear hP2 hf
  have hb72:(P.length+1) * 72≤140737488355328:=by omega
  refine Wk ?_
  exact ⟨WS,WG,WN,_,(show (f) < m_1 by omega),f,P2,.slice (some (n_1+5)) (P.map zG++[.agg [.lit (.int .i64 0),.lit (.int .i64 (P.length:Int)),.nils,zd zeroTag]]),rfl,WF,WC,WC,WC,WC,WC⟩
section
variable [W:W32]
structure NarG (a:Alg) (m:Nat) (p:Pa) (l:List Pr) (R:Alg × Pa × Nat):Prop where
 e0:R.2.2=0
 ain:AlgIn R.1 (m+2 * l.length)
 ok:AlgOk R.1
 fr:R.1.free=a.free
 bx:R.1.boxes=a.boxes
 fs:R.1.fresh=a.fresh
 sub:∀ e∈a.macs,e∈R.1.macs
 cv:R.2.1.cavs=p.cavs++l.map zR
 ep:R.2.1.epoch=p.epoch
 se:R.2.1.serial=p.serial
 pt:∀ k M,pathIn a.macs k M p.tag→pathIn R.1.macs k (M++l.map (fun x=>y9 (zR x))) R.2.1.tag
theorem jP:∀ {l:List Pr} {a:Alg} {m:Nat} {p:Pa},AlgIn a m→AlgOk a→m+2 * l.length≤60000→p.cavs.length+l.length≤64→(∀ x∈l,yc x=true)→NarG a m p l (yT a p l)
 | [],a,m,p,h,ok,_,_,_=>by
  rw [show yT a p []=(a,p,0) from rfl]
  exact ⟨rfl,by simpa using h,ok,rfl,rfl,rfl,fun e he=>he,by simp,rfl,rfl,fun k M hp=>by simpa using hp⟩
 | x::r,a,m,p,h,ok,hm,hl,hv=>by
  simp only [List.length_cons] at hm hl
  have hcv:xz (zR x)=true:=(CV.first x (hv x (List.mem_cons_self ..))).ok
  have ha:=zds h oo (p:=p) (c:=zR x) hcv oo (fun hh=>by cases hh)
  have hk:=kV h oo p.tag (msg:=y9 (zR x)) (by have:=xP (zR x);omega)
  have hin:=zcN h p.tag (y9 (zR x))
  have hok:=ok.node h oo p.tag (msg:=y9 (zR x)) (by have:=xP (zR x);omega)
  obtain ⟨z1,z2⟩:=zcr h oo p.tag (msg:=y9 (zR x)) (by have:=xP (zR x);omega)
  have hn:yT a p (x::r)=yT (xS a p.tag (y9 (zR x))).1 ⟨p.epoch,p.serial,p.cavs++[zR x],(xS a p.tag (y9 (zR x))).2.1⟩ r:=by
   rw [yT,ha]
   exact if_pos rfl
  rw [hn]
  have g:=jP (l:=r) (p:=⟨p.epoch,p.serial,p.cavs++[zR x],(xS a p.tag (y9 (zR x))).2.1⟩) hin hok oo (by simp only [List.length_append,List.length_singleton];omega) (fun y hy=>hv y (List.mem_cons_of_mem _ hy))
  refine ⟨g.e0,by rw [List.length_cons,show m+2 * (r.length+1)=m+2+2 * r.length by omega];exact g.ain,g.ok,g.fr.trans hk.2.1,g.bx.trans hk.2.2.2,g.fs.trans hk.2.2.1,fun e he=>g.sub e (z2 e he),by rw [g.cv];simp,g.ep,g.se,fun k M hp=>?_⟩
  have:=g.pt k (M++[y9 (zR x)]) ((hp.sub z2).snoc z1)
  rw [List.map_cons,List.append_cons M]
  exact this
def jv (X:Alg × Wa × Nat) (P:List Pr) (j:Nat):Alg × Wa × Nat:=
 if (zbK X.1 X.2.1 0 P).2.2=0 then ((zbK X.1 X.2.1 0 P).1,(zbK X.1 X.2.1 0 P).2.1,j) else (X.1,X.2.1,j)
def PDS (l:List Int) (i:Nat) (P:List Pr) (j:Nat):Prop:=P.length≤2∧(∀ p∈P,PrOk p∧yc p=true)∧Dk l j∧∀ d k,ACall prog 40 [.ptr d [] 0,.lit (.int .i64 2),.lit (.bool true)] k [(d,zy l i)] (.slice none (P.map zU)) [(d,zy l j)]
def zo6 (l:List Int):Nat→(Alg × Wa × Nat)→(Alg × Wa × Nat)→Prop
 | 0,X,R=>R=X
 | n+1,X,R=>∃ P j,PDS l X.2.2 P j∧zo6 l n (jv X P j) R
structure WB (s:Sc) (A:Alg) (w:Wa) (i:Nat):Prop where
 ain:AlgIn A (1000+4 * i)
 ok:AlgOk A
 fr:A.free=s.alg.free
 bx:A.boxes=s.alg.boxes
 sub:∀ e∈s.alg.macs,e∈A.macs
 wc:WaC w
 p0:∃ r,w.ps=s.pass::r
 dd:w.ds=s.grants
 pl:w.ps.length≤1+i
 pk:∀ p∈w.ps,p.cavs.length≤5+2 * i∧∀ c∈p.cavs,PrOk c.first∧wY c
theorem WB.att {s:Sc} {A:Alg} {w:Wa} {i:Nat} (h:WB s A w i) (hi:i≤10) {P:List Pr} (hP:P.length≤2) (hpk:∀ p∈P,PrOk p∧yc p=true):
  NarG A (1000+4 * i) s.pass P (yT A s.pass P)∧zbK A w 0 P=((yT A s.pass P).1,⟨w.ps++[(yT A s.pass P).2.1],w.ds⟩,0):=by
 obtain ⟨r,hr⟩:=h.p0
 have hz:yf w 0=(s.pass,true):=by unfold yf;rw [hr];simp
 have hsp:=h.pk s.pass (by rw [hr];exact List.mem_cons_self ..)
 have g:=jP h.ain h.ok (l:=P) (p:=s.pass) oo oo (fun x hx=>(hpk x hx).2)
 have ha:wW w (yT A s.pass P).2.1=(⟨w.ps++[(yT A s.pass P).2.1],w.ds⟩,0):=by unfold wW;rw [if_pos (by have:=h.pl;omega)]
 refine ⟨g,?_⟩
 unfold zbK
 rw [hz,if_pos rfl]
 simp only
 rw [if_pos g.e0,ha]
 rfl
theorem WB.step {s:Sc} {A:Alg} {w:Wa} {i j0:Nat} (h:WB s A w i) (hi:i≤10) {P:List Pr} (hP:P.length≤2) (hpk:∀ p∈P,PrOk p∧yc p=true) (j:Nat):
  WB s (jv (A,w,j0) P j).1 (jv (A,w,j0) P j).2.1 (i+1):=by
 obtain ⟨g,ha⟩:=h.att hi hP hpk
 have hsp:=h.pk s.pass (by obtain ⟨r,hr⟩:=h.p0;rw [hr];exact List.mem_cons_self ..)
 unfold jv
 simp only
 rw [ha]
 simp only [↓reduceIte]
 have hcv:=g.cv
 have hcl:(yT A s.pass P).2.1.cavs.length≤5+2 * (i+1):=by rw [hcv,List.length_append,List.length_map];omega
 have hcc:∀ c∈(yT A s.pass P).2.1.cavs,PrOk c.first∧wY c:=fun c hc=>by
  rw [hcv] at hc
  rcases List.mem_append.1 hc with hc | hc
  ·exact hsp.2 c hc
  ·obtain ⟨x,hx,rfl⟩:=List.mem_map.1 hc
   exact ⟨(hpk x hx).1,by simp [zR],by simp [zR]⟩
 refine ⟨g.ain.more oo,g.ok,g.fr.trans h.fr,g.bx.trans h.bx,fun e he=>g.sub e (h.sub e he),⟨?_,fun p hp=>?_,h.wc.dl,h.wc.dc⟩,?_,h.dd,?_,fun p hp=>?_⟩
 ·have:=h.pl;simp only [List.length_append,List.length_singleton];omega
 ·rcases List.mem_append.1 hp with hp | hp
  ·exact h.wc.pc p hp
  ·rw [List.mem_singleton.1 hp];exact ⟨by omega,fun c hc=>(hcc c hc).2⟩
 ·obtain ⟨r,hr⟩:=h.p0
  exact ⟨r++[(yT A s.pass P).2.1],by rw [hr];rfl⟩
 ·have:=h.pl;simp only [List.length_append,List.length_singleton];omega
 ·rcases List.mem_append.1 hp with hp | hp
  ·have:=h.pk p hp;exact ⟨by omega,this.2⟩
  ·rw [List.mem_singleton.1 hp];exact ⟨hcl,hcc⟩
theorem zet {l:List Int}:∀ (n:Nat) (X:Alg × Wa × Nat),Dk l X.2.2→∃ R,zo6 l n X R
 | 0,X,_=>⟨X,rfl⟩
 | n+1,X,h=>by
  obtain ⟨P,j,h1,h2,h3,h4⟩:=zbI l X.2.2 h 2 oo true
  have hd:Dk l (jv X P j).2.2:=by
   unfold jv
   split
   ·exact h3
   ·exact h3
  obtain ⟨R,hR⟩:=zet n (jv X P j) hd
  exact ⟨R,P,j,⟨h1,h2,h3,h4⟩,hR⟩
theorem zcL {s:Sc} {l:List Int}:∀ (n:Nat) (X R:Alg × Wa × Nat) (i:Nat),zo6 l n X R→WB s X.1 X.2.1 i→i+n≤10→Dk l X.2.2→WB s R.1 R.2.1 (i+n)∧Dk l R.2.2
 | 0,X,R,i,h,hw,_,hd=>by
  have h:R=X:=h
  subst h
  exact ⟨hw,hd⟩
 | n+1,⟨A,w,j0⟩,R,i,h,hw,hi,hd=>by
  obtain ⟨P,j,⟨h1,h2,h3,h4⟩,hR⟩:=h
  have:=zcL n _ R (i+1) hR (hw.step oo h1 h2 j) oo (by
   unfold jv
   split
   ·exact h3
   ·exact h3)
  rw [show i+(n+1)=i+1+n by omega]
  exact this
theorem WB.first {s:Sc} (hs:ScV s):WB s s.alg ⟨[s.pass],s.grants⟩ 0:=by
 obtain ⟨hp,hd,hgl⟩:=yW hs
 obtain ⟨⟨se,hG,_⟩,_⟩:=hs
 have hcl:=hG.cl
 have hcv:=hG.cv
 simp only at hcl hcv
 exact ⟨hG.ain,hG.ok,rfl,rfl,fun e he=>he,⟨by simp,fun x hx=>by rw [List.mem_singleton.1 hx];exact hp,by simp only;omega,hd⟩,⟨[],rfl⟩,rfl,by simp,fun p hq=>by
  rw [List.mem_singleton.1 hq]
  exact ⟨by omega,fun c hc=>⟨(hcv c hc).2.1,hp.2 c hc⟩⟩⟩
set_option maxHeartbeats 16000000 in
theorem zeu (l:List Int) (hl:l.length≤9223372036854775807):∃ (s:Sc) (A:Alg) (w:Wa) (i j:Nat),ScV s∧WB s A w i∧i≤2∧Dk l j ∧
  ∀ k,ACall prog 11 [.slice none (l.map jI)] k [] (.tup [zbS { s with alg:=A },yp w,.ptr k [] 0]) [(k,zy l j)]:=by
 obtain ⟨s,j0,hs,d0,c2⟩:=zeS l 0 ⟨hl,Nat.zero_le _⟩
 have c1:=zeR l
 have c4:=yV l j0 3 d0 oo oo
 have b4:=y7 l j0 3 oo
 have d4:=yu 3 d0
 generalize yl l j0 3=X at *
 obtain ⟨b,j4⟩:=X
 simp only at c4 b4 d4
 have hK0:=WB.first hs
 obtain ⟨⟨Af,wf,jf⟩,hrun⟩:=zet (l:=l) b (s.alg,⟨[s.pass],s.grants⟩,j4) d4
 have hall:=zcL b _ _ 0 hrun hK0 oo d4
 simp only at hall
 refine ⟨s,Af,wf,0+b,jf,hs,hall.1,by omega,hall.2,fun k=>?_⟩
 clear hall
 have hsA:∀ A:Alg,zbS { s with alg:=A }=.agg [zA A,zbF s.ring,xW s.con,zG s.pass,.slice none (s.grants.map zw),yD s.req,.lit (.string ⟨s.holder.toArray⟩),.lit (.int .i64 s.minute)]:=fun A=>rfl
 have hs0:zbS s=.agg [zA s.alg,zbF s.ring,xW s.con,zG s.pass,.slice none (s.grants.map zw),yD s.req,.lit (.string ⟨s.holder.toArray⟩),.lit (.int .i64 s.minute)]:=rfl
 rw [hs0] at c2
 rw [hsA]
 have hwA:yp ⟨[s.pass],s.grants⟩=.agg [.slice none [zG s.pass],.slice none (s.grants.map zw)]:=rfl
 clear hs0 hsA
 refine Bd func11 ntmps11 fun σ N hp hpn hk hkn hfree=>?_
 have hcs:=And.intro c1 (And.intro (c2 (N+3+1)) (And.intro (c4 (N+3+1)) True.intro))
 clear c1 c2 c4
 refine Wk ?_
 clear hcs
 refine wl (bt:=25) (N+10+6) [0] (.slice none [zG s.pass]) (c:=.agg [.slice (some (N+10+2)) [zG s.pass],.slice none (s.grants.map zw)]) (by simp (disch:=omega) [go_sem, *,-List.reduceReplicate];try first | done | rfl | exact ⟨rfl,rfl⟩) (by rfl) (AV.le_own _ _) (by rfl) (by rfl) ?_
 refine ze zi (by kernel_rfl) [8,9,10,11,24,25,26,27,28,29,30,31,32,33,34,35,36,37,38,39,40,41,42] [N+3+1,N+6+2,N+10+6] (fun m_ s_ σ_ n_=>∃ (n:Nat) (i:Nat) (A:Alg) (w:Wa) (j:Nat),m_=n∧s_ 8=.lit (.int .i64 n)∧σ_ (N+3+1)=zy l j∧σ_ (N+6+2)=.box 51 (.agg [zA A,zbF s.ring,xW s.con,zG s.pass,.slice none (s.grants.map zw),yD s.req,.lit (.string ⟨s.holder.toArray⟩),.lit (.int .i64 s.minute)])∧σ_ (N+10+6)=.box 25 (yp w)∧(n≤4)∧(i+n≤4)∧(WB s A w i)∧(Dk l j)∧(zo6 l n (A,w,j) (Af,wf,jf))) ⟨_,b,0,s.alg,⟨[s.pass],s.grants⟩,j4,rfl,WF,WF,WF,WF,WC,WC,WC,WC,WC⟩ ?_
 intro m_3 s_3 σ_3 n_3 hs_3 hf_3 hn_3 hI_3
 obtain ⟨n,i,A,w,j,hm_3,h3_8,e3_0,e3_1,e3_2,hn,hi,hK,hj,hrun⟩:=hI_3
 have h3_2:=KS hs_3 2
 have h3_3:=KS hs_3 3
 have h3_4:=KS hs_3 4
 have h3_5:=KS hs_3 5
 have h3_6:=KS hs_3 6
 have h3_7:=KS hs_3 7
 have k3_0:=KE hf_3 (N)
 have k3_1:=KE hf_3 (N+1)
 have hlow:=KL (N:=N) (σ:=σ) hf_3
 cases n with
 | zero=>
  have hrun:(Af,wf,jf)=(A,w,j):=hrun
  simp only [Prod.mk.injEq] at hrun
  obtain ⟨rfl,rfl,rfl⟩:=hrun
  clear hK hs hK0
  refine Wk ?_
  refine zQ (r0:=N+3+1) (by simp (disch:=omega) [go_sem, *,-List.reduceReplicate];rfl) oo (by simp (disch:=omega) [go_sem];try rfl) (fun id hid=>by simp (disch:=omega) only [zg];try exact hlow id hid) (by simp (disch:=omega) [go_sem, *,-List.reduceReplicate];rfl) (by simp (disch:=omega) [go_sem])
 | succ n=>
  have h0n:(0:Int) < ((n+1:Nat):Int):=by omega
  have hnm:((n+1:Nat):Int) - 1=(n:Int):=by omega
  obtain ⟨P,j5,⟨p1,p2,p3,p4⟩,hrun⟩:=hrun
  have hst:=hK.step (j0:=j) oo p1 p2 j5
  have c6:=zbY A (1000+4 * i) hK.ain w (by have:=hK.pl;omega) (fun p hp=>by have:=(hK.pk p hp).1;omega) 0 P oo oo (fun x hx=>(p2 x hx).1)
  have he0:(zbK A w 0 P).2.2=0:=by rw [(hK.att oo p1 p2).2]
  unfold jv at hst hrun
  simp only at hst hrun
  unfold ze9 at c6
  generalize zbK A w 0 P=Z at *
  obtain ⟨A2,w2,e2⟩:=Z
  simp only at c6 hst hrun he0
  subst he0
  simp only [↓reduceIte] at hst hrun
  clear hs hK hK0
  have hcs:=And.intro (p4 (N+3+1)) (And.intro c6 True.intro)
  clear p4 c6
  refine Wk ?_
  clear hcs
  exact ⟨WS,WG,WN,_,(show (n) < m_3 by omega),n,i+1,A2,w2,j5,rfl,WF,WF,WF,WF,WC,WC,WC,WC,WC⟩
end
end Go.Proofs.YtglmjglbobhbbaaGreatDoor
namespace Go.Proofs.YtglmjglbobhbbaaGreatDoor
open _root_.Go.Proofs.Tryz
open Go.Ab
attribute [local irreducible] Go.Ab.tyAV Go.Ab.aw Go.Ab.aops Go.Ab.kReg Go.Ab.aThen Go.Ab.aBlk Go.Ab.acond Go.Ab.aguard Go.Ab.astep Go.Ab.AStepX Go.Ab.aRet
theorem zr7 {a:Int} (h:(Lit.int .u64 a).wf=true):0≤a∧a < 18446744073709551616:=by
 have hw:IntKind.u64.min≤a∧a≤IntKind.u64.max:=by simpa [Lit.wf] using h
 have e1:IntKind.u64.min=0:=by decide
 have e2:IntKind.u64.max=18446744073709551615:=by decide
 omega
theorem zkz {m:Nat} {x:AV} (h:tyAV prog (m+2) 138 x):∃ p:Pr,PrOk p∧x=zU p:=by
 obtain ⟨xs,rfl,h1,h2⟩:=xY underlying138 h
 obtain ⟨a,b,c,d,e,f,rfl⟩:∃ a b c d e f,xs=[a,b,c,d,e,f]:=by
  match xs,h1 with
  | [a,b,c,d,e,f],_=>exact ⟨a,b,c,d,e,f,rfl⟩
 obtain ⟨v1,_,rfl⟩:=vv it3 (h2 0 _ _ rfl rfl)
 obtain ⟨v2,w2,rfl⟩:=vv zsI (h2 1 _ _ rfl rfl)
 obtain ⟨v3,_,rfl⟩:=vv it3 (h2 2 _ _ rfl rfl)
 obtain ⟨v4,_,rfl⟩:=vv it3 (h2 3 _ _ rfl rfl)
 obtain ⟨v5,w5,rfl⟩:=zj5 st9 (h2 4 _ _ rfl rfl)
 obtain ⟨v6,_,rfl⟩:=vv it3 (h2 5 _ _ rfl rfl)
 exact ⟨⟨v1,v2,v3,v4,v5,v6⟩,⟨(zr7 w2).1,(zr7 w2).2,w5⟩,rfl⟩
structure DiW (d:Di):Prop where
 tl:d.ticket.length≤140737488351232
 cl:d.conds.length≤9223372036854775807
 ok:∀ p∈d.conds,PrOk p
def CaW (c:Ca):Prop:=PrOk c.first∧wY c
theorem zhk {m:Nat} {x:AV} (h:tyAV prog (m+4) 140 x):∃ c:Ca,CaW c∧x=z8 c:=by
 obtain ⟨ys,rfl,h3,h4⟩:=xY underlying140 h
 obtain ⟨a,b,c,d,e,rfl⟩:∃ a b c d e,ys=[a,b,c,d,e]:=by
  match ys,h3 with
  | [a,b,c,d,e],_=>exact ⟨a,b,c,d,e,rfl⟩
 obtain ⟨v1,rfl⟩:=zoN bt4 (h4 0 _ _ rfl rfl)
 obtain ⟨v2,w2,rfl⟩:=zkz (h4 1 _ _ rfl rfl)
 obtain ⟨v3,_,rfl⟩:=vv it3 (h4 2 _ _ rfl rfl)
 obtain ⟨v4,w4,rfl⟩:=ja ztk by5 (by kernel_rfl) (h4 3 _ _ rfl rfl)
 obtain ⟨v5,w5,rfl⟩:=ja ztk by5 (by kernel_rfl) (h4 4 _ _ rfl rfl)
 exact ⟨⟨v1,v2,v3,v4,v5⟩,⟨w2,w4,w5⟩,rfl⟩
structure PaW (p:Pa):Prop where
 cl:p.cavs.length≤9223372036854775807
 ok:∀ c∈p.cavs,CaW c
theorem zlQ {x:AV} (h:tyAV prog 8 30 x):∃ p:Pa,PaW p∧x=zG p:=by
 obtain ⟨ys,rfl,h3,h4⟩:=xY underlying30 h
 obtain ⟨a,b,c,d,rfl⟩:∃ a b c d,ys=[a,b,c,d]:=by
  match ys,h3 with
  | [a,b,c,d],_=>exact ⟨a,b,c,d,rfl⟩
 obtain ⟨v1,_,rfl⟩:=vv it3 (h4 0 _ _ rfl rfl)
 obtain ⟨v2,_,rfl⟩:=vv it3 (h4 1 _ _ rfl rfl)
 obtain ⟨v3,⟨w3,w3'⟩,rfl⟩:=jb zwG (fun y hy=>zhk hy) (h4 2 _ _ rfl rfl)
 obtain ⟨v4,_,rfl⟩:=zcR zqx by5 (h4 3 _ _ rfl rfl)
 exact ⟨⟨v1,v2,v3,v4⟩,⟨w3,w3'⟩,rfl⟩
theorem ziC {P:Program} {α:Type} {R:α→Prop} {f:α→AV} {m b:Nat} {t e:TypeId} {x:AV} (ht:zT P t=some e) (hb:P.bytesOf e=b) (he:∀ y,tyAV P m e y→∃ d,R d∧y=f d) (h:tyAV P (m+1) t x):∃ l:List α,(l.length * b≤140737488351232∧∀ d∈l,R d)∧x=.slice none (l.map f):=by
 obtain ⟨xs,h1,h2,rfl,h0⟩:=zcy ht h
 obtain ⟨l,h3,h4,h5⟩:=xF fun y hy=>he y (h2 y hy)
 rw [hb] at h0
 exact ⟨l,⟨by rw [h5];exact h0,h3⟩,by rw [h4]⟩
theorem zdy {m:Nat} {x:AV} (h:tyAV prog (m+4) 34 x):∃ b:Di,(WdT b.ticket b.conds∧∀ p∈b.conds,PrOk p)∧x=zw b:=by
 obtain ⟨ys,rfl,h3,h4⟩:=xY underlying34 h
 obtain ⟨a,b,c,rfl⟩:∃ a b c,ys=[a,b,c]:=by
  match ys,h3 with
  | [a,b,c],_=>exact ⟨a,b,c,rfl⟩
 obtain ⟨v1,w1,rfl⟩:=ja ztk by5 (by kernel_rfl) (h4 0 _ _ rfl rfl)
 obtain ⟨v2,⟨w2,w3⟩,rfl⟩:=ziC zwH (b:=56) (by kernel_rfl) (fun y hy=>zkz hy) (h4 1 _ _ rfl rfl)
 obtain ⟨v3,_,rfl⟩:=zcR zqx by5 (h4 2 _ _ rfl rfl)
 exact ⟨⟨v1,v2,v3⟩,⟨⟨w1,w2⟩,w3⟩,rfl⟩
theorem zrK {m:Nat} {x:AV} (h:tyAV prog (m+6) 30 x):∃ p:Pa,PaW p∧x=zG p:=by
 obtain ⟨ys,rfl,h3,h4⟩:=xY underlying30 h
 obtain ⟨a,b,c,d,rfl⟩:∃ a b c d,ys=[a,b,c,d]:=by
  match ys,h3 with
  | [a,b,c,d],_=>exact ⟨a,b,c,d,rfl⟩
 obtain ⟨v1,_,rfl⟩:=vv it3 (h4 0 _ _ rfl rfl)
 obtain ⟨v2,_,rfl⟩:=vv it3 (h4 1 _ _ rfl rfl)
 obtain ⟨v3,⟨w3,w3'⟩,rfl⟩:=jb zwG (fun y hy=>zhk hy) (h4 2 _ _ rfl rfl)
 obtain ⟨v4,_,rfl⟩:=zcR zqx by5 (h4 3 _ _ rfl rfl)
 exact ⟨⟨v1,v2,v3,v4⟩,⟨w3,w3'⟩,rfl⟩
structure BuWd (b:Bu):Prop where
 cl:b.cavs.length≤9223372036854775807
 cs:∀ c∈b.cavs,CaW c
 dl:b.dis.length≤9223372036854775807
 ds:∀ d∈b.dis,WdT d.ticket d.conds∧∀ p∈d.conds,PrOk p
theorem zkl {x:AV} (h:tyAV prog 8 34 x):∃ b:Di,(WdT b.ticket b.conds∧∀ p∈b.conds,PrOk p)∧x=zw b:=zdy h
structure KnW (q:Kn):Prop where
 pl:q.ps.length≤9223372036854775807
 ps:∀ p∈q.ps,PaW p
 dl:q.ds.length≤9223372036854775807
 ds:∀ d∈q.ds,WdT d.ticket d.conds∧∀ p∈d.conds,PrOk p
 bl:q.bs.length≤9223372036854775807
 bs:∀ b∈q.bs,BuWd b
 il:q.its.length≤9223372036854775807
 its:∀ x∈q.its,x.box.length≤140737488351232
attribute [local irreducible] yE
structure WaW (w:Wa):Prop where
 pl:w.ps.length≤9223372036854775807
 ps:∀ p∈w.ps,PaW p
 dl:w.ds.length≤9223372036854775807
 ds:∀ d∈w.ds,WdT d.ticket d.conds∧∀ p∈d.conds,PrOk p
theorem zoR {x:AV} (h:tyAV prog 8 25 x):∃ b:Wa,WaW b∧x=yp b:=by
 obtain ⟨xs,rfl,h1,h2⟩:=xY underlying25 h
 obtain ⟨a,b,rfl⟩:∃ a b,xs=[a,b]:=by
  match xs,h1 with
  | [a,b],_=>exact ⟨a,b,rfl⟩
 obtain ⟨v1,⟨w1,w1'⟩,rfl⟩:=jb sl22 (fun y hy=>zrK hy) (h2 0 _ _ rfl rfl)
 obtain ⟨v2,⟨w2,w2'⟩,rfl⟩:=jb sl23 (fun y hy=>zdy hy) (h2 1 _ _ rfl rfl)
 exact ⟨⟨v1,v2⟩,⟨w1,w1',w2,w2'⟩,rfl⟩
theorem WaW.c {w:Wa} (h:WaW w) (f:FewW w):WaC w:=⟨by have:=f.pl;omega,fun p hp=>⟨by have:=f.p p hp;omega,fun c hc=>((h.ps p hp).ok c hc).2⟩,by have:=f.dl;omega,fun d hd=>(h.ds d hd).1⟩
theorem zfH {w:Wa} (h:WaC w) {n:Nat} (hn:n≤1000):WaC (zcl w n):=by
 obtain ⟨a1,a2⟩:=kM (Q:=PaC) (fun s=>⟨by simp,fun c hc=>by cases hc⟩) (n - w.ps.length) w.ps h.pc
 obtain ⟨b1,b2⟩:=kL (Q:=fun d=>WdT d.ticket d.conds) (fun s=>⟨by simp [tkD],by simp⟩) (n - w.ds.length) w.ds h.dc
 have h1:=h.pl
 have h2:=h.dl
 unfold zcl
 exact ⟨by simp only;rw [a2];omega,a1,by simp only;rw [b2];omega,b1⟩
section
variable [W:W32]
theorem ziI (raw:Wa) (hraw:WaW raw) (p:Pa) (y:Di) (xs:List Int) (i:Int) (n:Nat) (hout:¬ (FewW raw∧p.cavs.length≤70)) (g h:Nat) (hgh:g≠h) (k:Nat):
  ACall prog 3 [yp raw,zG p,zw y,.slice none (xs.map jI),.lit (.int .i64 i),.lit (.int .u8 n)] k [(g,yE),(h,zS)] (.lit (.bool true)) []:=by
 have c9:=jZ g h hgh
 have hpA:zG p=.agg [.lit (.int .i64 p.epoch),.lit (.int .i64 p.serial),.slice none (p.cavs.map z8),zd p.tag]:=rfl
 rw [hpA]
 clear hpA
 by_cases h0:FewW raw
 ·have c1:=zhs raw hraw.pl true ⟨fun _=>h0,fun _=>rfl⟩
  have h1:¬ p.cavs.length≤70:=fun h1=>hout ⟨h0,h1⟩
  have h1i:(70:Int) < (p.cavs.length:Int):=by omega
  clear hout h0 hraw
  refine Bd func3 ntmps3 fun σ N hp hpn hk hkn hfree=>?_
  simp only [List.mem_cons,List.not_mem_nil,or_false,forall_eq_or_imp,forall_eq] at hp hpn;obtain ⟨hd1,hd2⟩:=hp;obtain ⟨hdn1,hdn2⟩:=hpn
  have hcs:=And.intro c1 (And.intro c9 True.intro)
  clear c1 c9
  exact W0
 ·have c1:=zhs raw hraw.pl false ⟨fun h=>(by cases h),fun h=>absurd h h0⟩
  clear hout h0 hraw
  refine Bd func3 ntmps3 fun σ N hp hpn hk hkn hfree=>?_
  simp only [List.mem_cons,List.not_mem_nil,or_false,forall_eq_or_imp,forall_eq] at hp hpn;obtain ⟨hd1,hd2⟩:=hp;obtain ⟨hdn1,hdn2⟩:=hpn
  have hcs:=And.intro c1 (And.intro c9 True.intro)
  clear c1 c9
  exact W0
set_option maxHeartbeats 16000000 in
theorem zkg (raw:Wa) (hraw:WaW raw) (p:Pa) (hp:PaW p) (y:Di) (hy:WdT y.ticket y.conds) (xs:List Int) (hxs:xs.length≤9223372036854775807) (i:Int) (n:Nat) (hn:n < 256)
  (h0:FewW raw) (h1:p.cavs.length≤70) (g h:Nat) (hgh:g≠h) (k:Nat):
  ACall prog 3 [yp raw,zG p,zw y,.slice none (xs.map jI),.lit (.int .i64 i),.lit (.int .u8 n)] k [(g,yE),(h,zS)] (.lit (.bool true)) []:=by
 have c9:=jZ g h hgh
 have c1:=zhs raw hraw.pl true ⟨fun _=>h0,fun _=>rfl⟩
 obtain ⟨s,A,w,i0,j,hs,hK,hi0,hj,c2⟩:=zeu xs hxs
 have hwc:=hK.wc
 have hwp:=hK.pl
 have hwd:w.ds.length≤5:=by rw [hK.dd];exact (yW hs).2.2
 have hrc:WaC raw:=hraw.c h0
 have hpc:PaC p:=⟨by omega,fun c hc=>(hp.ok c hc).2⟩
 have h1i:¬ (70:Int) < (p.cavs.length:Int):=by omega
 have hpA:zG p=.agg [.lit (.int .i64 p.epoch),.lit (.int .i64 p.serial),.slice none (p.cavs.map z8),zd p.tag]:=rfl
 have hwA:yp w=.agg [.slice none (w.ps.map zG),.slice none (w.ds.map zw)]:=rfl
 have hwm:(n:Int).tmod 5=((n % 5:Nat):Int):=by rw [Int.tmod_eq_emod_of_nonneg oo];omega
 have hwn:IntKind.i64.wrap (n:Int)=n:=wrap_i64 oo oo
 have hn4:n % 5 < 5:=Nat.mod_lt _ (by decide)
 generalize hm:n % 5=m at *
 clear hm
 have c3:=zfG w hwc.pl hwc.dl (29+m) oo
 have hfc:=zfH hwc (n:=29+m) oo
 generalize zcl w (29+m)=F at *
 have hmc:((29+m:Nat):Int)=29+(m:Int):=by omega
 rw [hmc] at c3
 have hw29:IntKind.i64.wrap (29+(m:Int))=29+(m:Int):=wrap_i64 oo oo
 have c4:=yV xs j 5 hj oo oo
 generalize yl xs j 5=X at *
 obtain ⟨b,j4⟩:=X
 simp only at c4
 obtain ⟨L3,hL3⟩:∃ L3:List Wa,L3=[w,raw,F]:=⟨_,rfl⟩
 have hl3:L3.length=3:=by rw [hL3];rfl
 have hle:∀ r,AV.le (.slice (some r) [.agg [.slice none (w.ps.map zG),.slice none (w.ds.map zw)],yp raw,yp F]) (.slice none (L3.map yp)):=fun r=>by rw [hL3];exact AV.le_own _ _
 have hall:∀ z∈L3,WaC z:=fun z hz=>by
  rw [hL3] at hz
  simp only [List.mem_cons,List.not_mem_nil,or_false] at hz
  rcases hz with rfl | rfl | rfl
  ·exact hwc
  ·exact hrc
  ·exact hfc
 obtain ⟨YL,hYL⟩:∃ YL:List Di,YL=y::w.ds:=⟨_,rfl⟩
 have hly:YL.length=w.ds.length+1:=by rw [hYL];rfl
 have hleY:∀ r,AV.le (.slice (some r) (zw y::w.ds.map zw)) (.slice none (YL.map zw)):=fun r=>by rw [hYL];exact AV.le_own _ _
 have hallY:∀ z∈YL,WdT z.ticket z.conds:=fun z hz=>by
  rw [hYL] at hz
  rcases List.mem_cons.1 hz with rfl | hz
  ·exact hy
  ·exact hwc.dc z hz
 obtain ⟨JL,hJL⟩:∃ JL:List Int,JL=[i,(b:Int)]:=⟨_,rfl⟩
 have hlj:JL.length=2:=by rw [hJL];rfl
 have hleJ:∀ r,AV.le (.slice (some r) [.lit (.int .i64 i),.lit (.int .i64 b)]) (.slice none (JL.map jI)):=fun r=>by rw [hJL];exact AV.le_own _ _
 rw [hwA] at c2 c3
 clear hraw h0 hs hK hj hp hJL hYL hL3 hrc hfc hn hn4
 rw [hpA]
 refine Bd func3 ntmps3 fun σ N hp hpn hk hkn hfree=>?_
 simp only [List.mem_cons,List.not_mem_nil,or_false,forall_eq_or_imp,forall_eq] at hp hpn;obtain ⟨hd1,hd2⟩:=hp;obtain ⟨hdn1,hdn2⟩:=hpn
 have hcs:=And.intro c1 (And.intro c2 (And.intro c3 (And.intro (c4 (N+13+1)) True.intro)))
 clear c1 c2 c3 c4
 refine Wk ?_
 clear hcs
 refine jB 57 (by simp (disch:=omega) [go_sem, *];try rfl) (hle _) ?_
 clear hle
 refine ze zi (by kernel_rfl) (12::19::20::21::22::23::25::27::28::29::59::60::61::62::63::64::65::66::67::68::69::70::71::72::73::74::75::76::77::78::79::80::81::82::83::84::85::86::87::88::89::90::91::92::93::94::95::96::97::98::99::100::101::102::103::104::105::106::107::108::109::110::111::112::113::114::115::116::117::118::119::120::121::122::123::124::125::126::127::128::129::130::131::132::133::134::135::136::137::138::139::140::141::142::143::144::145::146::147::148::149::150::151::152::153::154::155::156::157::158::159::160::[]) [] (fun m_ s_ σ_ n_=>∃ (v:Nat),m_=3 - v∧s_ 59=.lit (.int .i64 v)∧(v≤3)) ⟨_,0,rfl,WF,WC⟩ ?_
 intro m_1 s_1 σ_1 n_1 hs_1 hf_1 hn_1 hI_1
 obtain ⟨v,hm_1,h1_59,hv⟩:=hI_1
 have h1_4:=KS hs_1 4
 have h1_7:=KS hs_1 7
 have h1_8:=KS hs_1 8
 have h1_14:=KS hs_1 14
 have h1_17:=KS hs_1 17
 have h1_57:=KS hs_1 57
 have h1_58:=KS hs_1 58
 have k1_0:=KE hf_1 (N)
 have k1_1:=KE hf_1 (N+1)
 have k1_2:=KE hf_1 (N+2)
 have k1_3:=KE hf_1 (N+13+6)
 have k1_4:=KE hf_1 (N+13+7)
 have k1_5:=KE hf_1 (N+23+6)
 have k1_6:=KE hf_1 (g)
 have k1_7:=KE hf_1 (h)
 have hlow:=KL (N:=N) (σ:=σ) hf_1
 by_cases hvl:v=3
 ·subst hvl
  clear hall hleY hleJ hallY
  have hcs:=And.intro c9 True.intro
  clear c9
  exact W0
 ·have hv1:v < L3.length:=by omega
  obtain ⟨z,hz⟩:∃ z,L3[v]=z:=⟨_,rfl⟩
  have hzc:=hall z (by rw [← hz];exact List.getElem_mem _)
  have hzm:(L3.map yp)[v]?=some (yp z):=by rw [List.getElem?_map,List.getElem?_eq_getElem hv1,hz];rfl
  have e1:=qc z hzc p hpc
  have e2:=zah z p
  have e3:=jU _ (zff hzc hpc)
  generalize wW z p=X1 at *
  obtain ⟨X1,E1⟩:=X1
  rw [hpA] at e1 e2
  simp only at e1 e2 e3
  clear hall c9
  have hcs:=And.intro e1 (And.intro e2 (And.intro e3 True.intro))
  clear e1 e2 e3
  refine Wk ?_
  clear hcs
  refine jB 88 (by simp (disch:=omega) [go_sem, *];try rfl) (hleY _) ?_
  clear hleY
  refine ze zi (by kernel_rfl) [12,21,23,25,90,91,92,93,94,95,96,97,98,99,100,101,102,103,104,105,106,107,108,109,110,111,112,113,114,115] [n_1+5+6,n_1+14+6] (fun m_ s_ σ_ n_=>∃ (u:Nat) (A1:Wa) (B1:Wa),m_=YL.length - u∧s_ 90=.lit (.int .i64 u)∧σ_ (n_1+5+6)=.box 25 (yp A1)∧σ_ (n_1+14+6)=.box 25 (yp B1)∧(u≤YL.length)) ⟨_,0,X1,X1,rfl,WF,WF,WF,WC⟩ ?_
  intro m_2 s_2 σ_2 n_2 hs_2 hf_2 hn_2 hI_2
  obtain ⟨u,A1,B1,hm_2,h2_90,e2_0,e2_1,hu⟩:=hI_2
  have h2_4:=KS hs_2 4
  have h2_7:=KS hs_2 7
  have h2_8:=KS hs_2 8
  have h2_14:=KS hs_2 14
  have h2_17:=KS hs_2 17
  have h2_19:=KS hs_2 19
  have h2_20:=KS hs_2 20
  have h2_22:=KS hs_2 22
  have h2_57:=KS hs_2 57
  have h2_58:=KS hs_2 58
  have h2_59:=KS hs_2 59
  have h2_60:=KS hs_2 60
  have h2_61:=KS hs_2 61
  have h2_62:=KS hs_2 62
  have h2_63:=KS hs_2 63
  have h2_64:=KS hs_2 64
  have h2_65:=KS hs_2 65
  have h2_66:=KS hs_2 66
  have h2_67:=KS hs_2 67
  have h2_68:=KS hs_2 68
  have h2_69:=KS hs_2 69
  have h2_70:=KS hs_2 70
  have h2_71:=KS hs_2 71
  have h2_72:=KS hs_2 72
  have h2_73:=KS hs_2 73
  have h2_74:=KS hs_2 74
  have h2_75:=KS hs_2 75
  have h2_76:=KS hs_2 76
  have h2_77:=KS hs_2 77
  have h2_78:=KS hs_2 78
  have h2_79:=KS hs_2 79
  have h2_80:=KS hs_2 80
  have h2_81:=KS hs_2 81
  have h2_82:=KS hs_2 82
  have h2_83:=KS hs_2 83
  have h2_84:=KS hs_2 84
  have h2_85:=KS hs_2 85
  have h2_86:=KS hs_2 86
  have h2_87:=KS hs_2 87
  have h2_88:=KS hs_2 88
  have h2_89:=KS hs_2 89
  have k2_0:=KE hf_2 (N)
  have k2_1:=KE hf_2 (N+1)
  have k2_2:=KE hf_2 (N+2)
  have k2_3:=KE hf_2 (N+13+6)
  have k2_4:=KE hf_2 (N+13+7)
  have k2_5:=KE hf_2 (N+23+6)
  have k2_6:=KE hf_2 (n_1+1+2)
  have k2_7:=KE hf_2 (g)
  have k2_8:=KE hf_2 (h)
  have hlow:=KL (N:=N) (σ:=σ) hf_2
  by_cases hul:u=YL.length
  ·subst hul
   clear hallY
   refine Wk ?_
   refine jB 118 (by simp (disch:=omega) [go_sem, *];try rfl) (hleJ _) ?_
   clear hleJ
   refine ze zi (by kernel_rfl) [12,21,23,27,28,29,120,121,122,123,124,125,126,127,128,129,130,131,132,133,134,135,136,137,138,139,140,141,142,143,144,145,146,147,148,149,150,151,152,153,154,155,156,157,158,159] [n_1+5+6,n_1+14+6] (fun m_ s_ σ_ n_=>∃ (q:Nat) (A1:Wa) (B1:Wa),m_=2 - q∧s_ 120=.lit (.int .i64 q)∧σ_ (n_1+5+6)=.box 25 (yp A1)∧σ_ (n_1+14+6)=.box 25 (yp B1)∧(q≤2)) ⟨_,0,A1,B1,rfl,WF,WF,WF,WC⟩ ?_
   intro m_3 s_3 σ_3 n_3 hs_3 hf_3 hn_3 hI_3
   obtain ⟨q,A1,B1,hm_3,h3_120,e3_0,e3_1,hq⟩:=hI_3
   have h3_4:=KS hs_3 4
   have h3_7:=KS hs_3 7
   have h3_8:=KS hs_3 8
   have h3_14:=KS hs_3 14
   have h3_17:=KS hs_3 17
   have h3_19:=KS hs_3 19
   have h3_20:=KS hs_3 20
   have h3_22:=KS hs_3 22
   have h3_25:=KS hs_3 25
   have h3_57:=KS hs_3 57
   have h3_58:=KS hs_3 58
   have h3_59:=KS hs_3 59
   have h3_60:=KS hs_3 60
   have h3_61:=KS hs_3 61
   have h3_62:=KS hs_3 62
   have h3_63:=KS hs_3 63
   have h3_64:=KS hs_3 64
   have h3_65:=KS hs_3 65
   have h3_66:=KS hs_3 66
   have h3_67:=KS hs_3 67
   have h3_68:=KS hs_3 68
   have h3_69:=KS hs_3 69
   have h3_70:=KS hs_3 70
   have h3_71:=KS hs_3 71
   have h3_72:=KS hs_3 72
   have h3_73:=KS hs_3 73
   have h3_74:=KS hs_3 74
   have h3_75:=KS hs_3 75
   have h3_76:=KS hs_3 76
   have h3_77:=KS hs_3 77
   have h3_78:=KS hs_3 78
   have h3_79:=KS hs_3 79
   have h3_80:=KS hs_3 80
   have h3_81:=KS hs_3 81
   have h3_82:=KS hs_3 82
   have h3_83:=KS hs_3 83
   have h3_84:=KS hs_3 84
   have h3_85:=KS hs_3 85
   have h3_86:=KS hs_3 86
   have h3_87:=KS hs_3 87
   have h3_88:=KS hs_3 88
   have h3_89:=KS hs_3 89
   have h3_90:=KS hs_3 90
   have h3_91:=KS hs_3 91
   have h3_92:=KS hs_3 92
   have h3_93:=KS hs_3 93
   have h3_94:=KS hs_3 94
   have h3_95:=KS hs_3 95
   have h3_96:=KS hs_3 96
   have h3_97:=KS hs_3 97
   have h3_98:=KS hs_3 98
   have h3_99:=KS hs_3 99
   have h3_100:=KS hs_3 100
   have h3_101:=KS hs_3 101
   have h3_102:=KS hs_3 102
   have h3_103:=KS hs_3 103
   have h3_104:=KS hs_3 104
   have h3_105:=KS hs_3 105
   have h3_106:=KS hs_3 106
   have h3_107:=KS hs_3 107
   have h3_108:=KS hs_3 108
   have h3_109:=KS hs_3 109
   have h3_110:=KS hs_3 110
   have h3_111:=KS hs_3 111
   have h3_112:=KS hs_3 112
   have h3_113:=KS hs_3 113
   have h3_114:=KS hs_3 114
   have h3_115:=KS hs_3 115
   have h3_116:=KS hs_3 116
   have h3_117:=KS hs_3 117
   have h3_118:=KS hs_3 118
   have h3_119:=KS hs_3 119
   have k3_0:=KE hf_3 (N)
   have k3_1:=KE hf_3 (N+1)
   have k3_2:=KE hf_3 (N+2)
   have k3_3:=KE hf_3 (N+13+6)
   have k3_4:=KE hf_3 (N+13+7)
   have k3_5:=KE hf_3 (N+23+6)
   have k3_6:=KE hf_3 (n_1+1+2)
   have k3_7:=KE hf_3 (g)
   have k3_8:=KE hf_3 (h)
   have hlow:=KL (N:=N) (σ:=σ) hf_3
   by_cases hql:q=2
   ·subst hql
    clear hzc hwc
    refine Wk ?_
    exact ⟨WS,WG,WN,_,(show 3 - (v+1) < m_1 by omega),v+1,rfl,WF,WC⟩
   ·have hq1:q < JL.length:=by omega
    obtain ⟨t,ht⟩:∃ t,JL[q]=t:=⟨_,rfl⟩
    have htm:(JL.map jI)[q]?=some (.lit (.int .i64 t)):=by rw [List.getElem?_map,List.getElem?_eq_getElem hq1,ht];rfl
    have e1:=we z hzc t
    have e2:=kD z hzc t
    have e3:=jU ⟨[],zbr z t⟩ ⟨by simp,fun p hp=>(by cases hp),by have:=kK (w:=z) t;have:=hzc.dl;simp only;omega,zdj hzc.dc t⟩
    have e4:=zaT w z hwc hzc t
    have e5:=zou w z hwc hzc t
    have e6:=jU _ (zuw hwc hzc t)
    have hmA:yp ⟨[],zbr z t⟩=.agg [.slice none [],.slice none ((zbr z t).map zw)]:=rfl
    rw [hmA] at e3
    rw [hwA] at e4 e5
    generalize zbr z t=M at *
    generalize zcA w z t=G at *
    obtain ⟨G1,G2⟩:=G
    simp only at e4 e5 e6
    clear hzc hwc hmA hwA hpc hpA
    have hcs:=And.intro e1 (And.intro e2 (And.intro e3 (And.intro e4 (And.intro e5 (And.intro e6 True.intro)))))
    clear e1 e2 e3 e4 e5 e6
    refine Wk ?_
    clear hcs
    exact ⟨WS,WG,WN,_,(show 2 - (q+1) < m_3 by omega),q+1,G1,G1,rfl,WF,WF,WF,WC⟩
  ·have hu1:u < YL.length:=by omega
   obtain ⟨t,ht⟩:∃ t,YL[u]=t:=⟨_,rfl⟩
   have htc:=hallY t (by rw [← ht];exact List.getElem_mem _)
   have htm:(YL.map zw)[u]?=some (zw t):=by rw [List.getElem?_map,List.getElem?_eq_getElem hu1,ht];rfl
   have e1:=zbV z hzc t htc
   have e2:=zjL z hzc t htc
   have e3:=jU _ (zes hzc htc)
   generalize wL z t=K1 at *
   obtain ⟨K1,E2⟩:=K1
   simp only at e1 e2 e3
   clear hzc hwc hwA hpc hpA hallY htc hleJ
   have hcs:=And.intro e1 (And.intro e2 (And.intro e3 True.intro))
   clear e1 e2 e3
   refine Wk ?_
   clear hcs
   exact ⟨WS,WG,WN,_,(show YL.length - (u+1) < m_2 by omega),u+1,K1,K1,rfl,WF,WF,WF,WC⟩
end
theorem zid (raw:Wa) (hraw:WaW raw) (p:Pa) (hp:PaW p) (y:Di) (hy:WdT y.ticket y.conds∧∀ p∈y.conds,PrOk p) (xs:List Int) (_:∀ n∈xs,(Lit.int .i64 n).wf=true) (hxs:xs.length≤9223372036854775807) (i:Int) (n:Int) (w:(Lit.int .u8 n).wf=true) (g h:Nat) (hgh:g≠h) (k:Nat):
  ACall prog 3 [yp raw,zG p,zw y,.slice none (xs.map jI),.lit (.int .i64 i),.lit (.int .u8 n)] k [(g,yE),(h,zS)] (.lit (.bool true)) []:=by
 obtain ⟨c,_,rfl⟩:=kB w
 by_cases hh:FewW raw∧p.cavs.length≤70
 ·exact @zkg w32 raw hraw p hp y hy.1 xs hxs i c.toNat (by have:=c.toNat_lt;omega) hh.1 hh.2 g h hgh k
 ·exact @ziI w32 raw hraw p y xs i c.toNat hh g h hgh k
end Go.Proofs.YtglmjglbobhbbaaGreatDoor
