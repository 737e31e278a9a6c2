/- Texts C10, C12, C8, D1, D11, D8, S1, N1, R1, K1, joined. -/
import Derived.Test.YtglmjglbobhbbaaGreatDoorM5
import Derived.Lib.LaidTab
namespace Go.Ab
open Go.RowKit
attribute [local irreducible] Go.Ab.tyAV Go.Ab.aw Go.Ab.aops Go.Ab.kReg Go.Ab.aThen Go.Ab.aBlk Go.Ab.acond Go.Ab.aguard Go.Ab.astep Go.Ab.AStepX Go.Ab.aRet
section
variable {P:Program} {o:Oper} {s:Slots} {id:Nat}
theorem zfM {t tn e:TypeId} {size bytes:Nat} {z:AV} {x y:Operand} {k kn:IntKind} {m:Int} (ho:o.op=.call { callee:=.builtin .append,args:=#[x,y],argTypes:=#[t,tn] }) (ht:zT P t=some e) (htn:zbL P tn=some kn) (hs:xL P e size=true) (hb:kH P e bytes=true)
  (hz:zK P e=some z) (hzs:z.sz=size) (hpos:0 < size) (hx:zl s x=.nils) (hy:zl s y=.lit (.int k m)) (h0:0 < m) (hbytes:m.toNat * bytes≤140737488355328) (hmx:m.toNat≤140737488355328):
  OpHolds P o s id [] (.ms id 0 size 0 m.toNat) [(id,.mrow 0 e size (List.replicate m.toNat z))]:=by
 refine ⟨fun p hp=>(by cases hp),fun q hq=>.inl (by simp at hq;subst hq;rfl),fun W0 g σ n w a hS hr hf hn _=>?_⟩
 have h1:=hr x (by simp [ho,Op.operands,Call.operands])
 have h2:=hr y (by simp [ho,Op.operands,Call.operands])
 rw [hx] at h1
 rw [hy] at h2
 have hxu:a.eval x=.slice none 0 0:=by
  generalize hv:a.eval x=v at h1
  cases h1;rfl
 have e2:=zN h2
 obtain ⟨m,rfl⟩:=Int.eq_ofNat_of_zero_le (Int.le_of_lt h0)
 simp only [Int.toNat_natCast] at hbytes hmx ⊢
 have hm0:0 < m:=by omega
 obtain ⟨cs,he⟩:=yK (P:=P) (a:=a) ho w
 obtain ⟨i,hi,hsi⟩:=yo hs
 have hbi:i.bytes=bytes:=by unfold kH at hb;rw [hi] at hb;simpa using hb
 obtain ⟨i',zv,hi',hzv,hrz⟩:=vO hz g
 rw [hi] at hi';cases hi'
 have hzc:zv.cells.size=size:=by rw [hrz.size,hzs]
 have hrun:=Go.Lib.run_append_nil_zeros (P:=P) w t tn o.type e i zv k kn (zD ht) (wz htn) hi hzv m hm0 oo oo (by rw [hbi];omega)
 have hge:=grownCap_ge w m 0 e
 have hcm:=grownCap_le_maxLen w m 0 e (by unfold maxLen;omega)
 have hall:∀ v∈List.replicate m zv,v.cells.size=size:=fun v hv=>by rw [List.eq_of_mem_replicate hv];exact hzc
 have hfl:yG (List.replicate m zv)=(Builtin.zeroCells zv.cells m).toList:=by
  rw [← qz m zv size hzc hpos]
  simp [Builtin.zeroCells,hzc]
 have hzl:(Builtin.zeroCells zv.cells m).toList.length=m * size:=by rw [Array.length_toList,size_zeroCells,hzc]
 obtain ⟨g',hle,hS',hrp⟩:=hS.drew.newM (e:=e) (size:=size) (xs:=List.replicate m z) (vs:=List.replicate m zv) hf hn (Builtin.zeroCells zv.cells m++Builtin.zeroCells zv.cells (grownCap w m 0 e - m)) (grownCap w m 0 e) (by simp) (kh hrz m) hall (by simp;omega) hcm
  (by simp only [Array.size_append,size_zeroCells,hzc,← Nat.add_mul];congr 1;omega)
  (by rw [Array.toList_append,List.length_replicate,← hzl,List.take_left,hfl]) (jJ _)
 unfold runsTo
 have hexec:(execOp a.eval o).run P w=.ok (.value (.slice (some ⟨w.heap.size,0,none⟩) m (grownCap w m 0 e))) (w.drew.alloc (.cells (Builtin.zeroCells zv.cells m++Builtin.zeroCells zv.cells (grownCap w m 0 e - m)) e)):=by
  rw [he]
  simp [builtin,hxu,e2,hrun]
 rw [hexec]
 simp only [List.length_replicate] at hrp
 exact ⟨g',hle,hS',hrp⟩
theorem zkr {t e:TypeId} {x:Operand} (ho:o.op=.call { callee:=.builtin .cap,args:=#[x],argTypes:=#[t] }) (ht:zT P t=some e) (hx:zl s x=.nils):
  OpHolds P o s id [] (.lit (.int .i64 0)) []:=
 yj fun g w a hr=>by
  have h3:=hr x (by simp [ho,Op.operands,Call.operands])
  rw [hx] at h3
  generalize hv:a.eval x=v at h3
  cases h3 with
  | nils=>
   obtain ⟨cs,he⟩:=yK (P:=P) (a:=a) ho w
   refine ⟨_,?_,.lit _ rfl⟩
   rw [he]
   simp [builtin,Builtin.cap_,run_underlying (zD ht),hv,goInt]
def zlu (P:Program) (t:TypeId) (f:Nat):Option (TypeId × Nat):=
 match P.underlying t with
 | some (.struct fs)=>match fs[f]? with
  | some fl=>some (fl.type,fl.offset)
  | none=>none
 | _=>none
theorem zlv {t e:TypeId} {f k:Nat} (h:zlu P t f=some (e,k)):∃ fs fl,P.underlying t=some (.struct fs)∧fs[f]?=some fl∧fl.type=e∧fl.offset=k:=by
 unfold zlu at h
 split at h
 ·rename_i fs hfs
  split at h
  ·rename_i fl hfl
   cases h
   exact ⟨fs,fl,hfs,hfl,rfl,rfl⟩
  ·cases h
 ·cases h
theorem zoj {t e:TypeId} {x:Operand} {f k:Nat} {xs:List AV} {y:AV} (ho:o.op=.field t x f) (hf:zlu P t f=some (e,k)) (hx:zl s x=.agg xs) (hy:xs[f]?=some y) (hk:AV.szl (xs.take f)=k) (hT:zqt P e y.isAgg y.sz=true) (h1:y.isAgg=true∨y.one=true):OpHolds P o s id [] y []:=
 yj fun g w a hr=>by
  have h1':=hr x (by simp [ho,Op.operands])
  rw [hx] at h1'
  generalize hv:a.eval x=v at h1'
  obtain ⟨fs,fl,k1,k2,k3,k4⟩:=zlv hf
  cases h1' with
  | agg _ vs hvl hvr=>
   have hR:Rep g (.agg xs) (.agg (yG vs).toArray):=.agg xs vs hvl hvr
   obtain ⟨u,hu,hub,huc⟩:=hR.get (path:=[f]) (y:=y) (by simp [AV.get,hy])
   have ho':(AV.agg xs).offs [f]=k:=by simp [AV.offs,hy,hk]
   rw [ho'] at hub huc
   have hp:=ziB (P:=P) hu hT h1 (cs:=(yG vs).toArray) (off:=k) (fun j q hq=>by simpa [vY] using huc j q hq) (by simpa [vY] using hub) w
   refine ⟨u,?_,hu⟩
   simp [execOp,ho,hv,Instr.field,run_underlying k1,k2,k3,k4,asAgg,hp]
end
def zo3 (P:Program) (id:Nat) (t tn:TypeId) (u v:AV):Option Step:=
 match zH P t,zbL P tn,u,v with
 | some (e,size,bytes,z),some _,.nils,.lit (.int _ m)=>if 0 < m∧m.toNat * bytes≤140737488355328∧m.toNat≤140737488355328 then
   some ⟨[],.ms id 0 size 0 m.toNat,[(id,.mrow 0 e size (List.replicate m.toNat z))]⟩ else none
 | _,_,_,_=>none
theorem zmG {P:Program} {o:Oper} {s:Slots} {σ:Nat→Ent} {id:Nat} {st:Step} {t tn:TypeId} {x y:Operand} (ho:o.op=.call { callee:=.builtin .append,args:=#[x,y],argTypes:=#[t,tn] }) (h:zo3 P id t tn (zl s x) (zl s y)=some st):Gives P o s σ id st:=by
 unfold zo3 at h
 split at h
 ·rename_i ht htn hx hy
  split at h
  ·rename_i hc
   cases h
   obtain ⟨k1,k2,k3,k4,k5,k6⟩:=zI ht
   exact .mk0 (zfM ho k1 htn k2 k3 k4 k5 k6 hx hy hc.1 hc.2.1 hc.2.2)
  ·cases h
 ·cases h
attribute [go_sem] zo3
section
variable {P:Program} {ops:Array Oper} {m i n:Nat} {T:Trace} {k:Cfg→Trace→Prop} {ty:TypeId} {pos:String} {after:Array Edge} {r:List Oper} {s:Slots} {σ:Nat→Ent}
theorem zlA {t:Tmp} {x y:Operand} {t' tn:TypeId} {v:AV} {q:Nat × Ent} (he:zo3 P (m+i) t' tn (zl s x) (zl s y)=some ⟨[],v,[q]⟩) (h:aops P ops m r (i+1) ((i,[],[q])::T) k ⟨upd s t v,upd σ q.1 q.2,n⟩):
  aops P ops m (⟨some t,.call { callee:=.builtin .append,args:=#[x,y],argTypes:=#[t',tn] },ty,pos,after,none⟩::r) i T k ⟨s,σ,n⟩:=
 kS (st:=⟨[],v,[q]⟩) (fun o ho=>zmG (by rw [ho]) he) h
theorem kQ {t:Tmp} {x:Operand} {t' e:TypeId} {size bytes:Nat} {z:AV} (ht:zH P t'=some (e,size,bytes,z)) (hx:zl s x=.nils) (h:aops P ops m r (i+1) T k ⟨upd s t (.lit (.int .i64 0)),σ,n⟩):
  aops P ops m (⟨some t,.call { callee:=.builtin .cap,args:=#[x],argTypes:=#[t'] },ty,pos,after,none⟩::r) i T k ⟨s,σ,n⟩:=
 kS (st:=⟨[],.lit (.int .i64 0),[]⟩) (fun _o ho=>.mk0 (zkr ho (zI ht).1 hx)) h
theorem zrb {t:Tmp} {x:Operand} {t' e:TypeId} {f q:Nat} {xs:List AV} {y:AV} (hf:zlu P t' f=some (e,q)) (hx:zl s x=.agg xs) (hy:xs[f]?=some y) (hk:AV.szl (xs.take f)=q) (hT:zqt P e y.isAgg y.sz=true) (h1:y.isAgg=true∨y.one=true) (h:aops P ops m r (i+1) T k ⟨upd s t y,σ,n⟩):
  aops P ops m (⟨some t,.field t' x f,ty,pos,after,none⟩::r) i T k ⟨s,σ,n⟩:=
 kS (st:=⟨[],y,[]⟩) (fun _o ho=>.mk0 (zoj ho hf hx hy hk hT h1)) h
end
end Go.Ab
namespace Go.Ab
open Go.RowKit
theorem kR {P:Program} {N:Nat} {b:Code} {Q:AExit→Cfg→Prop} {s:Slots} {σ:Nat→Ent} {n:Nat} (id:Nat) {bt:TypeId} {x:AV} (hσ:σ id=.box bt x) (h:aw P N b Q ⟨s,upd σ id (.fbox bt x),n⟩):aw P N b Q ⟨s,σ,n⟩:=
 qF (fun W0 g a w hS=>by
  obtain ⟨b0,v,hb0,_⟩:=hS.sim.box id bt x hσ
  obtain ⟨g',h1,h2,_⟩:=hS.sim.freeze hσ hb0
  exact ⟨g',h1,⟨h2,hS.size,fun t=>(hS.slots t).mono h1⟩⟩) h
section
variable {P:Program} {o:Oper} {s:Slots} {id:Nat}
theorem zhG {t e:TypeId} {x:Operand} {i off n size:Nat} {path:List Nat} {bt:TypeId} {c:AV} {ys:List AV} (ho:o.op=.slice t x none none none) (ht:zbE P t=some (n,e,size)) (hx:zl s x=.ptr i path off)
  (hy:c.get path=some (.agg ys)) (hoff:c.offs path=off) (hn:ys.length=n) (hsz:ys.all (fun y=>y.sz == size)=true) (h4:n≤maxLen):
  OpHolds P o s id [(i,.box bt c)] (.clip ys) [(i,.fbox bt c)]:=by
 refine ⟨fun p hp=>by simp at hp;subst hp;simp,fun q hq=>.inr ⟨_,List.mem_cons_self ..,by simp at hq;subst hq;rfl⟩,fun W0 g σ N w a hS hr _ _ hp=>?_⟩
 have hx':=hr x (by simp [ho,Op.operands])
 rw [hx] at hx'
 generalize hv:a.eval x=v at hx'
 cases hx' with
 | ptr _ _ _ b hb=>
  have hbd:=ju (P:=P) (a:=a) (g:=g) (s:=s) (lo:=none) (hi:=none) (len:=n) (l:=0) (h:=n) rfl rfl (fun x hx=>by cases hx) (fun x hx=>by cases hx) (Nat.zero_le _) (Nat.le_refl _) false w
  have hrun:=zbR (P:=P) (b:=b) (off:=off) ht hbd
  have hexec:(execOp a.eval o).run P w=.ok (.value (.slice (some (if n=0 then ⟨b,off,none⟩ else ⟨b,off+0 * size,none⟩)) (n - 0) (n - 0))) w:=by
   simp only [execOp,ho,Sem.run_bind,hv,Option.map_none]
   rw [show ((none:Option Operand).map a.eval)=none from rfl] at hrun
   simp only [hrun,Result.andThen_ok,Sem.run_pure]
  unfold runsTo
  rw [hexec]
  obtain ⟨g',hle,hS',v',hrep,hG⟩:=hS.freeze (hp (i,.box bt c) (by simp)) hb
  refine ⟨g',hle,hS',?_⟩
  obtain ⟨u,hu,hub,huc⟩:=hrep.get hy
  cases hu with
  | agg _ vs hvl hvr=>
   refine .clip _ _ _ ?_
   have:=zlf (g:=g') (b:=b) (off:=off) (l:=0) (h:=n) (c:=n - 0) hvl hvr (jS hvl hvr hsz) (fun j q hq=>by
    rw [hG,← Array.getElem?_toList,← hoff]
    exact huc j q (by simpa [Value.cells] using hq)) (Nat.zero_le _) oo oo oo (if n=0 then ⟨b,off,none⟩ else ⟨b,off+0 * size,none⟩) (by
    by_cases h0:n=0
    ·exact .inl oo
    ·exact .inr (by rw [if_neg h0]))
   rw [show (ys.take n).drop 0=ys by rw [List.drop_zero,List.take_of_length_le oo]] at this
   exact this
theorem OpHolds.ofClip {s2:Slots} {x:Operand} {e:TypeId} {size m:Nat} {xs:List AV} {v:AV} (hx:zl s x=.clip xs) (hx2:zl s2 x=.slice (some id) xs) (hxo:x∈o.op.operands) (hne:∀ y∈o.op.operands,y≠x→zl s2 y=zl s y) (hsx:xs.all (fun x=>x.sz == size)=true)
  (h:∀ id',OpHolds P o s2 id' [(id,.row e size xs.length)] v [(id,.row e size m)]):OpHolds P o s id [] v [(id,.row e size m)]:=by
 refine ⟨fun p hp=>(by cases hp),fun q hq=>.inl (by simp at hq;subst hq;rfl),fun W0 g σ n w a hS hr hf hn _=>?_⟩
 have h1:=hr x hxo
 rw [hx] at h1
 generalize hv:a.eval x=u at h1
 cases h1 with
 | clip _ A k hcl=>
  obtain ⟨g1,hle1,hS1,hrow1,hrep1⟩:=hS.ofClip (k:=id) (e:=e) (size:=size) hf hn hcl hsx
  refine ((h n).2.2 W0 g1 _ (n+1) w a (hS1.more (Nat.le_succ n)) (fun y hy=>?_) (by rw [zg _ _ _ _ oo];exact hS.bound n (Nat.le_refl _)) (Nat.lt_succ_self n) (fun p hp=>by simp at hp;subst hp;exact zr _ _ _)).mono ?_
  ·by_cases hyx:y=x
   ·subst hyx;rw [hx2,hv];exact hrep1
   ·rw [hne y hy hyx];exact (hr y hy).mono hle1
  ·rintro u w' ⟨g',hle,hS',hrep⟩
   refine ⟨g',hle1.trans hle,?_,hrep⟩
   have e1:wr (upd σ id (.row e size xs.length)) [(id,.row e size m)]=wr σ [(id,.row e size m)]:=by
    simp only [zF,yi,zcT]
   rw [e1] at hS'
   refine ⟨hS'.below,hS'.imm,fun i hi=>?_,hS'.ents,hS'.sep,hS'.fresh⟩
   by_cases hin:i=n
   ·subst hin
    simp only [zF,yi]
    rw [zg _ _ _ _ oo]
    exact hS.bound i (Nat.le_refl _)
   ·exact hS'.bound i oo
theorem zgE {t tn e:TypeId} {size bytes tx:Nat} {z:AV} {y:Operand} {xs:List AV} {k kn:IntKind} {m:Int} (ho:o.op=.call { callee:=.builtin .append,args:=#[.tmp tx,y],argTypes:=#[t,tn] }) (ht:zT P t=some e) (htn:zbL P tn=some kn) (hs:xL P e size=true) (hb:kH P e bytes=true)
  (hz:zK P e=some z) (hzs:z.sz=size) (hzc:z.cell=true) (hpos:0 < size) (hx:s tx=.clip xs) (hyx:y≠.tmp tx) (hy:zl s y=.lit (.int k m)) (h0:0≤m)
  (hsx:xs.all (fun x=>x.sz == size)=true) (hbytes:(xs.length+m.toNat) * bytes≤140737488355328) (hmx:xs.length+m.toNat≤140737488355328):
  OpHolds P o s id [] (.slice (some id) (xs++List.replicate m.toNat z)) [(id,.row e size (xs.length+m.toNat))]:=by
 have hy2:zl (upd s tx (.slice (some id) xs)) y=zl s y:=zhg (d:=some tx) (fun e he=>by cases he;exact hyx)
 refine OpHolds.ofClip (s2:=upd s tx (.slice (some id) xs)) (x:=.tmp tx) hx (zr _ _ _) (by simp [ho,Op.operands,Call.operands]) (fun y' hy' hne=>zhg (d:=some tx) (fun e he=>by cases he;exact hne)) hsx fun id'=>?_
 exact zcK ho ht htn hs hb hz hzs hzc hpos (zr _ _ _) (by rw [hy2];exact hy) h0 hsx hbytes hmx
end
section
variable {P:Program} {ops:Array Oper} {m i:Nat} {r:List Oper} {T:Trace} {k:Cfg→Trace→Prop} {s:Slots} {σ:Nat→Ent} {n:Nat} {ty:TypeId} {pos:String} {after:Array Edge}
theorem zaC {t:Tmp} {t' e:TypeId} {x:Operand} {id off len size:Nat} {path:List Nat} {bt:TypeId} {c:AV} {ys:List AV} (hx:zl s x=.ptr id path off) (hσ:σ id=.box bt c) (ht:zbE P t'=some (len,e,size))
  (hy:c.get path=some (.agg ys)) (hoff:c.offs path=off) (hn:ys.length=len) (hsz:ys.all (fun y=>y.sz == size)=true) (h4:len≤maxLen)
  (h:aops P ops m r (i+1) ((i,[(id,.box bt c)],[(id,.fbox bt c)])::T) k ⟨upd s t (.clip ys),upd σ id (.fbox bt c),n⟩):aops P ops m (⟨some t,.slice t' x none none none,ty,pos,after,none⟩::r) i T k ⟨s,σ,n⟩:=by
 rw [vp,yY,xl]
 exact ⟨⟨[(id,.box bt c)],.clip ys,[(id,.fbox bt c)]⟩,⟨zhG rfl ht hx hy hoff hn hsz h4,fun p hp=>by simp at hp;subst hp;exact hσ⟩,h⟩
theorem zcm {t:Tmp} {t' tn e:TypeId} {size bytes tx:Nat} {z:AV} {y:Operand} {xs:List AV} {kk kn:IntKind} {q:Int} (hx:s tx=.clip xs) (hi:zH P t'=some (e,size,bytes,z)) (htn:zbL P tn=some kn) (hzc:z.cell=true) (hyx:y≠.tmp tx) (hy:zl s y=.lit (.int kk q)) (h0:0≤q)
  (hsx:xs.all (fun x=>x.sz == size)=true) (hbytes:(xs.length+q.toNat) * bytes≤140737488355328) (hmx:xs.length+q.toNat≤140737488355328)
  (h:aops P ops m r (i+1) ((i,[],[(m+i,.row e size (xs.length+q.toNat))])::T) k ⟨upd s t (.slice (some (m+i)) (xs++List.replicate q.toNat z)),upd σ (m+i) (.row e size (xs.length+q.toNat)),n⟩):
  aops P ops m (⟨some t,.call { callee:=.builtin .append,args:=#[.tmp tx,y],argTypes:=#[t',tn] },ty,pos,after,none⟩::r) i T k ⟨s,σ,n⟩:=by
 obtain ⟨k1,k2,k3,k4,k5,k6⟩:=zI hi
 rw [vp,yY,xl]
 exact ⟨⟨[],.slice (some (m+i)) (xs++List.replicate q.toNat z),[(m+i,.row e size (xs.length+q.toNat))]⟩,⟨zgE rfl k1 htn k2 k3 k4 k5 hzc k6 hx hyx hy h0 hsx hbytes hmx,fun p hp=>by cases hp⟩,h⟩
end
theorem zbB {w:World} {h:Nat} {k:IntKind} {zs:List Int} (hpos:0 < zs.length) (hc:∀ i,i < zs.length→w.cell? ⟨h,i,none⟩=some (.int k (zs.getD i 0))):Rep (g0 w) (.view (.agg (zs.map fun z=>.lit (.int k z)))) (.pointer (some ⟨h,0,none⟩)):=by
 have hb:h < w.heap.size:=World.block_lt_of_cell? w ⟨h,0,none⟩ (hc 0 hpos)
 have hfl:yG (zs.map fun z=>Value.int k z)=zs.map fun z=>Value.int k z:=zda _ fun v hv=>by obtain ⟨z,_,rfl⟩:=List.mem_map.1 hv;rfl
 refine .view _ (.agg (yG (zs.map fun z=>Value.int k z)).toArray) h 0 (.agg _ (zs.map fun z=>Value.int k z) (by simp) fun i x v hx hv=>?_) fun j u hu=>?_
 ·rw [List.getElem?_map] at hx hv
  cases hz:zs[i]? with
  | none=>rw [hz] at hx;cases hx
  | some z=>rw [hz] at hx hv;cases hx;cases hv;exact .lit _ rfl
 ·simp only [Value.cells,List.toList_toArray] at hu
  rw [hfl,List.getElem?_map] at hu
  cases hz:zs[j]? with
  | none=>rw [hz] at hu;cases hu
  | some z=>
   rw [hz] at hu;cases hu
   have hj:=(List.getElem?_eq_some_iff.1 hz).1
   have:=hc j hj
   rw [List.getD_eq_getElem?_getD,hz] at this
   simp only [g0,if_pos hb,Nat.zero_add]
   exact this
def g1w (w:World):Ghost:={ g0 w with mr:=fun i=>if i=1 then some (0,.bool true) else none }
theorem zjd (w:World):(g0 w).le (g1w w):=⟨fun _ _ _ h=>h,fun _ _ h=>h,fun _ _ h=>(by cases h),fun _ _ h=>(by cases h)⟩
theorem zq6 (w:World) (i b:Nat):(g1w w).blk i≠some b:=by
 unfold Ghost.blk g1w g0
 simp only
 by_cases h:i=1
 ·simp [h,Value.ownBlock]
 ·simp [h]
theorem zvB (w:World) (h:Nat) (X:AV) (hX:Rep (g0 w) (.view X) (.pointer (some ⟨h,0,none⟩))):Sim w (g1w w) (upd (fun _=>.none) 1 (.glob h X)) 2 w where
 below:=Below.refl _ _
 imm:=(zyz w).imm
 bound:=fun i hi=>by rw [zg _ _ _ _ (show i≠1 by omega)]
 ents:=fun i=>by
  by_cases hi:i=1
  ·subst hi;rw [zr];exact ⟨rfl,rfl,rfl,⟨(0,.bool true),by simp [g1w],rfl⟩,hX.mono (zjd w)⟩
  ·rw [zg _ _ _ _ hi];exact ⟨rfl,rfl,rfl,by simp [g1w,hi]⟩
 sep:=fun i j b h _=>absurd h (zq6 w i b)
 fresh:=fun i b h=>absurd h (zq6 w i b)
theorem ACall.walksG {P:Program} {f:FuncId} {args:List AV} {v:Value} {h:Nat} {X:AV} (hcall:ACall P f args 0 [(1,.glob h X)] (.lit v) []) (w:World) (hX:Rep (g0 w) (.view X) (.pointer (some ⟨h,0,none⟩))) {vals:List Value} (hr:Reps (g0 w) args vals):
  Calls P f vals.toArray w fun e w'=>e=.returned v∧Below w.heap.size w w':=by
 refine (hcall.2.2.2 w (g1w w) _ 2 w vals (zvB w h X hX) hr.at.1 (fun i x u hx hu=>(hr.at.2 i x u hx hu).mono (zjd w)) (zg _ _ _ _ oo) oo (fun p hp=>by simp at hp;subst hp;simp [zr])).mono ?_
 rintro e w' ⟨u,rfl,g',_,hS,hu⟩
 rw [zN hu]
 exact ⟨rfl,hS.below⟩
def g2w (w:World):Ghost:={ g0 w with mr:=fun i=>if i=1∨i=2 then some (0,.bool true) else none }
theorem zq8 (w:World):(g0 w).le (g2w w):=⟨fun _ _ _ h=>h,fun _ _ h=>h,fun _ _ h=>(by cases h),fun _ _ h=>(by cases h)⟩
theorem zq7 (w:World) (i b:Nat):(g2w w).blk i≠some b:=by
 unfold Ghost.blk g2w g0
 simp only
 by_cases h:i=1∨i=2
 ·simp [h,Value.ownBlock]
 ·simp [h]
theorem sim2 (w:World) (h h':Nat) (X X':AV) (hX:Rep (g0 w) (.view X) (.pointer (some ⟨h,0,none⟩))) (hX':Rep (g0 w) (.view X') (.pointer (some ⟨h',0,none⟩))):Sim w (g2w w) (upd (upd (fun _=>.none) 1 (.glob h X)) 2 (.glob h' X')) 3 w where
 below:=Below.refl _ _
 imm:=(zyz w).imm
 bound:=fun i hi=>by rw [zg _ _ _ _ (show i≠2 by omega),zg _ _ _ _ (show i≠1 by omega)]
 ents:=fun i=>by
  by_cases h2:i=2
  ·subst h2;rw [zr];exact ⟨rfl,rfl,rfl,⟨(0,.bool true),by simp [g2w],rfl⟩,hX'.mono (zq8 w)⟩
  ·rw [zg _ _ _ _ h2]
   by_cases hi:i=1
   ·subst hi;rw [zr];exact ⟨rfl,rfl,rfl,⟨(0,.bool true),by simp [g2w],rfl⟩,hX.mono (zq8 w)⟩
   ·rw [zg _ _ _ _ hi];exact ⟨rfl,rfl,rfl,by simp [g2w,hi,h2]⟩
 sep:=fun i j b h _=>absurd h (zq7 w i b)
 fresh:=fun i b h=>absurd h (zq7 w i b)
theorem ACall.walksG2 {P:Program} {f:FuncId} {args:List AV} {v:Value} {h h':Nat} {X X':AV} (hcall:ACall P f args 0 [(1,.glob h X),(2,.glob h' X')] (.lit v) []) (w:World) (hX:Rep (g0 w) (.view X) (.pointer (some ⟨h,0,none⟩))) (hX':Rep (g0 w) (.view X') (.pointer (some ⟨h',0,none⟩))) {vals:List Value} (hr:Reps (g0 w) args vals):
  Calls P f vals.toArray w fun e w'=>e=.returned v∧Below w.heap.size w w':=by
 refine (hcall.2.2.2 w (g2w w) _ 3 w vals (sim2 w h h' X X' hX hX') hr.at.1 (fun i x u hx hu=>(hr.at.2 i x u hx hu).mono (zq8 w)) (by rw [zg _ _ _ _ oo,zg _ _ _ _ oo]) oo (fun p hp=>by
  simp at hp
  rcases hp with rfl | rfl
  ·simp only;rw [zg _ _ _ _ oo,zr]
  ·simp only;rw [zr])).mono ?_
 rintro e w' ⟨u,rfl,g',_,hS,hu⟩
 rw [zN hu]
 exact ⟨rfl,hS.below⟩
end Go.Ab
namespace Go.Proofs.YtglmjglbobhbbaaGreatDoor
open _root_.Go.Proofs.Tryz
open Go.Ab
attribute [local irreducible] Go.Ab.tyAV Go.Ab.aw Go.Ab.aops Go.Ab.kReg Go.Ab.aThen Go.Ab.aBlk Go.Ab.acond Go.Ab.aguard Go.Ab.astep Go.Ab.AStepX Go.Ab.aRet
theorem zsb (x n:Int) (h:0 < n):(x.tmod n+n).tmod n=x % n:=by
 have h2:-n < x.tmod n:=by have:=Int.lt_tmod_of_pos x h;omega
 rw [Int.tmod_eq_emod_of_nonneg oo,Int.add_emod_right,Int.tmod_eq_emod]
 split
 ·rename_i hh;simp
 ·rw [Int.sub_emod];have:n ∣ n.natAbs:=by rw [Int.dvd_natAbs];exact Int.dvd_refl n
  simp [Int.emod_emod_of_dvd,Int.emod_eq_zero_of_dvd this]
theorem znM (x n:Int) (h:0 < n) (hn:n≤1000000000000000000) (k:Nat):
  ACall prog 52 [.lit (.int .i64 x),.lit (.int .i64 n)] k [] (.lit (.int .i64 (x % n))) []:=by
 have h0:n≠0:=by omega
 have h1:x.tmod n < n:=Int.tmod_lt_of_pos x h
 have h2:-n < x.tmod n:=by have:=Int.lt_tmod_of_pos x h;omega
 refine Bd func52 ntmps52 fun σ N hp hpn hk hkn hfree=>?_
 refine Wk ?_
 exact zmM (by simp (disch:=omega) [go_sem, *,-List.reduceReplicate];rfl) (by simp only [AV.ren,zsb x n h]) (fun id _=>rfl)
def zy (l:List Int) (i:Nat):Ent:=.box 122 (.agg [.slice none (l.map jI),.lit (.int .i64 i)])
@[simp,go_sem] theorem zvk (l:List Int) (i:Nat):(zy l i=.none)=False:=by simp [zy]
@[go_sem] theorem zup (l:List Int) (i:Nat) (f:Nat→Option Nat):(zy l i).ren f=zy l i:=by
 simp only [zy,ziZ,AV.ren,AV.renl,zrS,Option.bind_none]
def Dk (l:List Int) (i:Nat):Prop:=l.length≤9223372036854775807∧i≤l.length
theorem zeR (l:List Int) (k:Nat):ACall prog 23 [.slice none (l.map jI)] k [] (.ptr k [] 0) [(k,zy l 0)]:=by
 unfold zy
 refine Bd func23 ntmps23 fun σ N hp hpn hk hkn hfree=>?_
 refine Wk ?_
 refine zQ (r0:=N+3) (by simp (disch:=omega) [go_sem, *,-List.reduceReplicate];rfl) oo (by simp (disch:=omega) [go_sem];try rfl) (fun id hid=>by simp (disch:=omega) only [zg];try exact hlow id hid) (by simp (disch:=omega) only [zr];rfl) (by simp (disch:=omega) [go_sem])
theorem zqF (l:List Int) (i:Nat) (n:Int) (hi:l.length≤i) (_hb:i≤9223372036854775807) (d k:Nat):
  ACall prog 13 [.ptr d [] 0,.lit (.int .i64 n)] k [(d,zy l i)] (.lit (.int .i64 0)) [(d,zy l i)]:=by
 unfold zy
 refine Bd func13 ntmps13 fun σ N hp hpn hk hkn hfree=>?_
 have hd:=hp _ (List.mem_singleton.2 rfl)
 have hdn:=hpn _ (List.mem_singleton.2 rfl)
 simp only at hd hdn
 clear hp hpn
 refine Wk ?_
 exact RW (d) (.box 122 (.agg [.slice none (l.map jI),.lit (.int .i64 i)]))
theorem zqG (l:List Int) (i:Nat) (n:Int) (hi:i < l.length) (hb:l.length≤9223372036854775807) (h0:0 < n) (hn:n≤1000000000000000000) (d k:Nat):
  ACall prog 13 [.ptr d [] 0,.lit (.int .i64 n)] k [(d,zy l i)] (.lit (.int .i64 (l[i] % n))) [(d,zy l (i+1))]:=by
 obtain ⟨x,hx⟩:∃ x,l[i]=x:=⟨_,rfl⟩
 have c1:=znM x n h0 hn
 have hxx:jI x=.lit (.int .i64 x):=rfl
 rw [hx]
 unfold zy
 refine Bd func13 ntmps13 fun σ N hp hpn hk hkn hfree=>?_
 have hd:=hp _ (List.mem_singleton.2 rfl)
 have hdn:=hpn _ (List.mem_singleton.2 rfl)
 simp only at hd hdn
 clear hp hpn
 have hcs:=And.intro c1 True.intro
 refine Wk ?_
 exact RW (d) (.box 122 (.agg [.slice none (l.map jI),.lit (.int .i64 ((i:Int)+1))]))
def yl (l:List Int) (i:Nat) (n:Nat):Nat × Nat:=if h:i < l.length then ((l[i] % (n:Int)).toNat,i+1) else (0,i)
theorem y7 (l:List Int) (i:Nat) (n:Nat) (h:0 < n):(yl l i n).1 < n:=by
 unfold yl
 split
 ·have:=Int.emod_nonneg l[i] (show (n:Int)≠0 by omega)
  have:=Int.emod_lt_of_pos l[i] (show (0:Int) < (n:Int) by omega)
  simp only;omega
 ·exact h
theorem yu {l:List Int} {i:Nat} (n:Nat) (h:Dk l i):Dk l (yl l i n).2:=by
 unfold yl Dk at *
 split
 ·exact ⟨h.1,by simp only;omega⟩
 ·exact h
theorem yV (l:List Int) (i:Nat) (n:Nat) (h:Dk l i) (h0:0 < n) (hn:n≤1000000000000000000) (d k:Nat):
  ACall prog 13 [.ptr d [] 0,.lit (.int .i64 n)] k [(d,zy l i)] (.lit (.int .i64 (yl l i n).1)) [(d,zy l (yl l i n).2)]:=by
 unfold yl
 split
 ·rename_i hi
  have:=zqG l i n hi h.1 oo oo d k
  have e:((l[i] % (n:Int)).toNat:Int)=l[i] % (n:Int):=Int.toNat_of_nonneg (Int.emod_nonneg _ oo)
  simp only [e];exact this
 ·rename_i hi;exact zqF l i n oo (by have:=h.1;have:=h.2;omega) d k
theorem ztZ (l:List Int) (i:Nat) (n:Nat) (h:Dk l i) (h0:0 < n) (hn:n≤1000000000000000000):
  ∃ x j:Nat,x < n∧Dk l j∧∀ d k,ACall prog 13 [.ptr d [] 0,.lit (.int .i64 n)] k [(d,zy l i)] (.lit (.int .i64 x)) [(d,zy l j)]:=
 ⟨_,_,y7 l i n h0,yu n h,yV l i n h h0 hn⟩
def zg6 (l:List Int) (i:Nat):Nat→Tg × Nat
 | 0=>(zeroTag,i)
 | u+1=>(zti (zg6 l i u).1 (u * 9) (UInt8.ofNat (yl l (zg6 l i u).2 256).1),(yl l (zg6 l i u).2 256).2)
theorem zl9 {l:List Int} {i:Nat} (h:Dk l i):∀ u,Dk l (zg6 l i u).2
 | 0=>h
 | u+1=>yu 256 (zl9 h u)
def zg5 (l:List Int) (i:Nat):Tg × Nat:=zg6 l i 4
theorem zl5 {l:List Int} {i:Nat} (h:Dk l i):Dk l (zg5 l i).2:=zl9 h 4
theorem zlc (l:List Int) (i:Nat) (h:Dk l i) (d k:Nat):
  ACall prog 66 [.ptr d [] 0] k [(d,zy l i)] (zd (zg5 l i).1) [(d,zy l (zg5 l i).2)]:=by
 refine Bd func66 ntmps66 fun σ N hp hpn hk hkn hfree=>?_
 have hd:=hp _ (List.mem_singleton.2 rfl)
 have hdn:=hpn _ (List.mem_singleton.2 rfl)
 simp only at hd hdn
 clear hp hpn
 refine Wg ?_
 refine za0 (zhh zi (by kernel_rfl) (fun c=>∃ (u:Nat),c.s 0=.ptr d [] 0∧c.s 4=.lit (.int .i64 u)∧u≤4∧c.s 2=.ptr N [] 0∧c.σ N=.box 28 (zd zeroTag)∧c.s 3=.ptr (N+1) [] 0∧c.σ (N+1)=.box 28 (zd (zg6 l i u).1)∧c.σ d=zy l (zg6 l i u).2∧N+1 < c.n∧(∀ id,id < N→id≠d→c.σ id=σ id))
  (fun c=>match c.s 4 with | .lit (.int _ m)=>4 - m.toNat | _=>0) ⟨0,by simp (disch:=omega) [go_sem, *,-List.reduceReplicate],by simp (disch:=omega) [go_sem, *,-List.reduceReplicate],by omega,by simp (disch:=omega) [go_sem, *,-List.reduceReplicate],by simp (disch:=omega) [go_sem, *,-List.reduceReplicate],by simp (disch:=omega) [go_sem, *,-List.reduceReplicate],by simp (disch:=omega) [go_sem, *,-List.reduceReplicate];rfl,by simp (disch:=omega) [go_sem, *,-List.reduceReplicate];rfl,by simp only;omega,(fun id hid hdd=>by simp (disch:=omega) only [zg])⟩ ?_)
 rintro ⟨s,σ',n'⟩ ⟨u,h0,h4,hu,h2,hN,h3,hN1,hdk,hn',hlow⟩
 simp only at h0 h4 h2 hN h3 hN1 hdk hn' hlow
 by_cases hu4:u=4
 ·subst hu4
  unfold zg5
  generalize zg6 l i 4=X at hN1 hdk ⊢
  obtain ⟨T,j⟩:=X
  simp only at hN1 hdk ⊢
  refine Wg ?_
  refine zgx (by simp (disch:=omega) [go_sem, *,-List.reduceReplicate];try first | rfl | omega) ?_
  refine Wg ?_
  exact RW (d) (zy l j)
 ·have hj:=zl9 h u
  have hs1:(zg6 l i (u+1)).1=zti (zg6 l i u).1 (u * 9) (UInt8.ofNat (yl l (zg6 l i u).2 256).1):=rfl
  have hs2:(zg6 l i (u+1)).2=(yl l (zg6 l i u).2 256).2:=rfl
  generalize zg6 l i u=X at hj hs1 hs2 hN1 hdk
  obtain ⟨T,j⟩:=X
  simp only at hj hs1 hs2 hN1 hdk
  have c1:=yV l j 256 hj oo oo
  have hl1:=y7 l j 256 oo
  generalize yl l j 256=X at c1 hl1 hs1 hs2
  obtain ⟨a,j2⟩:=X
  simp only at c1 hl1 hs1 hs2
  have hi1:((u:Int) * 9).toNat=u * 9:=by omega
  have hw:IntKind.u8.wrap (a:Int)=a:=by rw [IntKind.wrap_u8];omega
  have hi3:u * 9 < 32:=by omega
  clear hj h
  refine Wg ?_
  refine zlw (by simp (disch:=omega) [go_sem, *,-List.reduceReplicate];try first | rfl | omega) ?_
  refine Wg ?_
  refine jN (c1 _ _) (by simp (disch:=omega) [go_sem, *,-List.reduceReplicate];try rfl) (by simp (disch:=omega) [go_sem, *,-List.reduceReplicate];repeat' first | exact ALe.nil | exact AV.le_refl _ | exact AV.le_nils | exact AV.le_own _ _ | apply ALe.cons | apply AV.sub_agg) (by simp (disch:=omega) [go_sem, *,-List.reduceReplicate]) ?_
  refine Wg ?_
  refine ⟨⟨u+1,by simp (disch:=omega) [go_sem, *,-List.reduceReplicate],by simp (disch:=omega) [go_sem, *,-List.reduceReplicate],by omega,by simp (disch:=omega) [go_sem, *,-List.reduceReplicate],by simp (disch:=omega) [go_sem, *,-List.reduceReplicate],by simp (disch:=omega) [go_sem, *,-List.reduceReplicate],by rw [hs1];simp (disch:=omega) [go_sem, *,-List.reduceReplicate],by rw [hs2];simp (disch:=omega) [go_sem, *,-List.reduceReplicate],by simp only;omega,(fun id hid hdd=>by simp (disch:=omega) only [zg,zF,yi];exact hlow id hid hdd)⟩,?_⟩
  simp (disch:=omega) [go_sem, *,-List.reduceReplicate]
  omega
structure Pe where
 name:List UInt8
 born:Int
def jK (p:Pe):AV:=.agg [zbo p.name,.lit (.int .i64 p.born)]
@[go_sem] theorem zww (n:List UInt8) (b:Int):jK ⟨n,b⟩=.agg [.lit (.string ⟨n.toArray⟩),.lit (.int .i64 b)]:=rfl
@[go_sem] theorem zm4 (p:Pe):(jK p).sz=2:=rfl
@[go_sem] theorem ztO (p:Pe):(jK p).isAgg=true:=rfl
@[go_sem] theorem zos (p:Pe):(jK p).cell=true:=rfl
@[go_sem] theorem zqg (f:Nat→Option Nat) (p:Pe):(jK p).ren f=jK p:=rfl
@[go_sem] theorem zrU (f:Nat→Option Nat) (l:List Pe):AV.renl f (l.map jK)=l.map jK:=by
 rw [AV.renl_map,List.map_map];exact List.map_congr_left fun t _=>zqg f t
@[go_sem] theorem zvR (l:List Pe):(l.map jK).all (fun x=>x.sz == 2)=true:=by
 rw [List.all_eq_true];intro x hx;obtain ⟨b,_,rfl⟩:=List.mem_map.1 hx;simp [zm4]
@[go_sem] theorem zvS (l:List Pe):(l.map jK).all (fun x=>x.sz == 2 && x.cell)=true:=by
 rw [List.all_eq_true];intro x hx;obtain ⟨b,_,rfl⟩:=List.mem_map.1 hx;simp [zm4,zos]
structure Co where
 party:Int
 key:Tg
 ps:List Pe
def xW (c:Co):AV:=.agg [.lit (.int .i64 c.party),zd c.key,.slice none (c.ps.map jK)]
@[go_sem] theorem zv9 (p:Int) (t:Tg) (l:List Pe):xW ⟨p,t,l⟩=.agg [.lit (.int .i64 p),zd t,.slice none (l.map jK)]:=rfl
@[go_sem] theorem zqV (c:Co):(xW c).sz=34:=by simp [xW,AV.sz,AV.szl,zB]
@[go_sem] theorem ztJ (c:Co):(xW c).isAgg=true:=rfl
@[go_sem] theorem znZ (c:Co):(xW c).cell=true:=by simp [xW,AV.cell,AV.celll,zj]
@[go_sem] theorem zpQ (f:Nat→Option Nat) (c:Co):(xW c).ren f=xW c:=by
 simp [xW,AV.ren,AV.renl,xR,zrU]
theorem vG (cs bs:List UInt8) (ha:cs.length≤140737488351232) (k:Nat):ACall prog 60 [.slice none (cs.map za),.slice none (bs.map za)] k [] (.lit (.bool (decide (cs=bs)))) []:=by
 by_cases hl:cs.length=bs.length
 ·refine Bd func60 ntmps60 fun σ N hp hpn hk hkn hfree=>?_
  refine Wk ?_
  refine za0 (zhh zi (by kernel_rfl) (fun c=>∃ (u:Nat),c.s 0=.slice none (cs.map za)∧c.s 1=.slice none (bs.map za)∧c.s 5=.lit (.int .i64 u)∧(∀ id,id < N→c.σ id=σ id)∧N≤c.n∧u≤cs.length∧cs.take u=bs.take u)
   (fun c=>match c.s 5 with | .lit (.int _ m)=>cs.length - m.toNat | _=>0) ⟨0,by simp (disch:=omega) [go_sem, *,-List.reduceReplicate],by simp (disch:=omega) [go_sem, *,-List.reduceReplicate],by simp (disch:=omega) [go_sem, *,-List.reduceReplicate],(fun id hid=>by simp (disch:=omega) only;try exact hlow id hid),by simp only;omega,by omega,by simp⟩ ?_)
  rintro ⟨s,σ',n'⟩ ⟨u,h0,h1,h5,hlow,hn',hu,heq⟩
  simp only at h0 h1 h5 hlow hn'
  by_cases hul:u=cs.length
  ·have hr:decide (cs=bs)=true:=by
    rw [hul,List.take_length,hl,List.take_length] at heq
    simp [heq]
   rw [hr]
   exact W0
  ·have hua:u < cs.length:=by omega
   have hub:u < bs.length:=by omega
   obtain ⟨x,hx⟩:∃ x,cs[u]=x:=⟨_,rfl⟩
   obtain ⟨y,hy⟩:∃ y,bs[u]=y:=⟨_,rfl⟩
   have hxx:za x=.lit (.int .u8 x.toNat):=rfl
   have hyy:za y=.lit (.int .u8 y.toNat):=rfl
   refine Wk ?_
   by_cases hxy:x=y
   ·subst hxy
    refine Wk ?_
    refine ⟨⟨u+1,by simp (disch:=omega) [go_sem, *,-List.reduceReplicate],by simp (disch:=omega) [go_sem, *,-List.reduceReplicate],by simp (disch:=omega) [go_sem, *,-List.reduceReplicate],(fun id hid=>by simp (disch:=omega) only;try exact hlow id hid),by simp only;omega,by omega,?_⟩,?_⟩
    ·rw [List.take_add_one,List.take_add_one,heq,List.getElem?_eq_getElem hua,List.getElem?_eq_getElem hub,hx,hy]
    ·simp (disch:=omega) [go_sem, *,-List.reduceReplicate]
     omega
   ·have hne:¬ x.toNat=y.toNat:=fun h=>hxy (UInt8.toNat_inj.1 h)
    have hr:decide (cs=bs)=false:=by
     have:cs≠bs:=fun h=>by subst h;rw [hx] at hy;exact hxy hy
     simp [this]
    rw [hr]
    exact W0
 ·have hr:decide (cs=bs)=false:=by
   have:cs≠bs:=fun h=>hl (by rw [h])
   simp [this]
  rw [hr]
  refine Bd func60 ntmps60 fun σ N hp hpn hk hkn hfree=>?_
  exact W0
theorem zym (c:Nat) (b:List UInt8):∃ (m:Nat) (t:List UInt8),(if (c:Int) < (b.length:Int) then (c:Int) else (b.length:Int))=(m:Int)∧m≤b.length∧m≤c∧t.length=m∧(b.map za).take m=t.map za:=by
 refine ⟨min c b.length,b.take c,?_,Nat.min_le_right ..,Nat.min_le_left ..,by simp,?_⟩
 ·split <;> omega
 ·rw [← List.map_take]
  congr 1
  by_cases h:c≤b.length
  ·rw [Nat.min_eq_left h]
  ·rw [Nat.min_eq_right oo,List.take_length,List.take_of_length_le oo]
attribute [go_sem] qI zpN List.isEmpty_map
theorem znK (bs:List UInt8) (he:bs.isEmpty=false) (hl:bs.length≤100000000) (k:Nat):
  ACall prog 245 [.slice none (bs.map za)] k [] (.slice (some k) (bs.map za)) [(k,.row 5 1 bs.length)]:=by
 refine Bd func245 ntmps245 fun σ N hp hpn hk hkn hfree=>?_
 refine Wk ?_
 refine zQ (r0:=N+3) (by simp (disch:=omega) [go_sem, *,-List.reduceReplicate];rfl) oo (by simp (disch:=omega) [go_sem];try rfl) (fun id hid=>by simp (disch:=omega) only [zg];try exact hlow id hid) (by simp (disch:=omega) only [zr];rfl) (by simp (disch:=omega) [go_sem])
theorem zpH (c k:Nat):ACall prog 245 [.lit (.slice none 0 c)] k [] .nils []:=by
 refine Bd func245 ntmps245 fun σ N hp hpn hk hkn hfree=>?_
 exact W0
theorem zmo (A:Addr) (c k:Nat):ACall prog 245 [.lit (.slice (some A) 0 c)] k [] (.slice (some k) []) [(k,.row 5 1 0)]:=by
 refine Bd func245 ntmps245 fun σ N hp hpn hk hkn hfree=>?_
 refine Wk ?_
 refine zQ (r0:=N+3) (by simp (disch:=omega) [go_sem, *,-List.reduceReplicate];rfl) oo (by simp (disch:=omega) [go_sem];try rfl) (fun id hid=>by simp (disch:=omega) only [zg];try exact hlow id hid) (by simp (disch:=omega) only [zr];rfl) (by simp (disch:=omega) [go_sem])
theorem jT (bs:List UInt8) (hl:bs.length≤100000000) (k:Nat):
  ACall prog 245 [.slice none (bs.map za)] k [] (.slice (some k) (bs.map za)) [(k,.row 5 1 bs.length)]:=by
 cases bs with
 | cons b r=>exact znK (b::r) rfl hl k
 | nil=>
  refine ACall.empty fun A c=>?_
  cases A with
  | none=>exact ACall.nilrow (zpH c k)
  | some A=>exact zmo A c k
def u8 (n:Nat):UInt8:=UInt8.ofNat n
def leb (n:Nat):List UInt8:=if h:n < 128 then [u8 n] else u8 (n % 128+128)::leb (n / 128)
termination_by n
theorem xQ {n:Nat} (h:n < 128):leb n=[u8 n]:=by rw [leb,dif_pos h]
theorem jC {n:Nat} (h:¬ n < 128):leb n=u8 (n % 128+128)::leb (n / 128):=by rw [leb,dif_neg h]
theorem zh (n:Nat):∀ k,n < 128 ^ k→(leb n).length≤k+1:=by
 induction n using Nat.strongRecOn with
 | _ n ih=>
  intro k hk
  by_cases h:n < 128
  ·rw [xQ h];simp
  ·rw [jC h]
   cases k with
   | zero=>simp at hk;omega
   | succ k=>
    have:=ih (n / 128) oo k (by rw [Nat.pow_succ] at hk;omega)
    simp;omega
theorem xM {n:Nat} (h:n < 256):za (u8 n)=.lit (.int .u8 n):=by
 simp only [za,u8]
 rw [UInt8.toNat_ofNat',Nat.mod_eq_of_lt h]
theorem wO (n k:Nat) (hn:n < 128 ^ 9):ACall prog 98 [.lit (.int .i64 n)] k [] (.slice (some k) ((leb n).map za)) [(k,.row 5 1 (leb n).length)]:=by
 have hl:=zh n 9 hn
 refine Bd func98 ntmps98 fun σ N hp hpn hk hkn hfree=>?_
 refine Wk ?_
 refine za0 (ALoop.nilrow 3 5 1 (by simp (disch:=omega) [go_sem, *,-List.reduceReplicate]) ?_)
 refine zhh zi (by kernel_rfl) (fun c=>∃ (m:Nat) (acc:List UInt8),c.s 0=.lit (.int .i64 m)∧c.s 3=.slice (some (N+2)) (acc.map za)∧c.σ (N+2)=.row 5 1 acc.length∧N+3≤c.n∧(∀ id,id < N→c.σ id=σ id)∧acc++leb m=leb n∧m < 128 ^ 9)
  (fun c=>match c.s 0 with | .lit (.int _ m)=>m.toNat | _=>0) ⟨n,[],by simp (disch:=omega) [go_sem, *,-List.reduceReplicate],by simp (disch:=omega) [go_sem, *,-List.reduceReplicate],by simp (disch:=omega) [go_sem, *,-List.reduceReplicate],by simp,by intro id hid;simp (disch:=omega) only [zg],rfl,hn⟩ ?_
 rintro ⟨s,σ',n'⟩ ⟨m,acc,h0,h3,hr,hn',hlow,hacc,hm⟩
 simp only at h0 h3 hr hn' hlow
 have hal:acc.length≤10:=by rw [← hacc,List.length_append] at hl;omega
 refine Wk ?_
 by_cases h:m < 128
 ·refine zgx (by simp (disch:=omega) [go_sem, *,-List.reduceReplicate];try first | rfl | omega) ?_
  refine Wk ?_
  have hfin:(leb n).map za=acc.map za++[.lit (.int .u8 (IntKind.u8.wrap (m:Int)))]:=by
   rw [← hacc,xQ h,List.map_append,List.map_cons,List.map_nil,xM oo,IntKind.wrap_u8,Int.emod_eq_of_lt oo oo]
  have hlen:(leb n).length=acc.length+1:=by rw [← hacc,xQ h];simp
  rw [hfin,hlen]
  refine zQ (r0:=N+2) (by simp (disch:=omega) [go_sem, *,-List.reduceReplicate];rfl) oo (by simp (disch:=omega) [go_sem];try rfl) (fun id hid=>by simp (disch:=omega) only [zg];try exact hlow id hid) (by simp (disch:=omega) only [zr];rfl) (by simp (disch:=omega) [go_sem])
 ·have ht:(m:Int).tmod 128=(m:Int) % 128:=Int.tmod_eq_emod_of_nonneg oo
  have hb:IntKind.u8.wrap ((m:Int) % 128+128)=(m:Int) % 128+128:=by rw [IntKind.wrap_u8];omega
  have hbv:za (u8 (m % 128+128))=.lit (.int .u8 ((m:Int) % 128+128)):=by rw [xM oo];simp
  refine Wk ?_
  refine ⟨⟨m / 128,acc++[u8 (m % 128+128)],by simp (disch:=omega) [go_sem, *,-List.reduceReplicate],by simp (disch:=omega) [go_sem, *,-List.reduceReplicate],by simp (disch:=omega) [go_sem, *,-List.reduceReplicate],by simp only;omega,(fun id hid=>by simp (disch:=omega) only [zg];try exact hlow id hid),by rw [← hacc,jC h];simp,by omega⟩,?_⟩
  simp (disch:=omega) [go_sem, *,-List.reduceReplicate]
  omega
theorem wN (bs:List UInt8) (hb:bs.length≤10000000) (n:Nat) (h:n≤281474976710656) (k:Nat):
  ACall prog 214 [.slice none (bs.map za),.lit (.int .i64 n)] k [] (.tup [.slice (some k) ((bs++leb n).map za),.lit (.int .i64 0)]) [(k,.row 5 1 (bs.length+(leb n).length))]:=by
 have hl:=zh n 7 oo
 have hc:=jT bs oo
 refine Bd func214 ntmps214 fun σ N hp hpn hk hkn hfree=>?_
 have g1:¬ (n:Int) < 0:=by omega
 have g2:¬ (281474976710656:Int) < n:=by omega
 have hcs:=And.intro hc True.intro
 refine Wk ?_
 refine za0 (zhh zi (by kernel_rfl) (fun c=>∃ (m:Nat) (acc:List UInt8),c.s 1=.lit (.int .i64 m)∧c.s 6=.slice (some (N+9)) ((bs++acc).map za)∧c.σ (N+9)=.row 5 1 (bs.length+acc.length)∧N+10≤c.n∧(∀ id,id < N→c.σ id=σ id)∧acc++leb m=leb n∧m≤281474976710656)
  (fun c=>match c.s 1 with | .lit (.int _ m)=>m.toNat | _=>0) ⟨n,[],by simp (disch:=omega) [go_sem, *,-List.reduceReplicate],by simp (disch:=omega) [go_sem, *,-List.reduceReplicate],by simp (disch:=omega) [go_sem, *,-List.reduceReplicate],by simp,(fun id hid=>by simp (disch:=omega) only [zg,zF,yi];try exact hlow id hid),rfl,h⟩ ?_)
 rintro ⟨s,σ',n'⟩ ⟨m,acc,h0,h3,hr,hn',hlow,hacc,hm⟩
 simp only at h0 h3 hr hn' hlow
 have hal:acc.length≤10:=by rw [← hacc,List.length_append] at hl;omega
 by_cases h:m < 128
 ·refine Wk ?_
  have hfin:(bs++leb n).map za=(bs++acc).map za++[.lit (.int .u8 (IntKind.u8.wrap (m:Int)))]:=by
   rw [← hacc,xQ h,← List.append_assoc,List.map_append,List.map_cons,List.map_nil,xM oo,IntKind.wrap_u8,Int.emod_eq_of_lt oo oo]
  have hlen:bs.length+(leb n).length=bs.length+acc.length+1:=by rw [← hacc,xQ h];simp;omega
  rw [hfin,hlen]
  refine zQ (r0:=N+9) (by simp (disch:=omega) [go_sem, *,-List.reduceReplicate];rfl) oo (by simp (disch:=omega) [go_sem];try rfl) (fun id hid=>by simp (disch:=omega) only [zg];try exact hlow id hid) (by simp (disch:=omega) only [zr];rfl) (by simp (disch:=omega) [go_sem])
 ·have ha:bits .and .i64 (m:Int) 127=(m:Int) % 128:=zbX _ oo oo
  have ho:bits .or .i64 ((m:Int) % 128) 128=(m:Int) % 128+128:=zde _ oo oo
  have hs:(m:Int).fdiv 128=(m:Int) / 128:=by rw [Int.fdiv_eq_ediv];simp
  have hb:IntKind.u8.wrap ((m:Int) % 128+128)=(m:Int) % 128+128:=by rw [IntKind.wrap_u8];omega
  have hbv:za (u8 (m % 128+128))=.lit (.int .u8 ((m:Int) % 128+128)):=by rw [xM oo];simp
  refine Wk ?_
  refine ⟨⟨m / 128,acc++[u8 (m % 128+128)],by simp (disch:=omega) [go_sem, *,-List.reduceReplicate],by simp (disch:=omega) [go_sem, *,-List.reduceReplicate],by simp (disch:=omega) [go_sem, *,-List.reduceReplicate];omega,by simp only;omega,(fun id hid=>by simp (disch:=omega) only [zg];try exact hlow id hid),by rw [← hacc,jC h];simp,by omega⟩,?_⟩
  simp (disch:=omega) [go_sem, *,-List.reduceReplicate]
  omega
theorem ym (n k:Nat) (hn:n < 128 ^ 9):ACall prog 98 [.lit (.int .i64 n)] k [] (.slice none ((leb n).map za)) []:=by
 have hl:=zh n 9 hn
 refine Bd func98 ntmps98 fun σ N hp hpn hk hkn hfree=>?_
 refine Wk ?_
 refine za0 (ALoop.nilrow 3 5 1 (by simp (disch:=omega) [go_sem, *,-List.reduceReplicate]) ?_)
 refine zhh zi (by kernel_rfl) (fun c=>∃ (m:Nat) (acc:List UInt8),c.s 0=.lit (.int .i64 m)∧c.s 3=.slice (some (N+2)) (acc.map za)∧c.σ (N+2)=.row 5 1 acc.length∧N+3≤c.n∧(∀ id,id < N→c.σ id=σ id)∧acc++leb m=leb n∧m < 128 ^ 9)
  (fun c=>match c.s 0 with | .lit (.int _ m)=>m.toNat | _=>0) ⟨n,[],by simp (disch:=omega) [go_sem, *,-List.reduceReplicate],by simp (disch:=omega) [go_sem, *,-List.reduceReplicate],by simp (disch:=omega) [go_sem, *,-List.reduceReplicate],by simp,by intro id hid;simp (disch:=omega) only [zg],rfl,hn⟩ ?_
 rintro ⟨s,σ',n'⟩ ⟨m,acc,h0,h3,hr,hn',hlow,hacc,hm⟩
 simp only at h0 h3 hr hn' hlow
 have hal:acc.length≤10:=by rw [← hacc,List.length_append] at hl;omega
 refine Wk ?_
 by_cases h:m < 128
 ·refine zgx (by simp (disch:=omega) [go_sem, *,-List.reduceReplicate];try first | rfl | omega) ?_
  refine Wk ?_
  have hfin:(leb n).map za=acc.map za++[.lit (.int .u8 (IntKind.u8.wrap (m:Int)))]:=by
   rw [← hacc,xQ h,List.map_append,List.map_cons,List.map_nil,xM oo,IntKind.wrap_u8,Int.emod_eq_of_lt oo oo]
  have hlen:(leb n).length=acc.length+1:=by rw [← hacc,xQ h];simp
  rw [hfin]
  refine vn (by simp (disch:=omega) [go_sem, *,-List.reduceReplicate];rfl) (by first | exact AV.le_refl _ | ((first | apply AV.le_slices | apply AV.le_nilsE | apply AV.le_clipE);first | rfl | (simp (disch:=omega) [go_sem, *,-List.reduceReplicate];done))) (by simp (disch:=omega) [go_sem];try rfl) (fun id hid=>by simp (disch:=omega) only [zg];try exact hlow id hid)
 ·have ht:(m:Int).tmod 128=(m:Int) % 128:=Int.tmod_eq_emod_of_nonneg oo
  have hb:IntKind.u8.wrap ((m:Int) % 128+128)=(m:Int) % 128+128:=by rw [IntKind.wrap_u8];omega
  have hbv:za (u8 (m % 128+128))=.lit (.int .u8 ((m:Int) % 128+128)):=by rw [xM oo];simp
  refine Wk ?_
  refine ⟨⟨m / 128,acc++[u8 (m % 128+128)],by simp (disch:=omega) [go_sem, *,-List.reduceReplicate],by simp (disch:=omega) [go_sem, *,-List.reduceReplicate],by simp (disch:=omega) [go_sem, *,-List.reduceReplicate],by simp only;omega,(fun id hid=>by simp (disch:=omega) only [zg];try exact hlow id hid),by rw [← hacc,jC h];simp,by omega⟩,?_⟩
  simp (disch:=omega) [go_sem, *,-List.reduceReplicate]
  omega
def zaM (l:List Int) (i lo n:Nat):Nat × Nat:=(lo+(yl l i n).1,(yl l i n).2)
theorem zhd (l:List Int) (i:Nat) (lo hi n:Nat) (h:Dk l i) (hlo:lo≤1000000000) (hhi:hi≤1000000000) (hn:hi+1=lo+n) (h0:0 < n) (d k:Nat):
  ACall prog 68 [.ptr d [] 0,.lit (.int .i64 lo),.lit (.int .i64 hi)] k [(d,zy l i)] (.lit (.int .i64 (zaM l i lo n).1)) [(d,zy l (zaM l i lo n).2)]:=by
 have c1:=yV l i n h h0 oo
 have b1:=y7 l i n h0
 unfold zaM
 generalize yl l i n=X at *
 obtain ⟨x,j⟩:=X
 simp only at c1 b1 ⊢
 have hx:(hi:Int) - lo+1=n:=by omega
 have hc:((lo+x:Nat):Int)=(lo:Int)+x:=by omega
 rw [hc]
 clear hc
 refine Bd func68 ntmps68 fun σ N hp hpn hk hkn hfree=>?_
 obtain ⟨hd,hdn⟩:=HD0 hp hpn;clear hp hpn
 have hcs:=And.intro (c1 d) True.intro
 clear c1
 refine Wk ?_
 exact RW (d) (zy l j)
theorem zeE {l:List Int} {i lo n:Nat} (h:Dk l i):Dk l (zaM l i lo n).2:=yu n h
structure Pr where
 kind:Int
 mask:Int
 frm:Int
 to:Int
 name:List UInt8
 num:Int
deriving DecidableEq
def zU (p:Pr):AV:=.agg [.lit (.int .i64 p.kind),.lit (.int .u64 p.mask),.lit (.int .i64 p.frm),.lit (.int .i64 p.to),.lit (.string ⟨p.name.toArray⟩),.lit (.int .i64 p.num)]
@[go_sem] theorem zys (p:Pr):(zU p).sz=6:=rfl
@[go_sem] theorem zvw (p:Pr):(zU p).isAgg=true:=rfl
@[go_sem] theorem zwx (p:Pr):(zU p).cell=true:=rfl
@[go_sem] theorem zpi (f:Nat→Option Nat) (p:Pr):(zU p).ren f=zU p:=rfl
theorem ztP (a b:Pr):(a.kind == b.kind && (a.mask == b.mask && (a.frm == b.frm && (a.to == b.to && (a.name == b.name && a.num == b.num)))))=decide (a=b):=by
 obtain ⟨a1,a2,a3,a4,a5,a6⟩:=a
 obtain ⟨b1,b2,b3,b4,b5,b6⟩:=b
 rw [Bool.eq_iff_iff];simp
theorem zui (l m:List UInt8):((ByteArray.mk l.toArray) == (ByteArray.mk m.toArray))=(l == m):=by
 show (l.toArray == m.toArray)=(l == m)
 simp
theorem ziv (a b:Pr):evBin prog .eql 138 (zU a) (zU b)=some ⟨[],.lit (.bool (decide (a=b))),[]⟩:=by
 rw [← ztP]
 simp only [evBin,zU,zmE,zwa,eqA,zpT]
 simp
theorem zsC (a b:Pr):evBin prog .neq 138 (zU a) (zU b)=some ⟨[],.lit (.bool (!decide (a=b))),[]⟩:=by
 rw [← ztP]
 simp only [evBin,zU,zmE,zwa,eqA,zpT]
 simp
attribute [go_sem high] ziv zsC
@[go_sem high] theorem zwc (a1 a2 a3 a4 a6 b1 b2 b3 b4 b6:Int) (a5 b5:List UInt8):
  evBin prog .eql 138 (.agg [.lit (.int .i64 a1),.lit (.int .u64 a2),.lit (.int .i64 a3),.lit (.int .i64 a4),.lit (.string ⟨a5.toArray⟩),.lit (.int .i64 a6)]) (.agg [.lit (.int .i64 b1),.lit (.int .u64 b2),.lit (.int .i64 b3),.lit (.int .i64 b4),.lit (.string ⟨b5.toArray⟩),.lit (.int .i64 b6)]) =
   some ⟨[],.lit (.bool (decide ((⟨a1,a2,a3,a4,a5,a6⟩:Pr)=⟨b1,b2,b3,b4,b5,b6⟩))),[]⟩:=ziv ⟨a1,a2,a3,a4,a5,a6⟩ ⟨b1,b2,b3,b4,b5,b6⟩
@[go_sem high] theorem zwd (a1 a2 a3 a4 a6 b1 b2 b3 b4 b6:Int) (a5:List UInt8):
  evBin prog .eql 138 (.agg [.lit (.int .i64 a1),.lit (.int .u64 a2),.lit (.int .i64 a3),.lit (.int .i64 a4),.lit (.string ⟨a5.toArray⟩),.lit (.int .i64 a6)]) (.agg [.lit (.int .i64 b1),.lit (.int .u64 b2),.lit (.int .i64 b3),.lit (.int .i64 b4),.lit (.string ByteArray.empty),.lit (.int .i64 b6)]) =
   some ⟨[],.lit (.bool (decide ((⟨a1,a2,a3,a4,a5,a6⟩:Pr)=⟨b1,b2,b3,b4,[],b6⟩))),[]⟩:=ziv ⟨a1,a2,a3,a4,a5,a6⟩ ⟨b1,b2,b3,b4,[],b6⟩
def nmc (c:UInt8):Bool:=decide (97≤c.toNat) && decide (c.toNat≤122)
def zbO (s:List UInt8):Bool:=decide (1≤s.length) && decide (s.length≤16) && s.all nmc
theorem zmZ {s:List UInt8} {u:Nat} (hu:u < s.length) (h:nmc s[u]=false):zbO s=false:=by
 have:s.all nmc=false:=by
  rw [List.all_eq_false]
  exact ⟨s[u],List.getElem_mem hu,by simp [h]⟩
 simp [zbO,this]
theorem zsU (s:List UInt8) (r:Bool) (hr:zbO s=r) (hl:s.length≤9223372036854775807) (k:Nat):
  ACall prog 261 [.lit (.string ⟨s.toArray⟩)] k [] (.lit (.bool r)) []:=by
 by_cases h1:s.length < 1
 ·have:r=false:=by rw [← hr];simp [zbO,show ¬ 1≤s.length by omega]
  subst this
  clear hr
  have hi:(s.length:Int) < 1:=by omega
  refine Bd func261 ntmps261 fun σ N hp hpn hk hkn hfree=>?_
  exact W0
 ·have hi:¬ (s.length:Int) < 1:=by omega
  by_cases h2:16 < s.length
  ·have:r=false:=by rw [← hr];simp [zbO,show ¬ s.length≤16 by omega]
   subst this
   clear hr
   have hi2:(16:Int) < (s.length:Int):=by omega
   refine Bd func261 ntmps261 fun σ N hp hpn hk hkn hfree=>?_
   exact W0
  ·have hi2:¬ (16:Int) < (s.length:Int):=by omega
   refine Bd func261 ntmps261 fun σ N hp hpn hk hkn hfree=>?_
   refine Wk ?_
   refine ze zi (by kernel_rfl) [2,3,14,15,16,17,18,19,20,21,22,23,24,25,26,27] [] (fun m_ s_ σ_ n_=>∃ (u:Nat),m_=s.length - u∧s_ 14=.lit (.int .i64 u)∧(u≤s.length)∧(∀ c∈s.take u,nmc c=true)) ⟨_,0,rfl,WF,WC,WC⟩ ?_
   intro m_1 s_1 σ_1 n_1 hs_1 hf_1 hn_1 hI_1
   obtain ⟨u,hm_1,h1_14,hu,hall⟩:=hI_1
   have h1_0:=KS hs_1 0
   have h1_13:=KS hs_1 13
   have hlow:=KL (N:=N) (σ:=σ) hf_1
   by_cases hul:u=s.length
   ·have:r=true:=by
     rw [← hr]
     rw [hul,List.take_length] at hall
     simp only [zbO,Bool.and_eq_true,decide_eq_true_eq,List.all_eq_true]
     exact ⟨⟨by omega,by omega⟩,hall⟩
    subst this
    subst hul
    clear hall hr
    exact W0
   ·have hui:u < s.length:=by omega
    obtain ⟨c,hc⟩:∃ c,s[u]=c:=⟨_,rfl⟩
    have hcl:=c.toNat_lt
    by_cases hg:nmc c=true
    ·have hall2:∀ c∈s.take (u+1),nmc c=true:=by
      intro x hx
      rw [List.take_add_one,List.getElem?_eq_getElem hui,hc] at hx
      simp only [Option.toList,List.mem_append,List.mem_singleton] at hx
      rcases hx with hx | rfl
      ·exact hall x hx
      ·exact hg
     simp only [nmc,Bool.and_eq_true,decide_eq_true_eq] at hg
     have g1:¬ (c.toNat:Int) < 97:=by omega
     have g2:¬ (122:Int) < (c.toNat:Int):=by omega
     clear hall hg hr
     refine Wk ?_
     exact ⟨WS,WG,WN,_,(show s.length - (u+1) < m_1 by omega),u+1,rfl,WF,WC,WC⟩
    ·have hb:nmc c=false:=by simpa using hg
     have:r=false:=by rw [← hr];exact zmZ hui (by rw [hc];exact hb)
     subst this
     clear hall hr
     by_cases g1:(c.toNat:Int) < 97
     ·clear hg hb
      exact W0
     ·have g2:(122:Int) < (c.toNat:Int):=by
       simp only [nmc,Bool.and_eq_false_iff,decide_eq_false_iff_not] at hb
       omega
      clear hg hb
      exact W0
theorem zjQ (s:List UInt8) (r:Bool) (hr:zbO s=r) (hl:s.length≤9223372036854775807) (k:Nat):
  ACall prog 134 [.lit (.string ⟨s.toArray⟩)] k [] (.lit (.bool r)) []:=by
 by_cases h1:s.length < 1
 ·have:r=false:=by rw [← hr];simp [zbO,show ¬ 1≤s.length by omega]
  subst this
  clear hr
  have hi:(s.length:Int) < 1:=by omega
  refine Bd func134 ntmps134 fun σ N hp hpn hk hkn hfree=>?_
  exact W0
 ·have hi:¬ (s.length:Int) < 1:=by omega
  by_cases h2:16 < s.length
  ·have:r=false:=by rw [← hr];simp [zbO,show ¬ s.length≤16 by omega]
   subst this
   clear hr
   have hi2:(16:Int) < (s.length:Int):=by omega
   refine Bd func134 ntmps134 fun σ N hp hpn hk hkn hfree=>?_
   exact W0
  ·have hi2:¬ (16:Int) < (s.length:Int):=by omega
   refine Bd func134 ntmps134 fun σ N hp hpn hk hkn hfree=>?_
   refine Wk ?_
   refine ze zi (by kernel_rfl) [2,3,12,13,14,15,16,17,18,19,20,21,22,23,24,25,26,27] [] (fun m_ s_ σ_ n_=>∃ (u:Nat),m_=s.length - u∧s_ 3=.lit (.int .i64 u)∧(u≤s.length)∧(∀ c∈s.take u,nmc c=true)) ⟨_,0,rfl,WF,WC,WC⟩ ?_
   intro m_2 s_2 σ_2 n_2 hs_2 hf_2 hn_2 hI_2
   obtain ⟨u,hm_2,h2_3,hu,hall⟩:=hI_2
   have h2_0:=KS hs_2 0
   have hlow:=KL (N:=N) (σ:=σ) hf_2
   by_cases hul:u=s.length
   ·have:r=true:=by
     rw [← hr]
     rw [hul,List.take_length] at hall
     simp only [zbO,Bool.and_eq_true,decide_eq_true_eq,List.all_eq_true]
     exact ⟨⟨by omega,by omega⟩,hall⟩
    subst this
    subst hul
    clear hall hr
    exact W0
   ·have hui:u < s.length:=by omega
    obtain ⟨c,hc⟩:∃ c,s[u]=c:=⟨_,rfl⟩
    have hcl:=c.toNat_lt
    by_cases hg:nmc c=true
    ·have hall2:∀ c∈s.take (u+1),nmc c=true:=by
      intro x hx
      rw [List.take_add_one,List.getElem?_eq_getElem hui,hc] at hx
      simp only [Option.toList,List.mem_append,List.mem_singleton] at hx
      rcases hx with hx | rfl
      ·exact hall x hx
      ·exact hg
     simp only [nmc,Bool.and_eq_true,decide_eq_true_eq] at hg
     have g1:¬ (c.toNat:Int) < 97:=by omega
     have g2:¬ (122:Int) < (c.toNat:Int):=by omega
     clear hall hg hr
     refine Wk ?_
     exact ⟨WS,WG,WN,_,(show s.length - (u+1) < m_2 by omega),u+1,rfl,WF,WC,WC⟩
    ·have hb:nmc c=false:=by simpa using hg
     have:r=false:=by rw [← hr];exact zmZ hui (by rw [hc];exact hb)
     subst this
     clear hall hr
     by_cases g1:(c.toNat:Int) < 97
     ·clear hg hb
      exact W0
     ·have g2:(122:Int) < (c.toNat:Int):=by
       simp only [nmc,Bool.and_eq_false_iff,decide_eq_false_iff_not] at hb
       omega
      clear hg hb
      exact W0
theorem zrB (s:List UInt8) (hl:s.length≤9223372036854775807) (k:Nat):
  ACall prog 261 [.lit (.string ⟨s.toArray⟩)] k [] (.lit (.bool (zbO s))) []:=zsU s _ rfl hl k
theorem zml (s:List UInt8) (hl:s.length≤9223372036854775807) (k:Nat):
  ACall prog 134 [.lit (.string ⟨s.toArray⟩)] k [] (.lit (.bool (zbO s))) []:=zjQ s _ rfl hl k
def zev (m:Int) (n:Nat):Bool:=decide (m≠0) && decide (m < 2 ^ n)
theorem zjB (m:Int) (h0:0≤m) (h1:m < 18446744073709551616) (n:Nat) (hn:n=64∨n=32∨n=7) (k:Nat):
  ACall prog 260 [.lit (.int .u64 m),.lit (.int .i64 n)] k [] (.lit (.bool (zev m n))) []:=by
 by_cases hm:m=0
 ·subst hm
  simp only [zev,ne_eq,not_true_eq_false,decide_false,Bool.false_and]
  refine Bd func260 ntmps260 fun σ N hp hpn hk hkn hfree=>?_
  exact W0
 ·have hmb:(m == 0)=false:=by simp [hm]
  have hmc:(m != 0)=true:=by simp [hm]
  have e0:decide (m≠0)=true:=by simp [hm]
  unfold zev
  rw [e0,Bool.true_and]
  clear e0
  rcases hn with rfl | rfl | rfl
  ·have e1:decide (m < 2 ^ 64)=true:=by simp;omega
   rw [e1]
   clear e1
   refine Bd func260 ntmps260 fun σ N hp hpn hk hkn hfree=>?_
   exact W0
  ·have e1:(m.fdiv 4294967296 == 0)=decide (m < 2 ^ 32):=by
    rw [Int.fdiv_eq_ediv_of_nonneg _ oo,Bool.eq_iff_iff,beq_iff_eq,decide_eq_true_eq];omega
   generalize decide (m < 2 ^ 32)=r at *
   cases r with
   | true=>
    refine Bd func260 ntmps260 fun σ N hp hpn hk hkn hfree=>?_
    exact W0
   | false=>
    refine Bd func260 ntmps260 fun σ N hp hpn hk hkn hfree=>?_
    exact W0
  ·have e1:(m.fdiv 128 == 0)=decide (m < 2 ^ 7):=by
    rw [Int.fdiv_eq_ediv_of_nonneg _ oo,Bool.eq_iff_iff,beq_iff_eq,decide_eq_true_eq];omega
   generalize decide (m < 2 ^ 7)=r at *
   cases r with
   | true=>
    refine Bd func260 ntmps260 fun σ N hp hpn hk hkn hfree=>?_
    exact W0
   | false=>
    refine Bd func260 ntmps260 fun σ N hp hpn hk hkn hfree=>?_
    exact W0
end Go.Proofs.YtglmjglbobhbbaaGreatDoor
