/- Texts A1, A2, A3, A4, A5, A6, A7, joined. -/
import Derived.Orders
import Derived.Below
import Derived.Laws.AppendOwn
import Derived.Laws.CopyRow
import Derived.Laws.Cells
import Derived.Laws.Rows
import Derived.Still
import Derived.OrdersIn
import Derived.RangeFuncRecord
import Derived.Laws.Strings
import Derived.Laws.Slices
namespace Go.Ab
theorem Xb {p : Prop} (h : p := by simp (disch := omega) [go_sem, *, -List.reduceReplicate]; rfl) : p := h
theorem Xa {p : Prop} (h : p := by simp (disch := omega) [go_sem, *, -List.reduceReplicate]) : p := h
theorem oo {p : Prop} (h : p := by omega) : p := h
theorem Xc {p : Prop} (h : p := by simp (disch := omega) [go_sem]; try rfl) : p := h
theorem Xd {p : Prop} (h : p := by simp (disch := omega) [go_sem]) : p := h
theorem Xg {p : Prop} (h : p := by simp (disch := omega) [go_sem, *, -List.reduceReplicate]; try rfl) : p := h
end Go.Ab
namespace Go.Ab
open Go.RowKit
inductive AV where
 | any
 | lit (v:Value)
 | nils
 | slice (own:Option Nat) (xs:List AV)
 | agg (xs:List AV)
 | ptr (id:Nat) (path:List Nat) (off:Nat)
 | view (x:AV)
 | fn (f:FuncId) (xs:List AV)
 | tup (xs:List AV)
 | clip (xs:List AV)
 | ms (id ver size lo len:Nat)
 | mp (id ver:Nat) (path:List Nat) (off:Nat)
 | bs (id:Nat) (path:List Nat) (lo off len:Nat)
 | iface (t:TypeId) (x:AV)
instance:Inhabited AV:=⟨.any⟩
structure Ghost where
 G:Nat→Nat→Option Value
 loc:Nat→Option Nat
 row:Nat→Option Value
 own:Nat→Option Nat
 mr:Nat→Option (Nat × Value)
inductive Ent where
 | none
 | box (t:TypeId) (x:AV)
 | fbox (t:TypeId) (x:AV)
 | row (e:TypeId) (size n:Nat)
 | mrow (ver:Nat) (e:TypeId) (size:Nat) (xs:List AV)
 | glob (h:Nat) (x:AV)
 | mark
 | loop (l N:Nat) (r:Loop) (s:Nat→AV)
instance:Inhabited Ent:=⟨.none⟩
mutual
def AV.sz:AV→Nat
 | .agg xs=>AV.szl xs
 | _=>1
def AV.szl:List AV→Nat
 | []=>0
 | x::r=>AV.sz x+AV.szl r
end
theorem AV.szl_append (xs ys:List AV):AV.szl (xs++ys)=AV.szl xs+AV.szl ys:=by
 induction xs with
 | nil=>simp [AV.szl]
 | cons x r ih=>simp [AV.szl,ih,Nat.add_assoc]
theorem AV.szl_uniform (xs:List AV) (k:Nat) (h:∀ x∈xs,x.sz=k):AV.szl xs=xs.length * k:=by
 induction xs with
 | nil=>simp [AV.szl]
 | cons x r ih=>
  simp only [AV.szl,List.length_cons]
  rw [ih fun y hy=>h y (List.mem_cons_of_mem _ hy),h x (List.mem_cons_self ..),Nat.add_mul]
  omega
def yG (vs:List Value):List Value:=vs.flatMap fun v=>v.cells.toList
theorem xX (v:Value) (vs:List Value):yG (v::vs)=v.cells.toList++yG vs:=rfl
theorem qY (vs us:List Value):yG (vs++us)=yG vs++yG us:=by simp [yG]
theorem yL (vs:List Value) (k:Nat) (h:∀ v∈vs,v.cells.size=k):(yG vs).length=vs.length * k:=by
 induction vs with
 | nil=>simp [yG]
 | cons v r ih=>
  rw [xX,List.length_append,ih fun u hu=>h u (List.mem_cons_of_mem _ hu),List.length_cons,Nat.add_mul,Array.length_toList,h v (List.mem_cons_self ..)]
  omega
theorem zhv (vs:List Value) (k:Nat) (h:∀ v∈vs,v.cells.size=k) (i:Nat) (v:Value) (hi:vs[i]?=some v):
  ∀ (j:Nat) (u:Value),v.cells.toList[j]?=some u→(yG vs)[i * k+j]?=some u:=by
 induction vs generalizing i with
 | nil=>simp at hi
 | cons x r ih=>
  intro j u hu
  rw [xX]
  have hx:x.cells.toList.length=k:=by simpa using h x (List.mem_cons_self ..)
  cases i with
  | zero=>
   simp at hi
   subst hi
   have hj:j < x.cells.toList.length:=by
    rcases Nat.lt_or_ge j x.cells.toList.length with h' | h'
    ·exact h'
    ·rw [List.getElem?_eq_none h'] at hu;cases hu
   rw [Nat.zero_mul,Nat.zero_add,List.getElem?_append_left hj]
   exact hu
  | succ i=>
   have:=ih (fun u hu=>h u (List.mem_cons_of_mem _ hu)) i (by simpa using hi) j u hu
   rw [Nat.add_mul,List.getElem?_append_right oo]
   rw [← this]
   congr 1
   omega
def zdX:Value→Nat
 | .slice _ n _=>n
 | _=>0
def Ghost.blk (g:Ghost) (id:Nat):Option Nat:=
 match g.loc id with
 | some b=>some b
 | none=>match g.row id with
  | some _=>g.own id
  | none=>(g.mr id).bind fun u=>u.2.ownBlock
def MSub (u:Value) (size lo len:Nat) (A:Option Addr) (c:Nat):Prop:=
 ∃ A0 n0 c0,u=.slice A0 n0 c0∧lo+len≤c0∧(lo=0→A=A0∧c=c0)∧(0 < len→∃ b,A0=some ⟨b,0,none⟩∧A=some ⟨b,lo * size,none⟩)
inductive Rep (g:Ghost):AV→Value→Prop where
 | any (v:Value) (h:v.oneCell'=true):Rep g .any v
 | lit (v:Value) (h:v.oneCell'=true):Rep g (.lit v) v
 | nils:Rep g .nils (.slice none 0 0)
 | slice (own:Option Nat) (xs:List AV) (vs:List Value) (A:Option Addr) (c size:Nat) (hl:vs.length=xs.length) (hc:xs.length≤c) (hm:c≤maxLen)
   (h:∀ (i:Nat) (x:AV) (v:Value),xs[i]?=some x→vs[i]?=some v→Rep g x v) (hs:∀ v∈vs,v.cells.size=size)
   (hcell:xs.length=0∨∃ b o,A=some ⟨b,o,none⟩∧∀ (j:Nat) (u:Value),(yG vs)[j]?=some u→g.G b (o+j)=some u)
   (hown:∀ id,own=some id→∃ u,g.row id=some u∧xs.length≤zdX u∧(xs.length=zdX u→Value.slice A xs.length c=u)):
   Rep g (.slice own xs) (.slice A xs.length c)
 | agg (xs:List AV) (vs:List Value) (hl:vs.length=xs.length) (h:∀ (i:Nat) (x:AV) (v:Value),xs[i]?=some x→vs[i]?=some v→Rep g x v):Rep g (.agg xs) (.agg (yG vs).toArray)
 | ptr (id:Nat) (path:List Nat) (off b:Nat) (h:g.loc id=some b):Rep g (.ptr id path off) (.pointer (some ⟨b,off,none⟩))
 | view (x:AV) (v:Value) (b o:Nat) (h:Rep g x v) (hc:∀ (j:Nat) (u:Value),v.cells.toList[j]?=some u→g.G b (o+j)=some u):Rep g (.view x) (.pointer (some ⟨b,o,none⟩))
 | fn (f:FuncId) (xs:List AV) (vs:List Value) (hl:vs.length=xs.length) (h:∀ (i:Nat) (x:AV) (v:Value),xs[i]?=some x→vs[i]?=some v→Rep g x v):Rep g (.fn f xs) (.func (.func f) #[] vs.toArray)
 | tup (xs:List AV) (vs:List Value) (hl:vs.length=xs.length) (h:∀ (i:Nat) (x:AV) (v:Value),xs[i]?=some x→vs[i]?=some v→Rep g x v):Rep g (.tup xs) (.tuple vs.toArray)
 | clip (xs:List AV) (A:Option Addr) (n:Nat) (h:Rep g (.slice none xs) (.slice A n n)):Rep g (.clip xs) (.slice A n n)
 | ms (id ver size lo len ver':Nat) (u:Value) (A:Option Addr) (c:Nat) (hm:g.mr id=some (ver',u)) (hv:ver≤ver') (hl:len≤c) (hc:c≤maxLen) (h:ver=ver'→MSub u size lo len A c):Rep g (.ms id ver size lo len) (.slice A len c)
 | mp (id ver:Nat) (path:List Nat) (off ver':Nat) (u:Value) (a:Addr) (hm:g.mr id=some (ver',u)) (hv:ver≤ver') (h:ver=ver'→∃ b n c,u=.slice (some ⟨b,0,none⟩) n c∧a=⟨b,off,none⟩):Rep g (.mp id ver path off) (.pointer (some a))
 | bs (id:Nat) (path:List Nat) (lo off len b c:Nat) (h:g.loc id=some b) (hl:len≤c) (hc:c≤maxLen):Rep g (.bs id path lo off len) (.slice (some ⟨b,off,none⟩) len c)
 | iface (t:TypeId) (x:AV) (v:Value) (h:Rep g x v):Rep g (.iface t x) (.iface t v)
structure Ghost.le (g g':Ghost):Prop where
 G:∀ b o v,g.G b o=some v→g'.G b o=some v
 loc:∀ id b,g.loc id=some b→g'.loc id=some b
 row:∀ id u,g.row id=some u→∃ u',g'.row id=some u'∧(u'=u∨zdX u < zdX u')
 mr:∀ id u,g.mr id=some u→∃ u',g'.mr id=some u'∧(u'=u∨u.1 < u'.1)
theorem Ghost.le_refl (g:Ghost):g.le g:=⟨fun _ _ _ h=>h,fun _ _ h=>h,fun _ u h=>⟨u,h,.inl rfl⟩,fun _ u h=>⟨u,h,.inl rfl⟩⟩
theorem Ghost.le.trans {g g' g'':Ghost} (h:g.le g') (k:g'.le g''):g.le g'':=by
 refine ⟨fun b o v hv=>k.G _ _ _ (h.G _ _ _ hv),fun id b hb=>k.loc _ _ (h.loc _ _ hb),fun id u hu=>?_,fun id u hu=>?_⟩
 ·obtain ⟨u',h1,h2⟩:=h.row id u hu
  obtain ⟨u'',k1,k2⟩:=k.row id u' h1
  refine ⟨u'',k1,?_⟩
  rcases h2 with rfl | h2 <;> rcases k2 with rfl | k2
  ·exact .inl rfl
  ·exact .inr k2
  ·exact .inr h2
  ·exact .inr oo
 ·obtain ⟨u',h1,h2⟩:=h.mr id u hu
  obtain ⟨u'',k1,k2⟩:=k.mr id u' h1
  refine ⟨u'',k1,?_⟩
  rcases h2 with rfl | h2 <;> rcases k2 with rfl | k2
  ·exact .inl rfl
  ·exact .inr k2
  ·exact .inr h2
  ·exact .inr oo
theorem Rep.mono {g g':Ghost} (hg:g.le g') {x:AV} {v:Value} (h:Rep g x v):Rep g' x v:=by
 induction h with
 | any v h=>exact .any v h
 | lit v h=>exact .lit v h
 | nils=>exact .nils
 | slice own xs vs A c size hl hc hm _ hs hcell hown ih=>
  refine .slice own xs vs A c size hl hc hm ih hs (hcell.imp id fun ⟨b,o,hA,hG⟩=>⟨b,o,hA,fun j u hu=>hg.G _ _ _ (hG j u hu)⟩) (fun id hid=>?_)
  ·obtain ⟨u,h1,h2,h3⟩:=hown id hid
   obtain ⟨u',k1,k2⟩:=hg.row id u h1
   refine ⟨u',k1,?_,fun he=>?_⟩
   ·rcases k2 with rfl | k2 <;> omega
   ·rcases k2 with rfl | k2
    ·exact h3 he
    ·omega
 | agg xs vs hl _ ih=>exact .agg xs vs hl ih
 | ptr id path off b h=>exact .ptr id path off b (hg.loc _ _ h)
 | view x v b o _ hc ih=>exact .view x v b o ih fun j u hu=>hg.G _ _ _ (hc j u hu)
 | fn f xs vs hl _ ih=>exact .fn f xs vs hl ih
 | tup xs vs hl _ ih=>exact .tup xs vs hl ih
 | clip xs A n _ ih=>exact .clip xs A n ih
 | ms id ver size lo len ver' u A c hm hv hl hc h=>
  obtain ⟨u',k1,k2⟩:=hg.mr id _ hm
  refine .ms id ver size lo len u'.1 u'.2 A c k1 ?_ hl hc (fun he=>?_)
  ·rcases k2 with rfl | k2
   ·exact hv
   ·simp only at k2;omega
  ·rcases k2 with rfl | k2
   ·exact h he
   ·simp only at k2;omega
 | mp id ver path off ver' u a hm hv h=>
  obtain ⟨u',k1,k2⟩:=hg.mr id _ hm
  refine .mp id ver path off u'.1 u'.2 a k1 ?_ (fun he=>?_)
  ·rcases k2 with rfl | k2
   ·exact hv
   ·simp only at k2;omega
  ·rcases k2 with rfl | k2
   ·exact h he
   ·simp only at k2;omega
 | bs id path lo off len b c h hl hc=>exact .bs id path lo off len b c (hg.loc _ _ h) hl hc
 | iface t x v _ ih=>exact .iface t x v ih
def AV.le (x y:AV):Prop:=∀ (g:Ghost) (v:Value),Rep g x v→Rep g y v
theorem AV.le_refl (x:AV):AV.le x x:=fun _ _ h=>h
theorem AV.le_nils0:AV.le .nils (.slice none []):=fun g v h=>by
 cases h
 exact .slice none [] [] none 0 0 rfl (Nat.le_refl _) (by unfold maxLen;omega) (fun i x v h _=>by simp at h) (fun v hv=>by simp at hv) (.inl rfl) (fun id hid=>by cases hid)
theorem AV.le_clip (xs:List AV):AV.le (.clip xs) (.slice none xs):=fun _ _ h=>by cases h;assumption
theorem zhY (xs:List AV) (vs:List Value) (hl:vs.length=xs.length) (h:∀ (i:Nat) (x:AV) (v:Value),xs[i]?=some x→vs[i]?=some v→v.cells.size=x.sz):(yG vs).length=AV.szl xs:=by
 induction xs generalizing vs with
 | nil=>
  cases vs with
  | nil=>rfl
  | cons _ _=>simp at hl
 | cons x r ih=>
  cases vs with
  | nil=>simp at hl
  | cons v vs=>
   rw [xX,List.length_append,AV.szl,ih vs (by simpa using hl) (fun i x' v' h1 h2=>h (i+1) x' v' (by simpa using h1) (by simpa using h2)),Array.length_toList,
    h 0 x v (by simp) (by simp)]
theorem zez {v:Value} (h:v.oneCell'=true):v.cells.size=1:=by cases v <;> simp [Value.oneCell',Value.cells] at *
theorem jo {v:Value} (h:v.oneCell'=true):v.cells=#[v]:=by cases v <;> simp [Value.oneCell',Value.cells] at *
theorem Rep.size {g:Ghost} {x:AV} {v:Value} (h:Rep g x v):v.cells.size=x.sz:=by
 induction h with
 | any v h=>simpa [AV.sz] using zez h
 | lit v h=>simpa [AV.sz] using zez h
 | nils=>simp [AV.sz,Value.cells]
 | slice=>simp [AV.sz,Value.cells]
 | agg xs vs hl _ ih=>simpa [AV.sz,Value.cells] using zhY xs vs hl ih
 | ptr=>simp [AV.sz,Value.cells]
 | view=>simp [AV.sz,Value.cells]
 | fn=>simp [AV.sz,Value.cells]
 | tup=>simp [AV.sz,Value.cells]
 | clip=>simp [AV.sz,Value.cells]
 | ms=>simp [AV.sz,Value.cells]
 | mp=>simp [AV.sz,Value.cells]
 | bs=>simp [AV.sz,Value.cells]
 | iface=>simp [AV.sz,Value.cells]
def AV.isAgg:AV→Bool
 | .agg _=>true
 | _=>false
def AV.one:AV→Bool
 | .agg _ | .tup _=>false
 | _=>true
theorem Rep.oneCell {g:Ghost} {x:AV} {v:Value} (h:Rep g x v) (hx:x.one=true):v.oneCell'=true:=by
 cases h <;> simp_all [AV.one,Value.oneCell']
theorem Rep.cells_one {g:Ghost} {x:AV} {v:Value} (h:Rep g x v) (hx:x.one=true):v.cells=#[v]:=jo (h.oneCell hx)
inductive AV.Cellular:AV→Prop where
 | one (x:AV) (h:x.one=true):AV.Cellular x
 | agg (xs:List AV) (h:∀ x∈xs,AV.Cellular x):AV.Cellular (.agg xs)
theorem mem_flat {vs:List Value} {u:Value}:u∈yG vs↔∃ v∈vs,u∈v.cells.toList:=by simp [yG]
def noFz (fz:Nat × Nat) (size:Nat):Prop:=fz.1=fz.2∨size≤fz.1
theorem jJ (size:Nat):noFz (0,0) size:=.inl rfl
theorem noFz.at {fz:Nat × Nat} {size:Nat} (h:noFz fz size):∀ j,j < size→(decide (fz.1≤j) && decide (j < fz.2))=false:=fun j hj=>by
 rcases h with h | h
 ·rw [h];by_cases h2:fz.2≤j
  ·simp [Nat.not_lt.2 h2]
  ·simp [h2]
 ·simp [show ¬ fz.1≤j by omega]
def ownsR (w:World) (base:Nat) (e:TypeId) (size:Nat) (v:Value) (n:Nat) (xs:List Value):Prop:=
 xs.length=n * size ∧
 ((v=.slice none 0 0∧n=0) ∨
  ∃ g cap cur fz,v=.slice (some ⟨g,0,none⟩) n cap∧base≤g∧w.heap[g]?=some (.cells cur e fz)∧noFz fz cur.size∧n≤cap∧cap≤maxLen∧cur.size=cap * size∧cur.toList.take (n * size)=xs)
theorem kz (w:World) (base:Nat) (e:TypeId) (size:Nat):ownsR w base e size (.slice none 0 0) 0 []:=⟨by simp,.inl ⟨rfl,rfl⟩⟩
theorem ownsR.lt {w:World} {base:Nat} {e:TypeId} {size:Nat} {v:Value} {n:Nat} {xs:List Value} (h:ownsR w base e size v n xs):∀ k,v.ownBlock=some k→base≤k∧k < w.heap.size:=by
 intro k hk
 rcases h.2 with ⟨rfl,_⟩ | ⟨g,cap,cur,fz,rfl,hb,hg,_⟩
 ·simp [Value.ownBlock] at hk
 ·simp [Value.ownBlock] at hk
  subst hk
  exact ⟨hb,(Array.getElem?_eq_some_iff.1 hg).1⟩
theorem ownsR.cells {w:World} {base:Nat} {e:TypeId} {size:Nat} {v:Value} {n:Nat} {xs:List Value} (h:ownsR w base e size v n xs) {g:Nat} (hg:v.ownBlock=some g):∀ (j:Nat) (u:Value),xs[j]?=some u→w.cell? ⟨g,j,none⟩=some u:=by
 intro j u hu
 rcases h.2 with ⟨rfl,_⟩ | ⟨g',cap,cur,fz,rfl,_,hgg,_,_,_,_,htake⟩
 ·simp [Value.ownBlock] at hg
 ·simp [Value.ownBlock] at hg
  subst hg
  rw [cell_of_row w g' j cur e fz hgg]
  rw [← htake,List.getElem?_take] at hu
  split at hu
  ·simpa using hu
  ·cases hu
def EntOK (W0:World) (g:Ghost) (w:World) (id:Nat):Ent→Prop
 | .none=>g.loc id=none∧g.row id=none∧g.own id=none∧g.mr id=none
 | .box t x=>g.row id=none∧g.own id=none∧g.mr id=none∧∃ b v,g.loc id=some b∧Rep g x v∧w.heap[b]?=some (.cells v.cells t (0,0))∧∀ o,g.G b o=none
 | .fbox t x=>g.row id=none∧g.own id=none∧g.mr id=none∧∃ b v,g.loc id=some b∧Rep g x v∧w.heap[b]?=some (.cells v.cells t (0,0))∧∀ (o:Nat),g.G b o=v.cells[o]?
 | .row e size k=>g.loc id=none∧∃ u cells,g.row id=some u∧zdX u=k ∧
  ((ownsR w W0.heap.size e size u k cells∧g.own id=u.ownBlock∧∀ b,u.ownBlock=some b→∀ (o:Nat),g.G b o=cells[o]?) ∨
   (g.own id=none∧cells.length=k * size∧k≤maxLen∧∃ A,u=.slice (some A) k k∧∀ (j:Nat) (v:Value),cells[j]?=some v→A.spot=none∧g.G A.block (A.off+j)=some v))
 | .mrow ver e size xs=>g.loc id=none∧g.row id=none∧g.own id=none∧∃ u vs,g.mr id=some (ver,u)∧zdX u=xs.length∧vs.length=xs.length∧(∀ (i:Nat) (x:AV) (v:Value),xs[i]?=some x→vs[i]?=some v→Rep g x v) ∧
  (∀ v∈vs,v.cells.size=size)∧ownsR w W0.heap.size e size u xs.length (yG vs)∧∀ b,u.ownBlock=some b→∀ o,g.G b o=none
 | .glob h x=>g.loc id=none∧g.row id=none∧g.own id=none∧(∃ u,g.mr id=some u∧u.2.ownBlock=none)∧Rep g (.view x) (.pointer (some ⟨h,0,none⟩))
 | .mark=>g.own id=none∧g.mr id=none∧∃ b u,g.loc id=some b∧g.row id=some u∧w.heap[b]?=some (.deferred (some []))∧∀ o,g.G b o=none
 | .loop l N r s=>g.own id=none∧g.row id=none∧(∃ u,g.mr id=some u)∧g.loc id=some l∧(∃ T:Array Value,T.size=N∧(∀ t,Rep g (s t) (T.getD t undef))∧w.heap[l]?=some (.loop { r with tmps:=T }))∧∀ o,g.G l o=none
structure Sim (W0:World) (g:Ghost) (σ:Nat→Ent) (n:Nat) (w:World):Prop where
 below:Below W0.heap.size W0 w
 imm:∀ b o v,g.G b o=some v→w.cell? ⟨b,o,none⟩=some v
 bound:∀ id,n≤id→σ id=.none
 ents:∀ id,EntOK W0 g w id (σ id)
 sep:∀ i j b,g.blk i=some b→g.blk j=some b→i=j
 fresh:∀ i b,g.blk i=some b→W0.heap.size≤b∧b < w.heap.size
def upd {α:Type} (f:Nat→α) (k:Nat) (v:α):Nat→α:=fun i=>if i=k then v else f i
theorem zr {α:Type} (f:Nat→α) (k:Nat) (v:α):upd f k v k=v:=by simp [upd]
theorem zg {α:Type} (f:Nat→α) (k:Nat) (v:α) (i:Nat) (h:i≠k):upd f k v i=f i:=by simp [upd,h]
theorem zcT {α:Type} (f:Nat→α) (k:Nat) (v u:α):upd (upd f k v) k u=upd f k u:=by
 funext i;unfold upd;split <;> rfl
theorem zps {α:Type} (f:Nat→α) (k j:Nat) (v u:α) (h:k≠j):upd (upd f k v) j u=upd (upd f j u) k v:=by
 funext i;unfold upd
 by_cases h1:i=j
 ·by_cases h2:i=k
  ·omega
  ·simp [h1];omega
 ·simp [h1]
section
variable {W0:World} {g g':Ghost} {σ:Nat→Ent} {n:Nat} {w w':World}
theorem Sim.free (h:Sim W0 g σ n w) (id:Nat) (hid:σ id=.none):g.loc id=none∧g.row id=none∧g.own id=none∧g.mr id=none:=by
 have:=h.ents id;rw [hid] at this;exact this
theorem Sim.box (h:Sim W0 g σ n w) (id:Nat) (t:TypeId) (x:AV) (hx:σ id=.box t x):∃ b v,g.loc id=some b∧g.row id=none∧Rep g x v∧w.heap[b]?=some (.cells v.cells t (0,0))∧∀ o,g.G b o=none:=by
 have:=h.ents id;rw [hx] at this
 obtain ⟨h1,_,_,b,v,h2,h3,h4,h5⟩:=this
 exact ⟨b,v,h2,h1,h3,h4,h5⟩
theorem Sim.fbox (h:Sim W0 g σ n w) (id:Nat) (t:TypeId) (x:AV) (hx:σ id=.fbox t x):∃ b v,g.loc id=some b∧g.row id=none∧Rep g x v∧w.heap[b]?=some (.cells v.cells t (0,0))∧∀ (o:Nat),g.G b o=v.cells[o]?:=by
 have:=h.ents id;rw [hx] at this
 obtain ⟨h1,_,_,b,v,h2,h3,h4,h5⟩:=this
 exact ⟨b,v,h2,h1,h3,h4,h5⟩
theorem Ghost.blk_loc {g:Ghost} {id b:Nat} (h:g.loc id=some b):g.blk id=some b:=by simp [Ghost.blk,h]
theorem Ghost.blk_row {g:Ghost} {id:Nat} {u:Value} (h:g.loc id=none) (hr:g.row id=some u):g.blk id=g.own id:=by simp [Ghost.blk,h,hr]
theorem Ghost.blk_mr {g:Ghost} {id:Nat} {u:Nat × Value} (h:g.loc id=none) (hr:g.row id=none) (hm:g.mr id=some u):g.blk id=u.2.ownBlock:=by simp [Ghost.blk,h,hr,hm]
theorem EntOK.same {id:Nat} {E:Ent} (h:EntOK W0 g w id E) (hg:g.le g') (h1:g'.loc id=g.loc id) (h2:g'.row id=g.row id) (h3:g'.own id=g.own id) (h4:g'.mr id=g.mr id)
  (hb:∀ b,g.blk id=some b→w'.heap[b]?=w.heap[b]?∧∀ o,g'.G b o=g.G b o):EntOK W0 g' w' id E:=by
 cases E with
 | none=>exact ⟨h1.trans h.1,h2.trans h.2.1,h3.trans h.2.2.1,h4.trans h.2.2.2⟩
 | glob q x=>
  obtain ⟨k1,k2,k3,⟨u,k4,k5⟩,k6⟩:=h
  exact ⟨h1.trans k1,h2.trans k2,h3.trans k3,⟨u,h4.trans k4,k5⟩,k6.mono hg⟩
 | mark=>
  obtain ⟨k1,k2,b,u,k3,k4,k5,k6⟩:=h
  obtain ⟨l1,l2⟩:=hb b (Ghost.blk_loc k3)
  exact ⟨h3.trans k1,h4.trans k2,b,u,h1.trans k3,h2.trans k4,l1.trans k5,fun o=>(l2 o).trans (k6 o)⟩
 | loop l N r s=>
  obtain ⟨k1,k2,⟨u,k3⟩,k4,⟨T,k5,k6,k7⟩,k8⟩:=h
  obtain ⟨l1,l2⟩:=hb l (Ghost.blk_loc k4)
  exact ⟨h3.trans k1,h2.trans k2,⟨u,h4.trans k3⟩,h1.trans k4,⟨T,k5,fun t=>(k6 t).mono hg,l1.trans k7⟩,fun o=>(l2 o).trans (k8 o)⟩
 | box t x=>
  obtain ⟨k1,k2,k3,b,v,k4,k5,k6,k7⟩:=h
  obtain ⟨l1,l2⟩:=hb b (Ghost.blk_loc k4)
  exact ⟨h2.trans k1,h3.trans k2,h4.trans k3,b,v,h1.trans k4,k5.mono hg,l1.trans k6,fun o=>(l2 o).trans (k7 o)⟩
 | fbox t x=>
  obtain ⟨k1,k2,k3,b,v,k4,k5,k6,k7⟩:=h
  obtain ⟨l1,l2⟩:=hb b (Ghost.blk_loc k4)
  exact ⟨h2.trans k1,h3.trans k2,h4.trans k3,b,v,h1.trans k4,k5.mono hg,l1.trans k6,fun o=>(l2 o).trans (k7 o)⟩
 | row e size k=>
  obtain ⟨k1,u,cells,k3,k4,k5⟩:=h
  refine ⟨h1.trans k1,u,cells,h2.trans k3,k4,?_⟩
  rcases k5 with ⟨k5,k6,k7⟩ | ⟨k5,k6,k7,A,k8,k9⟩
  ·have hbl:∀ b,u.ownBlock=some b→w'.heap[b]?=w.heap[b]?∧∀ o,g'.G b o=g.G b o:=fun b hb'=>hb b (by rw [Ghost.blk_row k1 k3,k6];exact hb')
   refine .inl ⟨⟨k5.1,?_⟩,h3.trans k6,fun b hb' o=>((hbl b hb').2 o).trans (k7 b hb' o)⟩
   rcases k5.2 with hz | ⟨g0,cap,cur,fz,rfl,r1,r2,r3⟩
   ·exact .inl hz
   ·exact .inr ⟨g0,cap,cur,fz,rfl,r1,(hbl g0 rfl).1.trans r2,r3⟩
  ·exact .inr ⟨h3.trans k5,k6,k7,A,k8,fun j v hv=>⟨(k9 j v hv).1,hg.G _ _ _ (k9 j v hv).2⟩⟩
 | mrow ver e size xs=>
  obtain ⟨k1,k2,k3,u,vs,k4,k5,k6,k7,k8,k9,k10⟩:=h
  have hbl:∀ b,u.ownBlock=some b→w'.heap[b]?=w.heap[b]?∧∀ o,g'.G b o=g.G b o:=fun b hb'=>hb b (by rw [Ghost.blk_mr k1 k2 k4];exact hb')
  refine ⟨h1.trans k1,h2.trans k2,h3.trans k3,u,vs,h4.trans k4,k5,k6,fun i x v hx hv=>(k7 i x v hx hv).mono hg,k8,⟨k9.1,?_⟩,fun b hb' o=>((hbl b hb').2 o).trans (k10 b hb' o)⟩
  rcases k9.2 with hz | ⟨g0,cap,cur,fz,rfl,r1,r2,r3⟩
  ·exact .inl hz
  ·exact .inr ⟨g0,cap,cur,fz,rfl,r1,(hbl g0 rfl).1.trans r2,r3⟩
theorem Sim.same_heap (h:Sim W0 g σ n w) (hh:w'.heap=w.heap) (h1:w'.os=w.os) (h2:w'.tape=w.tape) (h3:w'.output=w.output):Sim W0 g σ n w':=by
 have hc:∀ a,w'.cell? a=w.cell? a:=fun a=>by simp [World.cell?,hh]
 exact ⟨⟨by rw [h1];exact h.below.os,by rw [h2];exact h.below.tape,by rw [h3];exact h.below.output,by rw [hh];exact h.below.size,by rw [hh];exact h.below.block⟩,
  fun b o v hv=>by rw [hc];exact h.imm b o v hv,h.bound,fun id=>(h.ents id).same g.le_refl rfl rfl rfl rfl fun b _=>⟨by rw [hh],fun _=>rfl⟩,h.sep,fun i b hb=>by rw [hh];exact h.fresh i b hb⟩
theorem Sim.drew (h:Sim W0 g σ n w):Sim W0 g σ n { w with drawn:=w.drawn+1 }:=h.same_heap rfl rfl rfl rfl
theorem Sim.more (h:Sim W0 g σ n w) {n':Nat} (hn:n≤n'):Sim W0 g σ n' w:={ h with bound:=fun id hid=>h.bound id (Nat.le_trans hn hid) }
theorem Sim.lt (h:Sim W0 g σ n w) {i b:Nat} (hb:g.blk i=some b):b < w.heap.size:=(h.fresh i b hb).2
theorem Sim.change (h:Sim W0 g σ n w) {k:Nat} {E:Ent} (hn:k < n) (hle:g.le g') (hbelow:Below W0.heap.size W0 w') (himm:∀ b o v,g'.G b o=some v→w'.cell? ⟨b,o,none⟩=some v)
  (hsame:∀ id,id≠k→g'.loc id=g.loc id∧g'.row id=g.row id∧g'.own id=g.own id∧g'.mr id=g.mr id)
  (hblk:∀ id,id≠k→∀ b,g.blk id=some b→(w'.heap[b]?=w.heap[b]?∧∀ o,g'.G b o=g.G b o)∧g'.blk k≠some b)
  (hE:EntOK W0 g' w' k E) (hfresh:∀ b,g'.blk k=some b→W0.heap.size≤b∧b < w'.heap.size) (hsz:w.heap.size≤w'.heap.size):Sim W0 g' (upd σ k E) n w':=by
 have bs:∀ id,id≠k→g'.blk id=g.blk id:=fun id hid=>by
  obtain ⟨h1,h2,h3,h4⟩:=hsame id hid
  simp [Ghost.blk,h1,h2,h3,h4]
 refine ⟨hbelow,himm,fun id hid=>?_,fun id=>?_,fun i j b hi hj=>?_,fun i b hi=>?_⟩
 ·rw [zg _ _ _ _ oo];exact h.bound id hid
 ·by_cases hid:id=k
  ·subst hid;rw [zr];exact hE
  ·rw [zg _ _ _ _ hid]
   obtain ⟨h1,h2,h3,h4⟩:=hsame id hid
   exact (h.ents id).same hle h1 h2 h3 h4 fun b hb=>(hblk id hid b hb).1
 ·by_cases h1:i=k <;> by_cases h2:j=k
  ·omega
  ·subst h1;rw [bs j h2] at hj;exact absurd hi (hblk j h2 b hj).2
  ·subst h2;rw [bs i h1] at hi;exact absurd hj (hblk i h1 b hi).2
  ·rw [bs i h1] at hi;rw [bs j h2] at hj;exact h.sep i j b hi hj
 ·by_cases h1:i=k
  ·subst h1;exact hfresh b hi
  ·rw [bs i h1] at hi;exact ⟨(h.fresh i b hi).1,Nat.lt_of_lt_of_le (h.fresh i b hi).2 hsz⟩
end
def Ghost.has (g:Ghost) (j:Nat):Prop:=g.loc j≠none∨g.row j≠none∨g.mr j≠none
theorem Ghost.le.has {g g':Ghost} (h:g.le g') {j:Nat} (hj:g.has j):g'.has j:=by
 rcases hj with hj | hj | hj
 ·obtain ⟨b,hb⟩:=Option.ne_none_iff_exists'.1 hj
  exact .inl (by rw [h.loc j b hb];simp)
 ·obtain ⟨u,hu⟩:=Option.ne_none_iff_exists'.1 hj
  obtain ⟨u',h1,_⟩:=h.row j u hu
  exact .inr (.inl (by rw [h1];simp))
 ·obtain ⟨u,hu⟩:=Option.ne_none_iff_exists'.1 hj
  obtain ⟨u',h1,_⟩:=h.mr j u hu
  exact .inr (.inr (by rw [h1];simp))
theorem Ghost.le.row_ne {g g':Ghost} (h:g.le g') {j:Nat} (hj:g.row j≠none):g'.row j≠none:=by
 obtain ⟨u,hu⟩:=Option.ne_none_iff_exists'.1 hj
 obtain ⟨u',h1,_⟩:=h.row j u hu
 rw [h1];simp
theorem Sim.has {W0:World} {g:Ghost} {σ:Nat→Ent} {n:Nat} {w:World} (h:Sim W0 g σ n w) {j:Nat} (hj:σ j≠.none):g.has j:=by
 have he:=h.ents j
 cases hs:σ j with
 | none=>exact absurd hs hj
 | box t x=>rw [hs] at he;obtain ⟨_,_,_,b,v,h1,_⟩:=he;exact .inl (by rw [h1];simp)
 | fbox t x=>rw [hs] at he;obtain ⟨_,_,_,b,v,h1,_⟩:=he;exact .inl (by rw [h1];simp)
 | row e size k=>rw [hs] at he;obtain ⟨_,u,_,h1,_⟩:=he;exact .inr (.inl (by rw [h1];simp))
 | mrow ver e size xs=>rw [hs] at he;obtain ⟨_,_,_,u,_,h1,_⟩:=he;exact .inr (.inr (by rw [h1];simp))
 | glob q x=>rw [hs] at he;obtain ⟨_,_,_,⟨u,h1,_⟩,_⟩:=he;exact .inr (.inr (by rw [h1];simp))
 | mark=>rw [hs] at he;obtain ⟨_,_,b,u,h1,_⟩:=he;exact .inl (by rw [h1];simp)
 | loop l N r s=>rw [hs] at he;obtain ⟨_,_,_,h1,_⟩:=he;exact .inl (by rw [h1];simp)
theorem Sim.is_mark {W0:World} {g:Ghost} {σ:Nat→Ent} {n:Nat} {w:World} (h:Sim W0 g σ n w) {j r:Nat} (h1:g.loc j=some r) (h2:g.row j≠none):σ j=.mark:=by
 have he:=h.ents j
 cases hs:σ j with
 | none=>rw [hs] at he;rw [he.1] at h1;cases h1
 | box t x=>rw [hs] at he;exact absurd he.1 h2
 | fbox t x=>rw [hs] at he;exact absurd he.1 h2
 | row e size k=>rw [hs] at he;rw [he.1] at h1;cases h1
 | mrow ver e size xs=>rw [hs] at he;rw [he.1] at h1;cases h1
 | glob q x=>rw [hs] at he;rw [he.1] at h1;cases h1
 | mark=>rfl
 | loop l N r s=>rw [hs] at he;exact absurd he.2.1 h2
theorem Sim.mark_at {W0:World} {g:Ghost} {σ:Nat→Ent} {n:Nat} {w:World} (h:Sim W0 g σ n w) {j r:Nat} (h1:g.loc j=some r) (h2:σ j=.mark):w.heap[r]?=some (.deferred (some []))∧∀ o,g.G r o=none:=by
 have he:=h.ents j
 rw [h2] at he
 obtain ⟨_,_,b,u,k1,_,k2,k3⟩:=he
 rw [h1] at k1;cases k1
 exact ⟨k2,k3⟩
section
variable {W0:World} {g:Ghost} {σ:Nat→Ent} {n:Nat} {w:World}
theorem Sim.G_lt (h:Sim W0 g σ n w) {b o:Nat} {v:Value} (hv:g.G b o=some v):b < w.heap.size:=World.block_lt_of_cell? w ⟨b,o,none⟩ (h.imm b o v hv)
theorem Sim.G_new (h:Sim W0 g σ n w) (o:Nat):g.G w.heap.size o=none:=by
 cases hv:g.G w.heap.size o with
 | none=>rfl
 | some v=>have:=h.G_lt hv;omega
theorem Sim.blk_new (h:Sim W0 g σ n w) (i:Nat):g.blk i≠some w.heap.size:=fun hb=>by have:=h.lt hb;omega
theorem zed {w w':World} {b o:Nat} (h:w'.heap[b]?=w.heap[b]?):w'.cell? ⟨b,o,none⟩=w.cell? ⟨b,o,none⟩:=by
 unfold World.cell?
 simp only [h]
theorem Sim.alloc (h:Sim W0 g σ n w) (o:Obj):Sim W0 g σ n (w.alloc o):=by
 have old:∀ b,b < w.heap.size→(w.alloc o).heap[b]?=w.heap[b]?:=fun b hb=>heap_alloc_old w o b hb
 refine ⟨h.below.alloc h.below.size o,fun b o' v hv=>?_,h.bound,fun id=>(h.ents id).same g.le_refl rfl rfl rfl rfl fun b hb=>⟨old b (h.lt hb),fun _=>rfl⟩,h.sep,fun i b hb=>⟨(h.fresh i b hb).1,by simp;have:=(h.fresh i b hb).2;omega⟩⟩
 rw [zed (old b (h.G_lt hv))];exact h.imm b o' v hv
theorem Ghost.le_G {g:Ghost} {b:Nat} (hG:∀ o,g.G b o=none) (f:Nat→Option Value):g.le { g with G:=upd g.G b f }:=
 ⟨fun b' o v hv=>by
  by_cases hb:b'=b
  ·subst hb;rw [hG] at hv;cases hv
  ·show upd g.G b f b' o=some v
   rw [zg _ _ _ _ hb];exact hv,fun _ _ h=>h,fun _ u h=>⟨u,h,.inl rfl⟩,fun _ u h=>⟨u,h,.inl rfl⟩⟩
theorem Ghost.le_loc {g:Ghost} {k:Nat} (hl:g.loc k=none) (b:Nat):g.le { g with loc:=upd g.loc k (some b) }:=
 ⟨fun _ _ _ h=>h,fun id b' hb'=>by
  have:id≠k:=by rintro rfl;rw [hl] at hb';cases hb'
  simpa [zg _ _ _ _ this] using hb',fun _ u h=>⟨u,h,.inl rfl⟩,fun _ u h=>⟨u,h,.inl rfl⟩⟩
theorem Sim.addBox (h:Sim W0 g σ n w) {k b:Nat} {t:TypeId} {x:AV} {v:Value} (hk:σ k=.none) (hn:k < n) (hb:w.heap[b]?=some (.cells v.cells t (0,0))) (hr:Rep g x v)
  (hW:W0.heap.size≤b) (hG:∀ o,g.G b o=none) (hfree:∀ i,g.blk i≠some b):
  g.le { g with loc:=upd g.loc k (some b) }∧Sim W0 { g with loc:=upd g.loc k (some b) } (upd σ k (.box t x)) n w:=by
 obtain ⟨hl,hrw,ho,hm⟩:=h.free k hk
 have hle:=Ghost.le_loc hl b
 have hbk:Ghost.blk { g with loc:=upd g.loc k (some b) } k=some b:=by simp [Ghost.blk,upd]
 refine ⟨hle,h.change hn hle h.below h.imm (fun id hid=>⟨by simp [zg _ _ _ _ hid],rfl,rfl,rfl⟩) (fun id hid b' hb'=>⟨⟨rfl,fun _=>rfl⟩,?_⟩) ?_ (fun b' hb'=>?_) (Nat.le_refl _)⟩
 ·rw [hbk];intro e;cases e;exact hfree id hb'
 ·exact ⟨hrw,ho,hm,b,v,by simp [zr],hr.mono hle,hb,hG⟩
 ·rw [hbk] at hb';cases hb';exact ⟨hW,(Array.getElem?_eq_some_iff.1 hb).1⟩
theorem Sim.newBox (h:Sim W0 g σ n w) {k:Nat} {t:TypeId} {x:AV} {v:Value} (hk:σ k=.none) (hn:k < n) (hr:Rep g x v):
  ∃ g',g.le g'∧Sim W0 g' (upd σ k (.box t x)) n (w.alloc (.cells v.cells t))∧g'.loc k=some w.heap.size:=by
 have h1:=(h.alloc (.cells v.cells t)).addBox (b:=w.heap.size) hk hn (heap_alloc_new w _) hr h.below.size h.G_new h.blk_new
 exact ⟨_,h1.1,h1.2,by simp [zr]⟩
theorem Sim.addRow (h:Sim W0 g σ n w) {k:Nat} {e:TypeId} {size m:Nat} {u:Value} {cells:List Value} (hk:σ k=.none) (hn:k < n) (hown:ownsR w W0.heap.size e size u m cells) (hlen:zdX u=m)
  (hG:∀ b,u.ownBlock=some b→∀ o,g.G b o=none) (hfree:∀ b,u.ownBlock=some b→∀ i,g.blk i≠some b):
  ∃ g',g.le g'∧Sim W0 g' (upd σ k (.row e size m)) n w∧g'.row k=some u∧(∀ b,u.ownBlock=some b→∀ o,g'.G b o=cells[o]?):=by
 obtain ⟨hl,hrw,ho,hm⟩:=h.free k hk
 obtain ⟨F,hF,hFo⟩:∃ F:Nat→Nat→Option Value,(∀ b,u.ownBlock=some b→F b=fun o=>cells[o]?)∧(∀ b,u.ownBlock≠some b→F b=g.G b):=by
  refine ⟨fun b=>if u.ownBlock=some b then fun o=>cells[o]? else g.G b,fun b hb=>by simp [hb],fun b hb=>by simp [hb]⟩
 have hcell:∀ b,u.ownBlock=some b→∀ o v,cells[o]?=some v→w.cell? ⟨b,o,none⟩=some v:=fun b hb o v hv=>by
  exact hown.cells hb o v hv
 let g':Ghost:={ g with G:=F,row:=upd g.row k (some u),own:=upd g.own k u.ownBlock }
 have hle:g.le g':=by
  refine ⟨fun b o v hv=>?_,fun _ _ h=>h,fun id u' hu'=>?_,fun _ u h=>⟨u,h,.inl rfl⟩⟩
  ·have hne:u.ownBlock≠some b:=fun hb=>by rw [hG b hb o] at hv;cases hv
   show F b o=some v
   rw [hFo b hne];exact hv
  ·have hne:id≠k:=by rintro rfl;rw [hrw] at hu';cases hu'
   exact ⟨u',by show upd g.row k (some u) id=some u';rw [zg _ _ _ _ hne];exact hu',.inl rfl⟩
 have hbk:g'.blk k=u.ownBlock:=by simp [Ghost.blk,g',hl,upd]
 refine ⟨g',hle,h.change hn hle h.below (fun b o v hv=>?_) (fun id hid=>⟨rfl,by simp [g',zg _ _ _ _ hid],by simp [g',zg _ _ _ _ hid],rfl⟩) (fun id hid b hb=>⟨⟨rfl,fun o=>?_⟩,?_⟩) ?_ (fun b hb=>?_) (Nat.le_refl _),
  by simp [g',zr],fun b hb o=>by show F b o=_;rw [hF b hb]⟩
 ·have hv':F b o=some v:=hv
  by_cases hb:u.ownBlock=some b
  ·rw [hF b hb] at hv';exact hcell b hb o v hv'
  ·rw [hFo b hb] at hv';exact h.imm b o v hv'
 ·show F b o=_
  rw [hFo b fun e=>hfree b e id hb]
 ·rw [hbk];exact fun e=>hfree b e id hb
 ·exact ⟨hl,u,cells,by simp [g',zr],hlen,.inl ⟨hown,by simp [g',zr],fun b hb o=>by show F b o=_;rw [hF b hb]⟩⟩
 ·rw [hbk] at hb;exact hown.lt b hb
theorem Sim.newRow (h:Sim W0 g σ n w) {k:Nat} {e:TypeId} {size m:Nat} {cells:List Value} (hk:σ k=.none) (hn:k < n) (cur:Array Value) (cap:Nat) (hlen:cells.length=m * size) (hmc:m≤cap) (hcm:cap≤maxLen)
  (hcur:cur.size=cap * size) (htake:cur.toList.take (m * size)=cells):
  ∃ g',g.le g'∧Sim W0 g' (upd σ k (.row e size m)) n (w.alloc (.cells cur e))∧g'.row k=some (.slice (some ⟨w.heap.size,0,none⟩) m cap)∧(∀ o,g'.G w.heap.size o=cells[o]?):=by
 have hown:ownsR (w.alloc (.cells cur e)) W0.heap.size e size (.slice (some ⟨w.heap.size,0,none⟩) m cap) m cells:=
  ⟨hlen,.inr ⟨w.heap.size,cap,cur,(0,0),rfl,h.below.size,heap_alloc_new w _,jJ _,hmc,hcm,hcur,htake⟩⟩
 obtain ⟨g',h1,h2,h3,h4⟩:=(h.alloc (.cells cur e)).addRow hk hn hown rfl (fun b hb o=>by simp [Value.ownBlock] at hb;subst hb;exact h.G_new o) (fun b hb i=>by simp [Value.ownBlock] at hb;subst hb;exact h.blk_new i)
 exact ⟨g',h1,h2,h3,h4 _ rfl⟩
theorem Sim.addClip (h:Sim W0 g σ n w) {k:Nat} {e:TypeId} {size m:Nat} {A:Addr} {cells:List Value} (hk:σ k=.none) (hn:k < n) (hlen:cells.length=m * size) (hm:m≤maxLen) (hcell:∀ (j:Nat) (v:Value),cells[j]?=some v→A.spot=none∧g.G A.block (A.off+j)=some v):
  ∃ g',g.le g'∧Sim W0 g' (upd σ k (.row e size m)) n w∧g'.row k=some (.slice (some A) m m):=by
 obtain ⟨hl,hrw,ho,hmr⟩:=h.free k hk
 let g':Ghost:={ g with row:=upd g.row k (some (.slice (some A) m m)) }
 have hle:g.le g':=⟨fun _ _ _ h=>h,fun _ _ h=>h,fun id u' hu'=>by
  have hne:id≠k:=by rintro rfl;rw [hrw] at hu';cases hu'
  exact ⟨u',by show upd g.row k _ id=some u';rw [zg _ _ _ _ hne];exact hu',.inl rfl⟩,fun _ u h=>⟨u,h,.inl rfl⟩⟩
 have hbk:g'.blk k=none:=by simp [Ghost.blk,g',hl,upd,ho]
 exact ⟨g',hle,h.change hn hle h.below h.imm (fun id hid=>⟨rfl,by simp [g',zg _ _ _ _ hid],rfl,rfl⟩) (fun id hid b hb=>⟨⟨rfl,fun _=>rfl⟩,by rw [hbk];simp⟩)
  ⟨hl,_,cells,by simp [g',zr],rfl,.inr ⟨ho,hlen,hm,A,rfl,hcell⟩⟩ (fun b hb=>by rw [hbk] at hb;cases hb) (Nat.le_refl _),by simp [g',zr]⟩
theorem Sim.store (h:Sim W0 g σ n w) {id b:Nat} {t:TypeId} {x x':AV} {v':Value} (hx:σ id=.box t x) (hb:g.loc id=some b) (hr:Rep g x' v'):
  Sim W0 g (upd σ id (.box t x')) n (w.setRow b v'.cells):=by
 have hE:=h.ents id
 rw [hx] at hE
 obtain ⟨hrow,ho,hm,b0,v,hb0,hrep,hheap,hG⟩:=hE
 have:b0=b:=by rw [hb] at hb0;injection hb0 with e;exact e.symm
 subst this
 have hblk:g.blk id=some b0:=Ghost.blk_loc hb
 have hW:=(h.fresh id b0 hblk).1
 have hidn:id < n:=by
  rcases Nat.lt_or_ge id n with h' | h'
  ·exact h'
  ·have:=h.bound id h';rw [hx] at this;cases this
 have other:∀ k,k≠b0→(w.setRow b0 v'.cells).heap[k]?=w.heap[k]?:=fun k hk=>setRow_other w b0 k _ hk
 have hsz:(w.setRow b0 v'.cells).heap.size=w.heap.size:=by simp [World.setRow]
 refine h.change hidn g.le_refl ⟨h.below.os,h.below.tape,h.below.output,by rw [hsz];exact h.below.size,fun k hk=>by rw [other k oo];exact h.below.block k hk⟩ (fun b' o u hu=>?_) (fun _ _=>⟨rfl,rfl,rfl,rfl⟩)
  (fun i hi b' hb'=>?_) ⟨hrow,ho,hm,b0,v',hb,hr,setRow_heap w b0 _ _ _ _ hheap,hG⟩ (fun b' hb'=>by rw [hsz];exact h.fresh id b' hb') (by rw [hsz];exact Nat.le_refl _)
 ·have hne:b'≠b0:=by rintro rfl;rw [hG] at hu;cases hu
  rw [zed (other b' hne)];exact h.imm b' o u hu
 ·have hne:b'≠b0:=fun e=>hi (h.sep i id b' hb' (by rw [hblk,e]))
  exact ⟨⟨other b' hne,fun _=>rfl⟩,by rw [hblk];intro e;cases e;exact hne rfl⟩
theorem Sim.freeze (h:Sim W0 g σ n w) {id b:Nat} {t:TypeId} {x:AV} (hx:σ id=.box t x) (hb:g.loc id=some b):
  ∃ g',g.le g'∧Sim W0 g' (upd σ id (.fbox t x)) n w∧(∃ v,Rep g' x v∧∀ (o:Nat),g'.G b o=v.cells[o]?):=by
 have hE:=h.ents id
 rw [hx] at hE
 obtain ⟨hrow,ho,hm,b0,v,hb0,hrep,hheap,hG⟩:=hE
 have:b0=b:=by rw [hb] at hb0;injection hb0 with e;exact e.symm
 subst this
 have hblk:g.blk id=some b0:=Ghost.blk_loc hb
 have hidn:id < n:=by
  rcases Nat.lt_or_ge id n with h' | h'
  ·exact h'
  ·have:=h.bound id h';rw [hx] at this;cases this
 let g':Ghost:={ g with G:=upd g.G b0 fun o=>v.cells[o]? }
 have hle:g.le g':=Ghost.le_G hG _
 refine ⟨g',hle,h.change hidn hle h.below (fun b' o u hu=>?_) (fun _ _=>⟨rfl,rfl,rfl,rfl⟩) (fun i hi b' hb'=>?_) ⟨hrow,ho,hm,b0,v,hb,hrep.mono hle,hheap,fun o=>by simp [g',zr]⟩ (fun b' hb'=>h.fresh id b' hb') (Nat.le_refl _),v,hrep.mono hle,fun o=>by simp [g',zr]⟩
 ·by_cases hne:b'=b0
  ·subst hne
   have hu':upd g.G b' (fun o=>v.cells[o]?) b' o=some u:=hu
   rw [zr] at hu'
   rw [cell_of_row w b' o _ _ _ hheap];exact hu'
  ·have hu':upd g.G b0 (fun o=>v.cells[o]?) b' o=some u:=hu
   rw [zg _ _ _ _ hne] at hu'
   exact h.imm b' o u hu'
 ·have hne:b'≠b0:=fun e=>hi (h.sep i id b' hb' (by rw [hblk,e]))
  refine ⟨⟨rfl,fun o=>?_⟩,?_⟩
  ·show upd g.G b0 _ b' o=g.G b' o
   rw [zg _ _ _ _ hne]
  ·show g.blk id≠some b'
   rw [hblk];intro e;cases e;exact hne rfl
theorem Sim.grow (h:Sim W0 g σ n w) {id:Nat} {e:TypeId} {size k m:Nat} (hx:σ id=.row e size k) {u u':Value} {cells news:List Value} {w':World}
  (hu:g.row id=some u) (hcells:∀ b,g.own id=some b→∀ (o:Nat),g.G b o=cells[o]?) (hown':ownsR w' W0.heap.size e size u' (k+m) (cells++news)) (hlen:zdX u=k) (hlen':zdX u'=k+m)
  (h1:w'.os=w.os) (h2:w'.tape=w.tape) (h3:w'.output=w.output) (hsz:w.heap.size≤w'.heap.size)
  (hw:(u'=u∧m=0∧g.own id=u.ownBlock∧w'.heap=w.heap)∨(0 < m∧u'.ownBlock=u.ownBlock∧g.own id=u.ownBlock∧∀ j,u.ownBlock≠some j→j < w.heap.size→w'.heap[j]?=w.heap[j]?) ∨
   (0 < m∧u'.ownBlock=some w.heap.size∧∀ j,j < w.heap.size→w'.heap[j]?=w.heap[j]?)):
  ∃ g',g.le g'∧Sim W0 g' (upd σ id (.row e size (k+m))) n w'∧g'.row id=some u'∧(∀ b,u'.ownBlock=some b→∀ (o:Nat),g'.G b o=(cells++news)[o]?):=by
 have hE:=h.ents id
 rw [hx] at hE
 obtain ⟨hl,u0,cells0,hu0,hlen0,hdis⟩:=hE
 have:u0=u:=by rw [hu] at hu0;injection hu0 with e;exact e.symm
 subst this
 have hblk:g.blk id=g.own id:=Ghost.blk_row hl hu
 have hidn:id < n:=by
  rcases Nat.lt_or_ge id n with h' | h'
  ·exact h'
  ·have:=h.bound id h';rw [hx] at this;cases this
 have hheap:∀ j,g.own id≠some j→j < w.heap.size→w'.heap[j]?=w.heap[j]?:=by
  intro j hj hlt
  rcases hw with ⟨_,_,_,h⟩ | ⟨_,_,h0,h⟩ | ⟨_,_,h⟩
  ·rw [h]
  ·exact h j (by rw [← h0];exact hj) hlt
  ·exact h j hlt
 have same_u:u'.ownBlock=g.own id∨u'.ownBlock=some w.heap.size:=by
  rcases hw with ⟨rfl,_,h,_⟩ | ⟨_,h,h0,_⟩ | ⟨_,h,_⟩
  ·exact .inl h.symm
  ·exact .inl (h.trans h0.symm)
  ·exact .inr h
 have hcur:∀ b,g.own id=some b→∀ o v,cells[o]?=some v→w'.cell? ⟨b,o,none⟩=some v:=by
  intro b hb o v hv
  rcases hw with ⟨_,_,_,hh⟩ | ⟨_,he,h0,_⟩ | ⟨_,_,hh⟩
  ·have:=h.imm b o v (by rw [hcells b hb];exact hv)
   simpa [World.cell?,hh] using this
  ·exact hown'.cells (he.trans (h0.symm.trans hb)) o v (by rw [List.getElem?_append_left (List.getElem?_eq_some_iff.1 hv).1];exact hv)
  ·have hblt:b < w.heap.size:=(h.fresh id b (hblk.trans hb)).2
   rw [zed (hh b hblt)]
   exact h.imm b o v (by rw [hcells b hb];exact hv)
 let F:Nat→Nat→Option Value:=fun b=>if u'.ownBlock=some b then fun o=>(cells++news)[o]? else g.G b
 have hF:∀ b,u'.ownBlock=some b→F b=fun o=>(cells++news)[o]?:=fun b hb=>by simp [F,hb]
 have hFo:∀ b,u'.ownBlock≠some b→F b=g.G b:=fun b hb=>by simp [F,hb]
 let g':Ghost:={ g with G:=F,row:=upd g.row id (some u'),own:=upd g.own id u'.ownBlock }
 have hle:g.le g':=by
  refine ⟨fun b o v hv=>?_,fun _ _ h=>h,fun i v hv=>?_,fun _ u h=>⟨u,h,.inl rfl⟩⟩
  ·show F b o=some v
   by_cases hb:u'.ownBlock=some b
   ·rw [hF b hb]
    rcases same_u with he | he
    ·have hv':cells[o]?=some v:=by rw [← hcells b (he.symm.trans hb)];exact hv
     show (cells++news)[o]?=some v
     rw [List.getElem?_append_left (List.getElem?_eq_some_iff.1 hv').1];exact hv'
    ·have:b=w.heap.size:=by rw [hb] at he;injection he
     subst this
     rw [h.G_new] at hv;cases hv
   ·rw [hFo b hb];exact hv
  ·by_cases hi:i=id
   ·subst hi
    have:v=u0:=by rw [hu] at hv;injection hv with e;exact e.symm
    subst this
    refine ⟨u',by show upd g.row i (some u') i=_;rw [zr],?_⟩
    rcases hw with ⟨rfl,_⟩ | ⟨hm,_⟩ | ⟨hm,_⟩
    ·exact .inl rfl
    ·exact .inr oo
    ·exact .inr oo
   ·exact ⟨v,by show upd g.row id (some u') i=_;rw [zg _ _ _ _ hi];exact hv,.inl rfl⟩
 have hbk:g'.blk id=u'.ownBlock:=by simp [Ghost.blk,g',hl,upd]
 have ne_u:∀ i,i≠id→∀ b,g.blk i=some b→g.own id≠some b∧u'.ownBlock≠some b∧b < w.heap.size:=by
  intro i hi b hb
  have hlt:=(h.fresh i b hb).2
  have h0:g.own id≠some b:=fun e=>hi (h.sep i id b hb (hblk.trans e))
  refine ⟨h0,fun e=>?_,hlt⟩
  rcases same_u with he | he
  ·exact h0 (he ▸ e)
  ·rw [e] at he;injection he with he;omega
 have hW:∀ b,g.own id=some b→W0.heap.size≤b:=fun b hb=>(h.fresh id b (hblk.trans hb)).1
 refine ⟨g',hle,h.change hidn hle ⟨h1.trans h.below.os,h2.trans h.below.tape,h3.trans h.below.output,Nat.le_trans h.below.size hsz,fun j hj=>?_⟩ (fun b o v hv=>?_) (fun i hi=>⟨rfl,by simp [g',zg _ _ _ _ hi],by simp [g',zg _ _ _ _ hi],rfl⟩)
  (fun i hi b hb=>?_) ?_ (fun b hb=>?_) hsz,by simp [g',zr],fun b hb o=>by show F b o=_;rw [hF b hb]⟩
 ·rw [hheap j (fun e=>by have:=hW j e;omega) (Nat.lt_of_lt_of_le hj h.below.size)]
  exact h.below.block j hj
 ·have hv':F b o=some v:=hv
  by_cases hb:u'.ownBlock=some b
  ·rw [hF b hb] at hv'
   exact hown'.cells hb o v hv'
  ·rw [hFo b hb] at hv'
   by_cases hb0:g.own id=some b
   ·exact hcur b hb0 o v (by rw [← hcells b hb0];exact hv')
   ·rw [zed (hheap b hb0 (h.G_lt hv'))]
    exact h.imm b o v hv'
 ·obtain ⟨n1,n2,n3⟩:=ne_u i hi b hb
  exact ⟨⟨hheap b n1 n3,fun o=>by show F b o=_;rw [hFo b n2]⟩,by rw [hbk];exact n2⟩
 ·exact ⟨hl,u',cells++news,by simp [g',zr],hlen',.inl ⟨hown',by simp [g',zr],fun b hb o=>by show F b o=_;rw [hF b hb]⟩⟩
 ·rw [hbk] at hb;exact hown'.lt b hb
theorem Sim.addM (h:Sim W0 g σ n w) {k:Nat} {e:TypeId} {size:Nat} {u:Value} {xs:List AV} {vs:List Value} (hk:σ k=.none) (hn:k < n) (hown:ownsR w W0.heap.size e size u xs.length (yG vs)) (hlen:zdX u=xs.length)
  (hvl:vs.length=xs.length) (hvr:∀ (i:Nat) (x:AV) (v:Value),xs[i]?=some x→vs[i]?=some v→Rep g x v) (hvs:∀ v∈vs,v.cells.size=size)
  (hG:∀ b,u.ownBlock=some b→∀ o,g.G b o=none) (hfree:∀ b,u.ownBlock=some b→∀ i,g.blk i≠some b):
  g.le { g with mr:=upd g.mr k (some (0,u)) }∧Sim W0 { g with mr:=upd g.mr k (some (0,u)) } (upd σ k (.mrow 0 e size xs)) n w:=by
 obtain ⟨hl,hrw,ho,hm⟩:=h.free k hk
 have hle:g.le { g with mr:=upd g.mr k (some (0,u)) }:=⟨fun _ _ _ h=>h,fun _ _ h=>h,fun _ u h=>⟨u,h,.inl rfl⟩,fun id u' hu'=>by
  have hne:id≠k:=by rintro rfl;rw [hm] at hu';cases hu'
  exact ⟨u',by show upd g.mr k _ id=some u';rw [zg _ _ _ _ hne];exact hu',.inl rfl⟩⟩
 have hbk:Ghost.blk { g with mr:=upd g.mr k (some (0,u)) } k=u.ownBlock:=by simp [Ghost.blk,hl,hrw,upd]
 refine ⟨hle,h.change hn hle h.below h.imm (fun id hid=>⟨rfl,rfl,rfl,by simp [zg _ _ _ _ hid]⟩) (fun id hid b hb=>⟨⟨rfl,fun _=>rfl⟩,by rw [hbk];exact fun e=>hfree b e id hb⟩)
  ⟨hl,hrw,ho,u,vs,by simp [zr],hlen,hvl,fun i x v hx hv=>(hvr i x v hx hv).mono hle,hvs,hown,hG⟩ (fun b hb=>by rw [hbk] at hb;exact hown.lt b hb) (Nat.le_refl _)⟩
theorem Sim.turnM (h:Sim W0 g σ n w) {id ver ver':Nat} {e:TypeId} {size:Nat} {xs xs':List AV} (hx:σ id=.mrow ver e size xs) {u u':Value} {vs':List Value} {w':World}
  (hu:g.mr id=some (ver,u)) (hver:(ver'=ver∧u'=u)∨ver < ver') (hown':ownsR w' W0.heap.size e size u' xs'.length (yG vs')) (hlen':zdX u'=xs'.length)
  (hvl:vs'.length=xs'.length) (hvr:∀ (i:Nat) (x:AV) (v:Value),xs'[i]?=some x→vs'[i]?=some v→Rep g x v) (hvs:∀ v∈vs',v.cells.size=size)
  (h1:w'.os=w.os) (h2:w'.tape=w.tape) (h3:w'.output=w.output) (hsz:w.heap.size≤w'.heap.size)
  (hw:u'.ownBlock=u.ownBlock∨u'.ownBlock=some w.heap.size) (hheap:∀ j,u.ownBlock≠some j→j < w.heap.size→w'.heap[j]?=w.heap[j]?):
  ∃ g',g.le g'∧Sim W0 g' (upd σ id (.mrow ver' e size xs')) n w'∧g'.mr id=some (ver',u')∧g'.G=g.G:=by
 have hE:=h.ents id
 rw [hx] at hE
 obtain ⟨hl,hrw,ho,u0,vs,hu0,hlen0,hvl0,hvr0,hvs0,hown0,hG0⟩:=hE
 have:u0=u:=by rw [hu] at hu0;injection hu0 with e;injection e with _ e;exact e.symm
 subst this
 have hblk:g.blk id=u0.ownBlock:=Ghost.blk_mr hl hrw hu
 have hidn:id < n:=by
  rcases Nat.lt_or_ge id n with h' | h'
  ·exact h'
  ·have:=h.bound id h';rw [hx] at this;cases this
 let g':Ghost:={ g with mr:=upd g.mr id (some (ver',u')) }
 have hle:g.le g':=⟨fun _ _ _ h=>h,fun _ _ h=>h,fun _ u h=>⟨u,h,.inl rfl⟩,fun i x hx'=>by
  by_cases hi:i=id
  ·subst hi
   rw [hu] at hx'
   injection hx' with hx'
   subst hx'
   refine ⟨(ver',u'),by show upd g.mr i _ i=_;rw [zr],?_⟩
   rcases hver with ⟨rfl,rfl⟩ | hver
   ·exact .inl rfl
   ·exact .inr hver
  ·exact ⟨x,by show upd g.mr id _ i=_;rw [zg _ _ _ _ hi];exact hx',.inl rfl⟩⟩
 have hbk:g'.blk id=u'.ownBlock:=by simp [Ghost.blk,g',hl,hrw,upd]
 have hW:∀ b,u0.ownBlock=some b→W0.heap.size≤b:=fun b hb=>(h.fresh id b (hblk.trans hb)).1
 have ne_u:∀ i,i≠id→∀ b,g.blk i=some b→u0.ownBlock≠some b∧u'.ownBlock≠some b∧b < w.heap.size:=by
  intro i hi b hb
  have hlt:=(h.fresh i b hb).2
  have h0:u0.ownBlock≠some b:=fun e=>hi (h.sep i id b hb (hblk.trans e))
  refine ⟨h0,fun e=>?_,hlt⟩
  rcases hw with he | he
  ·exact h0 (he ▸ e)
  ·rw [e] at he;injection he with he;omega
 refine ⟨g',hle,h.change hidn hle ⟨h1.trans h.below.os,h2.trans h.below.tape,h3.trans h.below.output,Nat.le_trans h.below.size hsz,fun j hj=>?_⟩ (fun b o v hv=>?_) (fun i hi=>⟨rfl,rfl,rfl,by simp [g',zg _ _ _ _ hi]⟩)
  (fun i hi b hb=>?_) ?_ (fun b hb=>?_) hsz,by simp [g',zr],rfl⟩
 ·rw [hheap j (fun e=>by have:=hW j e;omega) (Nat.lt_of_lt_of_le hj h.below.size)]
  exact h.below.block j hj
 ·have hv':g.G b o=some v:=hv
  have hne:u0.ownBlock≠some b:=fun e=>by rw [hG0 b e] at hv';cases hv'
  rw [zed (hheap b hne (h.G_lt hv'))]
  exact h.imm b o v hv'
 ·obtain ⟨n1,n2,n3⟩:=ne_u i hi b hb
  exact ⟨⟨hheap b n1 n3,fun o=>rfl⟩,by rw [hbk];exact n2⟩
 ·refine ⟨hl,hrw,ho,u',vs',by simp [g',zr],hlen',hvl,fun i x v hx hv=>(hvr i x v hx hv).mono hle,hvs,hown',fun b hb o=>?_⟩
  rcases hw with he | he
  ·exact hG0 b (he ▸ hb) o
  ·rw [hb] at he;injection he with he;subst he;exact h.G_new o
 ·rw [hbk] at hb;exact hown'.lt b hb
theorem Sim.freezeM (h:Sim W0 g σ n w) {id ver:Nat} {e:TypeId} {size:Nat} {xs:List AV} (hx:σ id=.mrow ver e size xs):
  ∃ g',g.le g'∧Sim W0 g' (upd σ id (.row e size xs.length)) n w∧∃ u vs,g.mr id=some (ver,u)∧g'.row id=some u∧zdX u=xs.length∧vs.length=xs.length∧(∀ (i:Nat) (x:AV) (v:Value),xs[i]?=some x→vs[i]?=some v→Rep g x v) ∧
   (∀ v∈vs,v.cells.size=size)∧ownsR w W0.heap.size e size u xs.length (yG vs)∧(∀ b,u.ownBlock=some b→∀ (o:Nat),g'.G b o=(yG vs)[o]?):=by
 have hE:=h.ents id
 rw [hx] at hE
 obtain ⟨hl,hrw,ho,u,vs,hu,hlen,hvl,hvr,hvs,hown,hG⟩:=hE
 have hblk:g.blk id=u.ownBlock:=Ghost.blk_mr hl hrw hu
 have hidn:id < n:=by
  rcases Nat.lt_or_ge id n with h' | h'
  ·exact h'
  ·have:=h.bound id h';rw [hx] at this;cases this
 let F:Nat→Nat→Option Value:=fun b=>if u.ownBlock=some b then fun o=>(yG vs)[o]? else g.G b
 have hF:∀ b,u.ownBlock=some b→F b=fun o=>(yG vs)[o]?:=fun b hb=>by simp [F,hb]
 have hFo:∀ b,u.ownBlock≠some b→F b=g.G b:=fun b hb=>by simp [F,hb]
 let g':Ghost:={ g with G:=F,row:=upd g.row id (some u),own:=upd g.own id u.ownBlock }
 have hle:g.le g':=by
  refine ⟨fun b o v hv=>?_,fun _ _ h=>h,fun i u' hu'=>?_,fun _ u h=>⟨u,h,.inl rfl⟩⟩
  ·have hne:u.ownBlock≠some b:=fun hb=>by rw [hG b hb o] at hv;cases hv
   show F b o=some v
   rw [hFo b hne];exact hv
  ·have hne:i≠id:=by rintro rfl;rw [hrw] at hu';cases hu'
   exact ⟨u',by show upd g.row id (some u) i=some u';rw [zg _ _ _ _ hne];exact hu',.inl rfl⟩
 have hbk:g'.blk id=u.ownBlock:=by simp [Ghost.blk,g',hl,upd]
 refine ⟨g',hle,h.change hidn hle h.below (fun b o v hv=>?_) (fun i hi=>⟨rfl,by simp [g',zg _ _ _ _ hi],by simp [g',zg _ _ _ _ hi],rfl⟩) (fun i hi b hb=>?_) ?_ (fun b hb=>?_) (Nat.le_refl _),
  u,vs,hu,by simp [g',zr],hlen,hvl,hvr,hvs,hown,fun b hb o=>by show F b o=_;rw [hF b hb]⟩
 ·have hv':F b o=some v:=hv
  by_cases hb:u.ownBlock=some b
  ·rw [hF b hb] at hv'
   exact hown.cells hb o v hv'
  ·rw [hFo b hb] at hv';exact h.imm b o v hv'
 ·have hne:u.ownBlock≠some b:=fun e=>hi (h.sep i id b hb (hblk.trans e))
  exact ⟨⟨rfl,fun o=>by show F b o=_;rw [hFo b hne]⟩,by rw [hbk];exact hne⟩
 ·exact ⟨hl,u,yG vs,by simp [g',zr],hlen,.inl ⟨hown,by simp [g',zr],fun b hb o=>by show F b o=_;rw [hF b hb]⟩⟩
 ·rw [hbk] at hb;exact hown.lt b hb
end
abbrev Slots:=Nat→AV
abbrev Foot:=List (Nat × Ent)
structure Cfg where
 s:Slots
 σ:Nat→Ent
 n:Nat
def wr (σ:Nat→Ent) (post:Foot):Nat→Ent:=post.foldl (fun σ p=>upd σ p.1 p.2) σ
theorem yi (σ:Nat→Ent):wr σ []=σ:=rfl
theorem zF (σ:Nat→Ent) (p:Nat × Ent) (q:Foot):wr σ (p::q)=wr (upd σ p.1 p.2) q:=rfl
theorem zbU (post:Foot):∀ (σ:Nat→Ent) (i:Nat),(∀ q∈post,q.1≠i)→wr σ post i=σ i:=by
 induction post with
 | nil=>intro σ i _;rfl
 | cons p r ih=>
  intro σ i h
  rw [zF,ih _ _ fun q hq=>h q (List.mem_cons_of_mem _ hq),zg _ _ _ _ (Ne.symm (h p (List.mem_cons_self ..)))]
theorem wC (post:Foot):∀ (σ:Nat→Ent) (i:Nat) (E:Ent),(∀ q∈post,q.1≠i)→wr (upd σ i E) post=upd (wr σ post) i E:=by
 induction post with
 | nil=>intro σ i E _;rfl
 | cons p r ih=>
  intro σ i E h
  rw [zF,zF,zps _ _ _ _ _ (Ne.symm (h p (List.mem_cons_self ..))),ih _ _ _ fun q hq=>h q (List.mem_cons_of_mem _ hq)]
theorem zu4 (p q:Foot):∀ σ:Nat→Ent,(∀ x∈p,∀ y∈q,x.1≠y.1)→wr (wr σ p) q=wr (wr σ q) p:=by
 induction p with
 | nil=>intro σ _;rfl
 | cons x r ih=>
  intro σ h
  rw [zF,zF,ih _ fun y hy=>h y (List.mem_cons_of_mem _ hy),wC q _ _ _ fun y hy=>Ne.symm (h x (List.mem_cons_self ..) y hy)]
def znB (s:Slots) (d:Option Tmp) (v:AV):Slots:=
 match d with
 | some d=>upd s d v
 | none=>s
def zl (s:Slots):Operand→AV
 | .tmp t=>s t
 | .const (.slice none 0 0)=>.nils
 | .const v=>.lit v
 | .func f=>.fn f []
 | .global g=>.lit (.pointer (some ⟨g,0,none⟩))
def zjE:Operand→Bool
 | .const (.agg _) | .const (.tuple _)=>false
 | _=>true
structure SimA (W0:World) (g:Ghost) (N:Nat) (c:Cfg) (a:Act) (w:World):Prop where
 sim:Sim W0 g c.σ c.n w
 size:a.tmps.size=N
 slots:∀ t,Rep g (c.s t) (a.tmps.getD t undef)
theorem SimA.eval {W0:World} {g:Ghost} {N:Nat} {c:Cfg} {a:Act} {w:World} (h:SimA W0 g N c a w) {x:Operand} (hx:zjE x=true):Rep g (zl c.s x) (a.eval x):=by
 cases x with
 | tmp t=>exact h.slots t
 | const v=>
  cases v with
  | slice A n c'=>
   cases A with
   | some ad=>exact .lit _ rfl
   | none=>
    cases n with
    | zero=>cases c' with
     | zero=>exact .nils
     | succ=>exact .lit _ rfl
    | succ=>exact .lit _ rfl
  | agg=>simp [zjE] at hx
  | tuple=>simp [zjE] at hx
  | _=>exact .lit _ rfl
 | func f=>exact .fn f [] [] rfl (fun i x v h _=>by simp at h)
 | global g'=>exact .lit _ rfl
def zdK (P:Program) (R:Value→World→Prop):Result Next→Prop
 | .ok (.value u) w'=>R u w'
 | .ok .skip w'=>R undef w'
 | .ok (.enter f args) w'=>Calls P f args w' (fun e w''=>∃ u,e=.returned u∧R u w'')
 | .ok (.round l f tmps assign body) w'=>RoundIn Fence.wide 0 P l f tmps assign body w' (fun e w''=>∃ u,e=.returned u∧R u w'')
 | _=>False
def runsTo (P:Program) (o:Oper) (a:Act) (w:World) (R:Value→World→Prop):Prop:=zdK P R ((execOp a.eval o).run P w)
abbrev wideAt (ro:Option Nat):Fence:={ Fence.wide with round:=ro }
theorem znr {P:Program} {o:Oper} {a:Act} {w:World} {R:Value→World→Prop} (h:runsTo P o a w R) (c:Call):o.op≠.defer c:=by
 intro hd
 unfold runsTo at h
 simp only [execOp,hd,Sem.run_bind,Sem.run_pure] at h
 generalize (resolve a.eval c o.type).run P w=r at h
 cases r with
 | ok d w'=>simp [zdK,Result.andThen] at h
 | halt x w'=>simp [zdK,Result.andThen] at h
theorem znx {P:Program} {o:Oper} {a:Act} {w:World} {R:Value→World→Prop} {K:Act→World→Prop} {Q:Exit→Act→World→Prop} {ro:Option Nat}
  (h:runsTo P o a w R) (hk:∀ u w',R u w'→K (a.put o.dst u) w'):o.wpIn (wideAt ro) 0 P a w K Q:=by
 refine ⟨fun f _=>trivial,?_⟩
 rw [Oper.semAt_eq _ _ _ (znr h)]
 unfold runsTo at h
 generalize (execOp a.eval o).run P w=r at *
 cases r with
 | ok x w'=>
  cases x <;> simp only [zdK] at h <;> simp only [Oper.uponIn]
  ·exact hk _ _ h
  ·exact hk _ _ h
  ·have h':CallsIn (wideAt ro) (0 - 1) P _ _ w' _:=callsIn_wide.2 h
   refine ⟨fun hd=>(by cases hd),h'.mono fun e w'' ⟨u,he,hu⟩=>?_⟩
   subst he
   exact hk _ _ hu
  ·have h':RoundIn (wideAt ro) (0 - 1) P _ _ _ _ _ w' _:=h
   refine ⟨fun hd=>(by cases hd),h'.mono fun e w'' ⟨u,he,hu⟩=>?_⟩
   subst he
   exact hk _ _ hu
 | halt x w'=>simp [zdK] at h
def OpHolds (P:Program) (o:Oper) (s:Slots) (id:Nat) (pre:Foot) (v:AV) (post:Foot):Prop:=
 (∀ p∈pre,p.2≠.none)∧(∀ q∈post,q.1=id∨∃ p∈pre,p.1=q.1) ∧
 ∀ (W0:World) (g:Ghost) (σ:Nat→Ent) (n:Nat) (w:World) (a:Act),Sim W0 g σ n w→(∀ x∈o.op.operands,Rep g (zl s x) (a.eval x))→σ id=.none→id < n→(∀ p∈pre,σ p.1=p.2) →
  runsTo P o a w fun u w'=>∃ g',g.le g'∧Sim W0 g' (wr σ post) n w'∧Rep g' v u
theorem OpHolds.congr {P:Program} {o:Oper} {s s':Slots} {id:Nat} {pre post:Foot} {v:AV} (h:OpHolds P o s id pre v post) (hs:∀ x∈o.op.operands,zl s x=zl s' x):OpHolds P o s' id pre v post:=
 ⟨h.1,h.2.1,fun W0 g σ n w a hS hx=>h.2.2 W0 g σ n w a hS fun x hm=>by rw [hs x hm];exact hx x hm⟩
def zdN (ops:Array Oper) (o:Oper) (s:Slots):Option Bool:=
 match o.guard with
 | none=>some true
 | some (j,want)=>
  match (ops[j]?).bind (·.dst) with
  | none=>none
  | some d=>
   match s d with
   | .lit (.bool b)=>some (b == want)
   | .tup []=>some false
   | _=>none
theorem zg9 {W0:World} {g:Ghost} {N:Nat} {c:Cfg} {a:Act} {w:World} (h:SimA W0 g N c a w) {ops:Array Oper} {o:Oper} {b:Bool} (hw:zdN ops o c.s=some b):
  Region.wanted o (yielded ops a.tmps)=b:=by
 unfold zdN at hw
 unfold Region.wanted
 cases hg:o.guard with
 | none=>rw [hg] at hw;simpa using hw
 | some jw=>
  obtain ⟨j,want⟩:=jw
  rw [hg] at hw
  simp only at hw ⊢
  cases hd:(ops[j]?).bind (·.dst) with
  | none=>rw [hd] at hw;cases hw
  | some d=>
   rw [hd] at hw
   simp only at hw
   have hr:=h.slots d
   unfold yielded
   rw [hd]
   simp only [Option.bind_some]
   cases ht:a.tmps[d]? with
   | none=>
    have hv:a.tmps.getD d undef=undef:=by simp [ht]
    rw [hv] at hr
    cases hs:c.s d with
    | lit v=>
     rw [hs] at hr hw
     cases v <;> simp at hw
     cases hr
    | tup xs=>
     rw [hs] at hw
     cases xs with
     | nil=>simp at hw;subst hw;rfl
     | cons=>simp at hw
    | _=>rw [hs] at hw;simp at hw
   | some v=>
    have hv:a.tmps.getD d undef=v:=by simp [ht]
    rw [hv] at hr
    cases hs:c.s d with
    | lit v'=>
     rw [hs] at hr hw
     cases hr
     cases v <;> simp at hw
     subst hw
     rfl
    | tup xs=>
     rw [hs] at hw hr
     cases xs with
     | nil=>
      simp at hw
      subst hw
      cases hr with
      | tup _ vs hl _=>simp
     | cons=>simp at hw
    | _=>rw [hs] at hw;simp at hw
structure Step where
 pre:Foot
 v:AV
 post:Foot
instance:Inhabited Step:=⟨⟨[],.tup [],[]⟩⟩
def Cfg.after (c:Cfg) (d:Option Tmp) (st:Step):Cfg:=⟨znB c.s d st.v,wr c.σ st.post,c.n⟩
def StepOK (P:Program) (ops:Array Oper) (o:Oper) (id:Nat) (st:Step) (c:Cfg):Prop:=
 (zdN ops o c.s=some true∧OpHolds P o c.s id st.pre st.v st.post∧∀ p∈st.pre,c.σ p.1=p.2) ∨
 (zdN ops o c.s=some false∧st=⟨[],.tup [],[]⟩)
def Disj (x y:Step):Prop:=(∀ p∈x.post,∀ q∈y.pre++y.post,p.1≠q.1)∧(∀ p∈x.pre,∀ q∈y.post,p.1≠q.1)
theorem Disj.symm {x y:Step} (h:Disj x y):Disj y x:=
 ⟨fun p hp q hq=>(List.mem_append.1 hq).elim (fun hq=>Ne.symm (h.2 q hq p hp)) (fun hq=>Ne.symm (h.1 q hq p (List.mem_append_right _ hp))),
  fun p hp q hq=>Ne.symm (h.1 q hq p (List.mem_append_left _ hp))⟩
theorem zr2 (s:Slots) {x y:Option Tmp} (v u:AV) (h:∀ d,x=some d→y≠some d):znB (znB s x v) y u=znB (znB s y u) x v:=by
 cases x with
 | none=>rfl
 | some d=>
  cases y with
  | none=>rfl
  | some e=>exact zps _ _ _ _ _ (fun he=>h d rfl (by rw [he]))
theorem zhg {s:Slots} {d:Option Tmp} {v:AV} {x:Operand} (h:∀ e,d=some e→x≠.tmp e):zl (znB s d v) x=zl s x:=by
 cases d with
 | none=>rfl
 | some d=>
  cases x with
  | tmp t=>exact zg _ _ _ _ (fun e=>h d rfl (by rw [e]))
  | const v=>
   cases v with
   | slice A n c'=>cases A <;> cases n <;> cases c' <;> rfl
   | _=>rfl
  | _=>rfl
theorem znw {ops:Array Oper} (o:Oper) (s:Slots) (d:Option Tmp) (v:AV) (h:∀ e,d=some e→e ∉ o.looksAt ops):zdN ops o (znB s d v)=zdN ops o s:=by
 unfold zdN
 cases hg:o.guard with
 | none=>rfl
 | some jw=>
  obtain ⟨j,want⟩:=jw
  simp only
  cases ht:(ops[j]?).bind (·.dst) with
  | none=>rfl
  | some t=>
   have:znB s d v t=s t:=by
    cases d with
    | none=>rfl
    | some e=>exact zg _ _ _ _ (fun he=>h e rfl (by subst he;simp [Oper.looksAt,hg,ht]))
   simp only [this]
theorem OpHolds.sput_iff {P:Program} {ops:Array Oper} {o:Oper} {s:Slots} {id:Nat} {pre post:Foot} {v u:AV} {d:Option Tmp} (h:∀ e,d=some e→e ∉ o.looksAt ops):
  OpHolds P o (znB s d u) id pre v post↔OpHolds P o s id pre v post:=by
 have key:∀ x∈o.op.operands,zl (znB s d u) x=zl s x:=fun x hx=>zhg fun e he hxe=>h e he (by
  subst hxe
  exact List.mem_append_left _ (List.mem_filterMap.2 ⟨.tmp e,by simpa using hx,rfl⟩))
 exact ⟨fun h=>h.congr key,fun h=>h.congr fun x hx=>(key x hx).symm⟩
theorem StepOK.after_iff {P:Program} {ops:Array Oper} {oi oj:Oper} {id:Nat} {x y:Step} {c:Cfg} (hap:∀ e,oi.dst=some e→e ∉ oj.looksAt ops) (hd:∀ p∈x.post,∀ q∈y.pre,p.1≠q.1):
  StepOK P ops oj id y (c.after oi.dst x)↔StepOK P ops oj id y c:=by
 unfold StepOK
 simp only [Cfg.after]
 rw [znw oj c.s oi.dst x.v hap]
 have hp:(∀ p∈y.pre,wr c.σ x.post p.1=p.2)↔(∀ p∈y.pre,c.σ p.1=p.2):=
  ⟨fun h p hp=>by rw [← h p hp,zbU];exact fun q hq=>hd q hq p hp,fun h p hp=>by rw [← h p hp,zbU];exact fun q hq=>hd q hq p hp⟩
 rw [OpHolds.sput_iff (ops:=ops) hap,hp]
theorem Cfg.after_comm {ops:Array Oper} {oi oj:Oper} {x y:Step} (c:Cfg) (hap:oi.apart ops oj=true) (hd:Disj x y):(c.after oi.dst x).after oj.dst y=(c.after oj.dst y).after oi.dst x:=by
 obtain ⟨_,h2,_⟩:=Oper.apart_spec hap
 unfold Cfg.after
 simp only [Cfg.mk.injEq,and_true]
 exact ⟨zr2 _ _ _ h2,zu4 _ _ _ fun p hp q hq=>hd.1 p hp q (List.mem_append_right _ hq)⟩
section
variable (P:Program) (ops:Array Oper) (m:Nat) (out:Nat→Step)
def zvX (Q:Cfg→Prop):Nat→Array Bool→Cfg→Prop
 | 0,listed,c=>Region.ready .any ops listed=[]∧Q c
 | fuel+1,listed,c=>
  (Region.ready .any ops listed=[]→Q c) ∧
  ∀ i∈Region.ready .any ops listed,∃ o,ops[i]?=some o∧StepOK P ops o (m+i) (out i) c∧zvX Q fuel (listed.setIfInBounds i true) (c.after o.dst (out i))
inductive Dep (ops:Array Oper):Nat→Nat→Prop where
 | edge (i j:Nat) (o:Oper) (e:Edge) (ho:ops[j]?=some o) (he:e∈o.after) (hb:Region.binds .any e=true) (hi:e.on=i):Dep ops i j
 | trans (i k j:Nat) (h1:Dep ops i k) (h2:Dep ops k j):Dep ops i j
def Closed (listed:Array Bool):Prop:=∀ (k:Nat) (o:Oper),ops[k]?=some o→listed.getD k false=true→∀ e∈o.after,Region.binds .any e=true→listed.getD e.on false=true
variable {P ops m out}
theorem Dep.listed {i j:Nat} (h:Dep ops i j) {listed:Array Bool} (hc:Closed ops listed) (hj:listed.getD j false=true):listed.getD i false=true:=by
 induction h with
 | edge i j o e ho he hb hi=>exact hi ▸ hc j o ho hj e he hb
 | trans i k j _ _ ih1 ih2=>exact ih1 (ih2 hj)
theorem Dep.ready {i j:Nat} (h:Dep ops i j) {listed:Array Bool} (hc:Closed ops listed) (hj:j∈Region.ready .any ops listed):listed.getD i false=true:=by
 induction h with
 | edge i j o' e ho' he hb hi=>
  obtain ⟨_,o,ho,hall⟩:=mem_ready.1 hj
  rw [ho] at ho'
  cases ho'
  exact hi ▸ hall e he hb
 | trans i k j h1 _ _ ih2=>exact h1.listed hc (ih2 hj)
theorem Closed.set {listed:Array Bool} (hc:Closed ops listed) {j:Nat} (hj:j∈Region.ready .any ops listed):Closed ops (listed.setIfInBounds j true):=by
 intro k o ho hk e he hb
 by_cases hkj:k=j
 ·subst hkj
  obtain ⟨_,o',ho',hall⟩:=mem_ready.1 hj
  rw [ho] at ho'
  cases ho'
  exact getD_set_true (hall e he hb)
 ·rw [getD_set_ne false (Ne.symm hkj)] at hk
  exact getD_set_true (hc k o ho hk e he hb)
theorem zlN {listed:Array Bool} {i:Nat} (h:listed.getD i true=false):listed.getD i false=false:=by
 rcases Nat.lt_or_ge i listed.size with h' | h'
 ·simpa [h'] using h
 ·simp [Array.getElem?_eq_none h'] at h
theorem zpM {Q:Cfg→Prop} {i:Nat} {oi:Oper} (hi:ops[i]?=some oi):
  ∀ (fuel:Nat) (listed:Array Bool) (c:Cfg),Closed ops listed →
   (∀ j oj,ops[j]?=some oj→j≠i→listed.getD j true=false→(∀ e∈oj.after,Region.binds .any e=true→e.on≠i)→oi.apart ops oj=true) →
   (∀ j,j≠i→listed.getD j true=false→¬ Dep ops i j→Disj (out i) (out j)) →
   i∈Region.ready .any ops listed→StepOK P ops oi (m+i) (out i) c →
   zvX P ops m out Q fuel (listed.setIfInBounds i true) (c.after oi.dst (out i))→zvX P ops m out Q (fuel+1) listed c:=by
 intro fuel
 induction fuel with
 | zero=>
  intro listed c _ _ _ hr hy H
  refine ⟨fun h=>(by rw [h] at hr;cases hr),fun j hj=>?_⟩
  by_cases hji:j=i
  ·subst hji;exact ⟨oi,hi,hy,H⟩
  ·have:=ready_mono hj hji
   rw [H.1] at this
   cases this
 | succ fuel ih=>
  intro listed c hcl hfree hdis hr hy H
  refine ⟨fun h=>(by rw [h] at hr;cases hr),fun j hj=>?_⟩
  by_cases hji:j=i
  ·subst hji;exact ⟨oi,hi,hy,H⟩
  ·obtain ⟨oj,hoj,hsj,hrest⟩:=H.2 j (ready_mono hj hji)
   obtain ⟨hjun,oj',hoj',hall⟩:=mem_ready.1 hj
   rw [hoj] at hoj'
   cases hoj'
   have hiun:=zlN (mem_ready.1 hr).1
   have hnot:∀ e∈oj.after,Region.binds .any e=true→e.on≠i:=fun e he hb heq=>by
    have h1:=hall e he hb
    rw [heq,hiun] at h1
    cases h1
   have hnd:¬ Dep ops i j:=fun hd=>by
    have:=hd.ready hcl hj
    rw [hiun] at this
    cases this
   have hap:=hfree j oj hoj hji hjun hnot
   have hd:=hdis j hji hjun hnd
   obtain ⟨h1,_,h3⟩:=Oper.apart_spec hap
   have hsj':StepOK P ops oj (m+j) (out j) c:=(StepOK.after_iff h1 fun p hp q hq=>hd.1 p hp q (List.mem_append_left _ hq)).1 hsj
   have hsi':StepOK P ops oi (m+i) (out i) (c.after oj.dst (out j)):=(StepOK.after_iff h3 fun p hp q hq=>Ne.symm (hd.2 q hq p hp)).2 hy
   refine ⟨oj,hoj,hsj',ih (listed.setIfInBounds j true) _ (hcl.set hj) ?_ ?_ (ready_mono hr (Ne.symm hji)) hsi' ?_⟩
   ·intro k ok hk hki hun hno
    refine hfree k ok hk hki ?_ hno
    by_cases hjk:j=k
    ·subst hjk;exact hjun
    ·rw [getD_set_ne true hjk] at hun;exact hun
   ·intro k hki hun hno
    refine hdis k hki ?_ hno
    by_cases hjk:j=k
    ·subst hjk;exact hjun
    ·rw [getD_set_ne true hjk] at hun;exact hun
   ·rw [Array.setIfInBounds_comm _ _ hji,← Cfg.after_comm c hap hd]
    exact hrest
def zwr (P:Program) (ops:Array Oper) (m:Nat) (out:Nat→Step) (Q:Cfg→Prop):List Oper→Nat→Cfg→Prop
 | [],_,c=>Q c
 | o::r,k,c=>StepOK P ops o (m+k) (out k) c∧zwr P ops m out Q r (k+1) (c.after o.dst (out k))
theorem zoW {Q:Cfg→Prop} (hdis:∀ i j,i < j→¬ Dep ops i j→Disj (out i) (out j)):∀ (l:List Oper) (k:Nat) (listed:Array Bool) (c:Cfg),(∀ j,l[j]?=ops[k+j]?)→Closed ops listed →
  (∀ j,j < k→listed.getD j true=true)→Region.lexFrom .any ops l.length k listed=true→zwr P ops m out Q l k c→zvX P ops m out Q l.length listed c
 | [],_,_,_,_,_,_,hB,h=>⟨by simpa [Region.lexFrom] using hB,h⟩
 | o::l,k,listed,c,hl,hcl,hlow,hB,h=>by
  have h0:ops[k]?=some o:=by simpa using (hl 0).symm
  simp only [List.length_cons,Region.lexFrom,Bool.and_eq_true] at hB
  obtain ⟨⟨hr,hf⟩,hB'⟩:=hB
  have hr':k∈Region.ready .any ops listed:=by simpa using hr
  refine zpM h0 l.length listed c hcl (Region.free_spec h0 hf) (fun j hj hun hno=>?_) hr' h.1 ?_
  ·refine hdis k j ?_ hno
   rcases Nat.lt_trichotomy j k with h' | h' | h'
   ·rw [hlow j h'] at hun;cases hun
   ·exact absurd h' hj
   ·exact h'
  ·refine zoW hdis l (k+1) _ _ (fun j=>by have:=hl (j+1);simpa [Nat.add_assoc,Nat.add_comm 1 j] using this) (hcl.set hr') (fun j hj=>?_) hB' h.2
   by_cases hjk:j=k
   ·subst hjk
    rcases Nat.lt_or_ge j listed.size with h' | h'
    ·simp [h']
    ·simp
   ·rw [getD_set_ne true (Ne.symm hjk)];exact hlow j oo
end
theorem zpl {g:Ghost} {s:Slots} {a:Act} {N:Nat} (hs:∀ t,Rep g (s t) (a.tmps.getD t undef)) (hN:a.tmps.size=N) {d:Option Tmp} (hd:∀ e,d=some e→e < N) {x:AV} {u:Value} (hx:Rep g x u):
  ∀ t,Rep g (znB s d x t) ((a.put d u).tmps.getD t undef):=by
 intro t
 cases d with
 | none=>exact hs t
 | some d=>
  by_cases htd:t=d
  ·subst htd
   have:t < a.tmps.size:=by rw [hN];exact hd t rfl
   simp [Act.put,znB,zr,this]
   exact hx
  ·have h1:znB s (some d) x t=s t:=zg _ _ _ _ htd
   rw [h1]
   have:=hs t
   simpa [Act.put,Array.getElem?_setIfInBounds_ne (Ne.symm htd)] using this
theorem zpm (a:Act) (d:Option Tmp) (u:Value):(a.put d u).tmps.size=a.tmps.size:=by cases d <;> simp [Act.put]
theorem zkV (a:Act) (d:Option Tmp) (u:Value):(a.put d u).defers=a.defers:=by cases d <;> rfl
def zhQ (N:Nat) (ops:Array Oper):Bool:=ops.all fun o=>o.op.operands.all zjE && (match o.dst with | some d=>decide (d < N) | none=>true)
theorem zqp {N:Nat} {ops:Array Oper} (h:zhQ N ops=true) {i:Nat} {o:Oper} (hi:ops[i]?=some o):(∀ x∈o.op.operands,zjE x=true)∧(∀ d,o.dst=some d→d < N):=by
 have:=Array.all_eq_true_iff_forall_mem.1 h o (Array.mem_of_getElem? hi)
 simp only [Bool.and_eq_true] at this
 refine ⟨fun x hx=>Array.all_eq_true_iff_forall_mem.1 this.1 x hx,fun d hd=>?_⟩
 have h2:=this.2
 rw [hd] at h2
 simpa using h2
section
variable {P:Program} {ops:Array Oper} {m N:Nat} {out:Nat→Step} {W0:World}
theorem StepOK.run {o:Oper} {i:Nat} {c:Cfg} {g:Ghost} {a:Act} {w:World} {K:Act→World→Prop} {Q':Exit→Act→World→Prop} (hi:ops[i]?=some o) (hN:zhQ N ops=true) (h:StepOK P ops o (m+i) (out i) c)
  (hS:SimA W0 g N c a w) (hfree:c.σ (m+i)=.none) (hlt:m+i < c.n)
  (hK:∀ g' a' w',g.le g'→SimA W0 g' N (c.after o.dst (out i)) a' w'→a'.defers=a.defers→K a' w') {ro:Option Nat}:wpOpIn (wideAt ro) 0 P ops Q' i K a w:=by
 obtain ⟨hop,hdst⟩:=zqp hN hi
 unfold wpOpIn
 simp only [hi]
 rcases h with ⟨hw,ho,hp⟩ | ⟨hw,hst⟩
 ·rw [zg9 hS hw,if_pos rfl]
  refine (znx (ho.2.2 W0 g c.σ c.n w a hS.sim (fun x hx=>hS.eval (hop x hx)) hfree hlt hp) fun u w' ⟨g',hle,hsim,hrep⟩=>?_)
  exact hK g' _ _ hle ⟨hsim,by rw [zpm];exact hS.size,zpl (fun t=>(hS.slots t).mono hle) hS.size hdst hrep⟩ (zkV _ _ _)
 ·rw [zg9 hS hw,if_neg (by simp)]
  refine ⟨fun _ _=>trivial,hK g _ _ g.le_refl ⟨?_,by rw [zpm];exact hS.size,?_⟩ (zkV _ _ _)⟩
  ·rw [hst];exact hS.sim
  ·rw [hst]
   exact zpl hS.slots hS.size hdst (.tup [] [] rfl fun i x v h _=>by simp at h)
theorem StepOK.post_ids {o:Oper} {i:Nat} {st:Step} {c:Cfg} (h:StepOK P ops o (m+i) st c):∀ q∈st.post,q.1=m+i∨c.σ q.1≠.none:=by
 rcases h with ⟨_,ho,hp⟩ | ⟨_,rfl⟩
 ·intro q hq
  rcases ho.2.1 q hq with h1 | ⟨p,hpm,hpq⟩
  ·exact .inl h1
  ·exact .inr (by rw [← hpq,hp p hpm];exact ho.1 p hpm)
 ·intro q hq;cases hq
theorem zkI {Q:Cfg→Prop} {Q':Exit→Act→World→Prop} {ro:Option Nat} {D:List Deferred} (g0:Ghost) (hN:zhQ N ops=true) (hQ:∀ c g a w,g0.le g→SimA W0 g N c a w→a.defers=D→Q c→Q' .normal a w):
  ∀ (fuel:Nat) (listed:Array Bool) (c:Cfg) (g:Ghost) (a:Act) (w:World),g0.le g→SimA W0 g N c a w→a.defers=D→m+ops.size≤c.n→(∀ j,j < ops.size→listed.getD j true=false→c.σ (m+j)=.none) →
   zvX P ops m out Q fuel listed c→wpAnyIn (wideAt ro) 0 P .any ops Q' fuel listed a w
 | 0,_,c,g,a,w,hg,hS,hD,_,_,h=>⟨h.1,hQ c g a w hg hS hD h.2⟩
 | fuel+1,listed,c,g,a,w,hg,hS,hD,hn,hf,h=>by
  refine ⟨fun h0=>hQ c g a w hg hS hD (h.1 h0),fun i hi=>?_⟩
  obtain ⟨o,ho,hst,hrest⟩:=h.2 i hi
  have hlt:i < ops.size:=(Array.getElem?_eq_some_iff.1 ho).1
  have hun:=(mem_ready.1 hi).1
  refine hst.run ho hN hS (hf i hlt hun) oo fun g' a' w' hle hS' hD'=>?_
  refine zkI g0 hN hQ fuel _ _ g' a' w' (hg.trans hle) hS' (hD'.trans hD) hn (fun j hj hjun=>?_) hrest
  have hji:j≠i:=by
   rintro rfl
   rcases Nat.lt_or_ge j listed.size with h' | h'
   ·simp [h'] at hjun
   ·simp at hjun
  have hjun':listed.getD j true=false:=by rw [getD_set_ne true (Ne.symm hji)] at hjun;exact hjun
  have hnone:=hf j hj hjun'
  show wr c.σ (out i).post (m+j)=.none
  rw [zbU]
  ·exact hnone
  ·intro q hq he
   rcases hst.post_ids q hq with h1 | h1
   ·omega
   ·rw [he] at h1;exact h1 hnone
theorem zkR {Q:Cfg→Prop} {Q':Exit→Act→World→Prop} {ro:Option Nat} {D:List Deferred} (g0:Ghost) (hN:zhQ N ops=true) (hQ:∀ c g a w,g0.le g→SimA W0 g N c a w→a.defers=D→Q c→Q' .normal a w):
  ∀ (l:List Oper) (k:Nat) (c:Cfg) (g:Ghost) (a:Act) (w:World),(∀ j,l[j]?=ops[k+j]?)→k+l.length=ops.size→g0.le g→SimA W0 g N c a w→a.defers=D→m+ops.size≤c.n→(∀ j,k≤j→j < ops.size→c.σ (m+j)=.none) →
   zwr P ops m out Q l k c→wpOpsIn (wideAt ro) 0 P ops Q' (List.range' k l.length) a w
 | [],k,c,g,a,w,_,_,hg,hS,hD,_,_,h=>by simpa [wpOpsIn] using hQ c g a w hg hS hD h
 | o::l,k,c,g,a,w,hl,hk,hg,hS,hD,hn,hf,h=>by
  have h0:ops[k]?=some o:=by simpa using (hl 0).symm
  simp only [List.length_cons] at hk ⊢
  rw [List.range'_succ,wpOpsIn_cons]
  refine h.1.run h0 hN hS (hf k (Nat.le_refl _) oo) oo fun g' a' w' hle hS' hD'=>?_
  refine zkR g0 hN hQ l (k+1) _ g' a' w' (fun j=>by have:=hl (j+1);simpa [Nat.add_assoc,Nat.add_comm 1 j] using this) oo (hg.trans hle) hS' (hD'.trans hD) hn (fun j hj hjs=>?_) h.2
  have hnone:=hf j oo hjs
  show wr c.σ (out k).post (m+j)=.none
  rw [zbU]
  ·exact hnone
  ·intro q hq he
   rcases h.1.post_ids q hq with h1 | h1
   ·omega
   ·rw [he] at h1;exact h1 hnone
end
def AV.get:AV→List Nat→Option AV
 | x,[]=>some x
 | .agg xs,i::p=>match xs[i]? with
  | some y=>y.get p
  | none=>none
 | _,_::_=>none
def AV.offs:AV→List Nat→Nat
 | _,[]=>0
 | .agg xs,i::p=>AV.szl (xs.take i)+match xs[i]? with
  | some y=>y.offs p
  | none=>0
 | _,_::_=>0
def AV.put:AV→List Nat→AV→AV
 | _,[],z=>z
 | .agg xs,i::p,z=>match xs[i]? with
  | some y=>.agg (xs.set i (y.put p z))
  | none=>.agg xs
 | x,_::_,_=>x
mutual
def AV.cell:AV→Bool
 | .agg xs=>AV.celll xs
 | .tup _=>false
 | _=>true
def AV.celll:List AV→Bool
 | []=>true
 | x::r=>AV.cell x && AV.celll r
end
theorem AV.celll_all (xs:List AV):AV.celll xs=xs.all AV.cell:=by
 induction xs with
 | nil=>rfl
 | cons x r ih=>simp [AV.celll,ih]
theorem za4 (xs:List AV) (vs:List Value) (hl:vs.length=xs.length) (h:∀ (i:Nat) (x:AV) (v:Value),xs[i]?=some x→vs[i]?=some v→v.cells.size=x.sz) (i:Nat) (v:Value) (hv:vs[i]?=some v):
  yG vs=yG (vs.take i)++v.cells.toList++yG (vs.drop (i+1))∧(yG (vs.take i)).length=AV.szl (xs.take i):=by
 have hi:i < vs.length:=(List.getElem?_eq_some_iff.1 hv).1
 constructor
 ·conv=>lhs;rw [← List.take_append_drop i vs]
  rw [qY,List.drop_eq_getElem_cons hi,xX,(List.getElem?_eq_some_iff.1 hv).2,List.append_assoc]
 ·refine zhY _ _ (by simp [hl]) fun j x u h1 h2=>?_
  rw [List.getElem?_take] at h1 h2
  split at h1
  ·rename_i hj;rw [if_pos hj] at h2;exact h j x u h1 h2
  ·cases h1
theorem vY (cs:Array Value):(Value.agg cs).cells=cs:=rfl
theorem Rep.get {g:Ghost} {c:AV} {v:Value} (h:Rep g c v) {path:List Nat} {y:AV} (hp:c.get path=some y):
  ∃ u,Rep g y u∧c.offs path+u.cells.size≤v.cells.size∧∀ (j:Nat) (x:Value),u.cells.toList[j]?=some x→v.cells.toList[c.offs path+j]?=some x:=by
 induction path generalizing c v with
 | nil=>
  simp only [AV.get,Option.some.injEq] at hp
  subst hp
  exact ⟨v,h,by simp [AV.offs],fun j x hx=>by simpa [AV.offs] using hx⟩
 | cons i p ih=>
  cases c with
  | agg xs=>
   cases h with
   | agg _ vs hl hr=>
    simp only [AV.get] at hp
    cases hi:xs[i]? with
    | none=>rw [hi] at hp;cases hp
    | some z=>
     rw [hi] at hp
     have hlt:i < vs.length:=by rw [hl];exact (List.getElem?_eq_some_iff.1 hi).1
     have hvi:vs[i]?=some vs[i]:=List.getElem?_eq_getElem hlt
     obtain ⟨u,hu,hb,hc⟩:=ih (hr i z _ hi hvi) hp
     obtain ⟨hf,hfl⟩:=za4 xs vs hl (fun j x w h1 h2=>(hr j x w h1 h2).size) i _ hvi
     refine ⟨u,hu,?_,fun j x hx=>?_⟩
     ·simp only [AV.offs,hi,vY,List.size_toArray]
      rw [hf,List.length_append,List.length_append,hfl,Array.length_toList]
      omega
     ·simp only [AV.offs,hi,vY]
      have:=hc j x hx
      have hlt2:z.offs p+j < (vs[i]).cells.toList.length:=(List.getElem?_eq_some_iff.1 this).1
      rw [hf,List.append_assoc,Nat.add_assoc,List.getElem?_append_right oo,hfl,List.getElem?_append_left oo]
      rw [← this];congr 1;omega
  | _=>simp [AV.get] at hp
theorem Rep.put {g:Ghost} {c:AV} {v:Value} (h:Rep g c v) {path:List Nat} {y z:AV} {u:Value} (hp:c.get path=some y) (hz:Rep g z u) (hs:y.sz=z.sz):
  ∃ v',Rep g (c.put path z) v'∧v'.cells.toList=v.cells.toList.take (c.offs path)++u.cells.toList++v.cells.toList.drop (c.offs path+u.cells.size):=by
 induction path generalizing c v with
 | nil=>
  simp only [AV.get,Option.some.injEq] at hp
  subst hp
  refine ⟨u,hz,?_⟩
  have:u.cells.size=v.cells.size:=by rw [hz.size,h.size,hs]
  simp [AV.offs,this]
 | cons i p ih=>
  cases c with
  | agg xs=>
   cases h with
   | agg _ vs hl hr=>
    simp only [AV.get] at hp
    cases hi:xs[i]? with
    | none=>rw [hi] at hp;cases hp
    | some q=>
     rw [hi] at hp
     have hlt:i < vs.length:=by rw [hl];exact (List.getElem?_eq_some_iff.1 hi).1
     have hvi:vs[i]?=some vs[i]:=List.getElem?_eq_getElem hlt
     obtain ⟨v',hv',hc'⟩:=ih (hr i q _ hi hvi) hp
     obtain ⟨w,hw,hwb,_⟩:=(hr i q _ hi hvi).get hp
     have hwu:w.cells.size=u.cells.size:=by rw [hw.size,hz.size,hs]
     obtain ⟨hf,hfl⟩:=za4 xs vs hl (fun j x w h1 h2=>(hr j x w h1 h2).size) i _ hvi
     simp only [AV.put,hi]
     refine ⟨.agg (yG (vs.set i v')).toArray,.agg _ _ (by simp [hl]) (fun j x' w' h1 h2=>?_),?_⟩
     ·by_cases hj:j=i
      ·subst hj
       have hx:j < xs.length:=by omega
       rw [List.getElem?_set_self hx] at h1
       rw [List.getElem?_set_self hlt] at h2
       cases h1;cases h2;exact hv'
      ·rw [List.getElem?_set_ne (Ne.symm hj)] at h1 h2
       exact hr j x' w' h1 h2
     ·simp only [vY,AV.offs,hi]
      have e1:yG (vs.set i v')=yG (vs.take i)++v'.cells.toList++yG (vs.drop (i+1)):=by
       have hlt':i < (vs.set i v').length:=by simpa using hlt
       have:=(List.take_append_drop i (vs.set i v'))
       rw [← this,qY,List.drop_eq_getElem_cons hlt',xX]
       have tk:(vs.set i v').take i=vs.take i:=by
        apply List.ext_getElem?
        intro j
        rw [List.getElem?_take,List.getElem?_take]
        split
        ·rw [List.getElem?_set_ne oo]
        ·rfl
       simp [tk,List.drop_set_of_lt,List.append_assoc]
      show yG (vs.set i v')=_
      rw [e1,hc',hf]
      have l1:(yG (vs.take i)).length=AV.szl (xs.take i):=hfl
      have l2:q.offs p+u.cells.size≤(vs[i]).cells.toList.length:=by rw [Array.length_toList];omega
      rw [List.append_assoc (yG (vs.take i)) (vs[i]).cells.toList (yG (vs.drop (i+1))),← l1,List.take_length_add_append,Nat.add_assoc,List.drop_length_add_append,List.take_append_of_le_length oo,List.drop_append_of_le_length oo]
      simp [List.append_assoc]
  | _=>simp [AV.get] at hp
theorem Rep.cell_ok {g:Ghost} {x:AV} {v:Value} (h:Rep g x v) (hx:x.cell=true):∀ u∈v.cells.toList,u.oneCell'=true:=by
 induction h with
 | agg xs vs hl _ ih=>
  intro u hu
  simp only [Value.cells] at hu
  obtain ⟨v,hv,hu⟩:=mem_flat.1 hu
  obtain ⟨i,hi⟩:=List.getElem?_of_mem hv
  have hlt:i < xs.length:=by rw [← hl];exact (List.getElem?_eq_some_iff.1 hi).1
  have hc:xs[i].cell=true:=by
   simp only [AV.cell,AV.celll_all,List.all_eq_true] at hx
   exact hx _ (List.getElem_mem hlt)
  exact ih i xs[i] v (List.getElem?_eq_getElem hlt) hi hc u hu
 | tup=>simp [AV.cell] at hx
 | any v h=>intro u hu;rw [jo h] at hu;simp at hu;subst hu;exact h
 | lit v h=>intro u hu;rw [jo h] at hu;simp at hu;subst hu;exact h
 | nils=>intro u hu;simp [Value.cells] at hu;subst hu;rfl
 | slice=>intro u hu;simp [Value.cells] at hu;subst hu;rfl
 | ptr=>intro u hu;simp [Value.cells] at hu;subst hu;rfl
 | view=>intro u hu;simp [Value.cells] at hu;subst hu;rfl
 | fn=>intro u hu;simp [Value.cells] at hu;subst hu;rfl
 | clip=>intro u hu;simp [Value.cells] at hu;subst hu;rfl
 | ms=>intro u hu;simp [Value.cells] at hu;subst hu;rfl
 | mp=>intro u hu;simp [Value.cells] at hu;subst hu;rfl
 | bs=>intro u hu;simp [Value.cells] at hu;subst hu;rfl
 | iface=>intro u hu;simp [Value.cells] at hu;subst hu;rfl
mutual
def AV.flatLit:AV→List Value
 | .lit v=>[v]
 | .nils=>[.slice none 0 0]
 | .agg xs=>AV.flatLits xs
 | _=>[]
def AV.flatLits:List AV→List Value
 | []=>[]
 | x::r=>AV.flatLit x++AV.flatLits r
end
mutual
def AV.litOK:AV→Bool
 | .lit v=>v.oneCell'
 | .nils=>true
 | .agg xs=>AV.litOKs xs
 | _=>false
def AV.litOKs:List AV→Bool
 | []=>true
 | x::r=>AV.litOK x && AV.litOKs r
end
mutual
theorem AV.rep_lit (g:Ghost):∀ (x:AV),x.litOK=true→∃ v,Rep g x v∧v.cells.toList=x.flatLit
 | .lit v,h=>⟨v,.lit v h,by rw [jo h];rfl⟩
 | .nils,_=>⟨_,.nils,rfl⟩
 | .agg xs,h=>by
  obtain ⟨vs,hl,hr,hc⟩:=AV.rep_lits g xs h
  exact ⟨_,.agg xs vs hl hr,by simpa [Value.cells,AV.flatLit] using hc⟩
theorem AV.rep_lits (g:Ghost):∀ (xs:List AV),AV.litOKs xs=true→∃ vs:List Value,vs.length=xs.length∧(∀ (i:Nat) (x:AV) (v:Value),xs[i]?=some x→vs[i]?=some v→Rep g x v)∧yG vs=AV.flatLits xs
 | [],_=>⟨[],rfl,fun i x v h _=>by simp at h,rfl⟩
 | x::r,h=>by
  simp only [AV.litOKs,Bool.and_eq_true] at h
  obtain ⟨v,hv,hc⟩:=AV.rep_lit g x h.1
  obtain ⟨vs,hl,hr,hcs⟩:=AV.rep_lits g r h.2
  refine ⟨v::vs,by simp [hl],fun i y u h1 h2=>?_,by rw [xX,hc,hcs];rfl⟩
  cases i with
  | zero=>simp at h1 h2;subst h1;subst h2;exact hv
  | succ i=>exact hr i y u (by simpa using h1) (by simpa using h2)
end
mutual
theorem AV.cell_of_lit:∀ (x:AV),x.litOK=true→x.cell=true
 | .lit _,_=>rfl
 | .nils,_=>rfl
 | .agg xs,h=>AV.celll_of_lits xs h
theorem AV.celll_of_lits:∀ (xs:List AV),AV.litOKs xs=true→AV.celll xs=true
 | [],_=>rfl
 | x::r,h=>by
  simp only [AV.litOKs,Bool.and_eq_true] at h
  simp only [AV.celll,Bool.and_eq_true]
  exact ⟨AV.cell_of_lit x h.1,AV.celll_of_lits r h.2⟩
end
def zu1:Value→Value→Bool
 | .bool a,.bool b=>a == b
 | .int j a,.int k b=>j == k && a == b
 | .string a,.string b=>a.size == 0 && b.size == 0
 | .pointer none,.pointer none=>true
 | .slice none 0 0,.slice none 0 0=>true
 | .map none,.map none=>true
 | .nilFunc,.nilFunc=>true
 | .nilIface,.nilIface=>true
 | _,_=>false
theorem zoO {a b:Value} (h:zu1 a b=true):a=b:=by
 unfold zu1 at h
 split at h
 ·simp at h;rw [h]
 ·simp at h;rw [h.1,h.2]
 ·rename_i a b
  simp at h
  rw [h.1,h.2]
 all_goals first | rfl | cases h
def zk1:List Value→List Value→Bool
 | [],[]=>true
 | a::r,b::q=>zu1 a b && zk1 r q
 | _,_=>false
theorem zh7:∀ {a b:List Value},zk1 a b=true→a=b
 | [],[],_=>rfl
 | a::r,b::q,h=>by
  simp only [zk1,Bool.and_eq_true] at h
  rw [zoO h.1,zh7 h.2]
 | [],_::_,h=>by simp [zk1] at h
 | _::_,[],h=>by simp [zk1] at h
def zyQ (P:Program):Nat→TypeId→AV
 | 0,_=>.any
 | d+1,t=>match P.underlying t with
  | some .bool=>.lit (.bool false)
  | some (.int k)=>.lit (.int k 0)
  | some .string=>.lit (.string ByteArray.empty)
  | some (.pointer _)=>.lit (.pointer none)
  | some (.slice _)=>.nils
  | some (.map _ _)=>.lit (.map none)
  | some (.func _ _ _)=>.lit .nilFunc
  | some (.interface _)=>.lit .nilIface
  | some (.struct fs)=>.agg (fs.toList.map fun f=>zyQ P d f.type)
  | some (.array n e)=>.agg (List.replicate n (zyQ P d e))
  | _=>.any
def kN:Value→Bool
 | .agg _=>true
 | _=>false
def zj7:Value→Bool
 | .tuple _=>true
 | _=>false
def zK (P:Program) (t:TypeId):Option AV:=
 let x:=zyQ P 8 t
 match P.info? t with
 | some i=>match i.zero with
  | some z=>if x.litOK && zk1 x.flatLit z.cells.toList && (x.isAgg == kN z) && !(zj7 z) then some x else none
  | none=>none
 | none=>none
theorem Rep.of_cells {g:Ghost} {x:AV} {u z:Value} (h:Rep g x u) (hc:u.cells.toList=z.cells.toList) (ha:x.isAgg=kN z) (ht:zj7 z=false) (hx:x.cell=true):Rep g x z:=by
 cases z with
 | agg cs=>
  cases h <;> simp [AV.isAgg,kN] at ha
  case agg xs vs hl hr=>
   have:cs=(yG vs).toArray:=by
    simp only [Value.cells] at hc
    rw [hc]
   rw [this];exact .agg xs vs hl hr
 | tuple=>simp [zj7] at ht
 | _=>
  have h1:x.one=true:=by cases x <;> simp_all [AV.isAgg,AV.one,AV.cell,kN]
  rw [h.cells_one h1] at hc
  simp [Value.cells] at hc
  rw [← hc];exact h
theorem vO {P:Program} {t:TypeId} {x:AV} (h:zK P t=some x) (g:Ghost):∃ i z,P.info? t=some i∧i.zero=some z∧Rep g x z:=by
 unfold zK at h
 simp only at h
 split at h
 ·rename_i i hi
  split at h
  ·rename_i z hz
   split at h
   ·rename_i hc
    simp only [Bool.and_eq_true,beq_iff_eq,Bool.not_eq_true'] at hc
    cases h
    obtain ⟨v,hv,hvc⟩:=AV.rep_lit g _ hc.1.1.1
    refine ⟨i,z,hi,hz,hv.of_cells (hvc.trans (zh7 hc.1.1.2)) hc.1.2 hc.2 ?_⟩
    exact AV.cell_of_lit _ hc.1.1.1
   ·cases h
  ·cases h
 ·cases h
section
variable {P:Program} {o:Oper} {s:Slots} {id:Nat} {v:AV}
theorem w9 {pre:Foot} (hpre:∀ p∈pre,p.2≠.none)
  (h:∀ (W0:World) (g:Ghost) (σ:Nat→Ent) (n:Nat) (w:World) (a:Act),Sim W0 g σ n w→(∀ x∈o.op.operands,Rep g (zl s x) (a.eval x))→(∀ p∈pre,σ p.1=p.2) →
   ∃ u,(execOp a.eval o).run P w=.ok (.value u) w∧Rep g v u):OpHolds P o s id pre v []:=by
 refine ⟨hpre,fun q hq=>(by cases hq),fun W0 g σ n w a hS hx _ _ hp=>?_⟩
 obtain ⟨u,hu,hr⟩:=h W0 g σ n w a hS hx hp
 unfold runsTo
 rw [hu]
 exact ⟨g,g.le_refl,hS,hr⟩
theorem yj (h:∀ (g:Ghost) (w:World) (a:Act),(∀ x∈o.op.operands,Rep g (zl s x) (a.eval x))→∃ u,(execOp a.eval o).run P w=.ok (.value u) w∧Rep g v u):OpHolds P o s id [] v []:=
 w9 (fun p hp=>(by cases hp)) fun _ g _ _ w a _ hx _=>h g w a hx
theorem zp1 {x:Operand} (ho:o.op=.move x):OpHolds P o s id [] (zl s x) []:=
 yj fun g w a hx=>⟨a.eval x,by simp [execOp,ho],hx x (by simp [ho,Op.operands])⟩
theorem zmS {x:Operand} (ho:o.op=.assign x):OpHolds P o s id [] (zl s x) []:=
 yj fun g w a hx=>⟨a.eval x,by simp [execOp,ho],hx x (by simp [ho,Op.operands])⟩
def zm5 (t:Bool):AV→AV→AV
 | .lit (.bool p),.lit (.bool q)=>.lit (.bool (bif t then p else q))
 | x,y=>bif t then x else y
theorem zrL (t:Bool) (x y:AV):zm5 t x y=bif t then x else y:=by
 unfold zm5
 split
 ·cases t <;> rfl
 ·rfl
theorem zp2 {c x y:Operand} {t:Bool} (ho:o.op=.pick c x y) (hc:zl s c=.lit (.bool t)):OpHolds P o s id [] (zm5 t (zl s x) (zl s y)) []:=
 yj fun g w a hx=>by
  have h1:=hx c (by simp [ho,Op.operands])
  rw [hc] at h1
  have h2:=hx x (by simp [ho,Op.operands])
  have h3:=hx y (by simp [ho,Op.operands])
  cases hv:a.eval c <;> rw [hv] at h1 <;> cases h1
  refine ⟨if t then a.eval x else a.eval y,by simp [execOp,ho,hv,asBool],?_⟩
  rw [zrL]
  cases t <;> simp [h2,h3]
theorem zlF {x:Operand} {i:Nat} {xs:List AV} {y:AV} (ho:o.op=.extract x i) (hx:zl s x=.tup xs) (hy:xs[i]?=some y):OpHolds P o s id [] y []:=
 yj fun g w a hr=>by
  have h1:=hr x (by simp [ho,Op.operands])
  rw [hx] at h1
  generalize hv:a.eval x=v at h1
  cases h1 with
  | tup _ vs hl h=>
   have hlt:i < vs.length:=by rw [hl];exact (List.getElem?_eq_some_iff.1 hy).1
   refine ⟨vs[i],by simp [execOp,ho,hv,Instr.extract,hlt],h i y _ hy (List.getElem?_eq_getElem hlt)⟩
theorem za5 {x:Operand} (ho:o.op=.nilCheck x) (hx:match zl s x with | .ptr .. | .view _ | .fn .. | .mp ..=>True | _=>False):OpHolds P o s id [] (zl s x) []:=
 yj fun g w a hr=>by
  have h1:=hr x (by simp [ho,Op.operands])
  refine ⟨a.eval x,?_,h1⟩
  generalize hv:a.eval x=u at h1
  generalize zl s x=e at h1 hx
  cases h1 <;> first | (simp at hx;done) | simp [execOp,ho,hv]
theorem zku {f:FuncId} {cap:Array Operand} (ho:o.op=.makeFunc (.func f) #[] cap):OpHolds P o s id [] (.fn f (cap.toList.map (zl s))) []:=
 yj fun g w a hr=>by
  refine ⟨.func (.func f) #[] (cap.toList.map a.eval).toArray,by simp [execOp,ho,Instr.makeFunc,← Array.toList_map],.fn f _ _ (by simp) fun i x v h1 h2=>?_⟩
  rw [List.getElem?_map] at h1 h2
  cases hc:cap.toList[i]? with
  | none=>rw [hc] at h1;cases h1
  | some c=>
   rw [hc] at h1 h2
   cases h1;cases h2
   refine hr c ?_
   simp only [ho,Op.operands]
   have:c∈cap.toList:=List.mem_of_getElem? hc
   simpa using this
def zrr (op:BinOp) (k:IntKind) (a b:Int):Option Value:=
 match op with
 | .add=>some (.int k (k.wrap (a+b)))
 | .sub=>some (.int k (k.wrap (a - b)))
 | .mul=>some (.int k (k.wrap (a * b)))
 | .quo=>if b=0 then none else some (.int k (k.wrap (a.tdiv b)))
 | .rem=>if b=0 then none else some (.int k (a.tmod b))
 | .and=>some (.int k (bits .and k a b))
 | .or=>some (.int k (bits .or k a b))
 | .xor=>some (.int k (bits .xor k a b))
 | .andNot=>some (.int k (bits .andNot k a b))
 | .eql=>some (.bool (a == b))
 | .neq=>some (.bool (a != b))
 | .lss=>some (.bool (a < b))
 | .leq=>some (.bool (a≤b))
 | .gtr=>some (.bool (a > b))
 | .geq=>some (.bool (a≥b))
 | _=>none
def zrs (op:BinOp) (a b:ByteArray):Option Value:=
 match op with
 | .add=>if a.size+b.size≤9223372036854775807 then some (.string (a++b)) else none
 | .eql=>some (.bool (a.toList == b.toList))
 | .neq=>some (.bool (!(a.toList == b.toList)))
 | .lss=>some (.bool (Op.bytesLess a.toList b.toList))
 | _=>none
def zgf (P:Program) (t:TypeId):Bool:=
 match P.underlying t with
 | some .bool=>true
 | _=>false
def zkS (P:Program) (op:BinOp) (t:TypeId):Value→Value→Option Value
 | .int k a,.int k' b=>
  match op with
  | .shl=>if 0≤b then some (.int k (k.wrap (a * 2 ^ min b.toNat k.bits))) else none
  | .shr=>if 0≤b then some (.int k (a.fdiv (2 ^ min b.toNat k.bits))) else none
  | _=>if k=k' then zrr op k a b else none
 | .string a,.string b=>zrs op a b
 | .bool a,.bool b=>
  match op with
  | .eql=>if zgf P t then some (.bool (a == b)) else none
  | .neq=>if zgf P t then some (.bool (!(a == b))) else none
  | _=>none
 | _,_=>none
theorem zbC {t:TypeId} (h:P.underlying t=some .bool) (d:Nat) (a b:Bool) (w:World):(Op.equalIn (d+1) t (.bool a) (.bool b)).run P w=.ok (a == b) w:=by
 simp [Op.equalIn,run_underlying h]
theorem znp {t:TypeId} (h:P.underlying t=some .bool) (a b:Bool) (w:World):(binOp .eql t (.bool a) (.bool b)).run P w=.ok (.bool (a == b)) w:=by
 simp only [binOp]
 simp only [Op.equal,Op.maxDepth,Sem.run_bind,zbC h 9999]
 rfl
theorem znq {t:TypeId} (h:P.underlying t=some .bool) (a b:Bool) (w:World):(binOp .neq t (.bool a) (.bool b)).run P w=.ok (.bool (!(a == b))) w:=by
 simp only [binOp]
 simp only [Op.equal,Op.maxDepth,Sem.run_bind,zbC h 9999]
 rfl
theorem zmY {op:BinOp} {t:TypeId} {x y:Operand} {u v r:Value} (h:zkS P op t u v=some r) (w:World):
  (do eqGuard op t x y u v;binOp op t u v:Sem Value).run P w=.ok r w∧r.oneCell'=true:=by
 unfold zkS at h
 split at h
 ·rename_i k a k' b
  rw [eqGuard_at_int]
  split at h
  ·split at h <;> cases h
   rename_i hb
   exact ⟨by simp [binOp,Op.shift,Int.not_lt.2 hb],rfl⟩
  ·split at h <;> cases h
   rename_i hb
   exact ⟨by simp [binOp,Op.shift,Int.not_lt.2 hb],rfl⟩
  ·split at h
   ·rename_i hk
    subst hk
    cases op <;> simp only [zrr] at h <;> first
     | (cases h;exact ⟨by simp [go_sem],rfl⟩)
     | (split at h <;> cases h;rename_i hb;exact ⟨by simp [go_sem,hb],rfl⟩)
     | cases h
   ·cases h
 ·rename_i a b
  rw [eqGuard_at_string]
  cases op <;> simp only [zrs] at h <;> first
   | (cases h;exact ⟨by simp [binOp,Op.stringOp],rfl⟩)
   | (split at h <;> cases h;rename_i hb;exact ⟨by simp [binOp,Op.stringOp];omega,rfl⟩)
   | cases h
 ·rename_i a b
  rw [eqGuard_at_bool]
  have hb:zgf P t=true→P.underlying t=some .bool:=fun hb=>by
   unfold zgf at hb
   split at hb
   ·assumption
   ·cases hb
  cases op <;> simp only at h <;> first
   | (split at h <;> cases h;rename_i hq;exact ⟨by rw [Sem.run_bind];exact znp (hb hq) a b w,rfl⟩)
   | (split at h <;> cases h;rename_i hq;exact ⟨by rw [Sem.run_bind];exact znq (hb hq) a b w,rfl⟩)
   | cases h
 ·cases h
theorem zN {g:Ghost} {v u:Value} (h:Rep g (.lit v) u):u=v:=by cases h;rfl
theorem zoh {op:BinOp} {t yt:TypeId} {x y:Operand} {u v r:Value} (ho:o.op=.binOp op t x y yt) (hx:zl s x=.lit u) (hy:zl s y=.lit v) (h:zkS P op t u v=some r):
  OpHolds P o s id [] (.lit r) []:=
 yj fun g w a hr=>by
  have h1:=hr x (by simp [ho,Op.operands])
  have h2:=hr y (by simp [ho,Op.operands])
  rw [hx] at h1
  rw [hy] at h2
  have e1:=zN h1
  have e2:=zN h2
  obtain ⟨hrun,hone⟩:=zmY (x:=x) (y:=y) h w
  refine ⟨r,?_,.lit r hone⟩
  simp only [execOp,ho,e1,e2]
  rw [Sem.run_bind,hrun]
  rfl
def zsN (op:UnOp):Value→Option Value
 | .bool b=>match op with
  | .not=>some (.bool !b)
  | _=>none
 | .int k n=>match op with
  | .neg=>some (.int k (k.wrap (0 - n)))
  | .xor=>some (.int k (bits .xor k (if k.signed then -1 else k.max) n))
  | _=>none
 | _=>none
theorem zp3 {op:UnOp} {t:TypeId} {x:Operand} {u r:Value} (ho:o.op=.unOp op t x) (hx:zl s x=.lit u) (h:zsN op u=some r):OpHolds P o s id [] (.lit r) []:=
 yj fun g w a hr=>by
  have h1:=hr x (by simp [ho,Op.operands])
  rw [hx] at h1
  have e1:=zN h1
  cases u <;> simp only [zsN] at h <;> cases op <;> simp at h
  all_goals
   subst h
   refine ⟨_,?_,.lit _ rfl⟩
   simp [execOp,ho,e1,Op.unary,Op.intArith,intBits_xor]
def zbL (P:Program) (t:TypeId):Option IntKind:=
 match P.underlying t with
 | some (.int k)=>some k
 | _=>none
theorem wz {t:TypeId} {k:IntKind} (h:zbL P t=some k):P.underlying t=some (.int k):=by
 unfold zbL at h
 split at h
 ·cases h;assumption
 ·cases h
theorem zhE {src dst:TypeId} {x:Operand} {k k':IntKind} {n:Int} {k0:IntKind} (ho:o.op=.convert src dst x) (hs:zbL P src=some k0) (hd:zbL P dst=some k') (hx:zl s x=.lit (.int k n)):
  OpHolds P o s id [] (.lit (.int k' (k'.wrap n))) []:=
 yj fun g w a hr=>by
  have h1:=hr x (by simp [ho,Op.operands])
  rw [hx] at h1
  have e1:=zN h1
  refine ⟨_,?_,.lit _ rfl⟩
  simp [execOp,ho,e1,convert,run_underlying (wz hs),run_underlying (wz hd),Conv.intToInt]
def zM (P:Program) (t:TypeId):Bool:=
 match P.underlying t with
 | some .string=>true
 | _=>false
theorem wV {t:TypeId} (h:zM P t=true):P.underlying t=some .string:=by
 unfold zM at h
 split at h
 ·assumption
 ·cases h
theorem zhF {src dst:TypeId} {x:Operand} {b:ByteArray} (ho:o.op=.convert src dst x) (hs:zM P src=true) (hd:zM P dst=true) (hx:zl s x=.lit (.string b)):
  OpHolds P o s id [] (.lit (.string b)) []:=
 yj fun g w a hr=>by
  have h1:=hr x (by simp [ho,Op.operands])
  rw [hx] at h1
  have e1:=zN h1
  refine ⟨_,?_,.lit _ rfl⟩
  simp [execOp,ho,e1,convert,run_underlying (wV hs),run_underlying (wV hd)]
theorem zjq {t:TypeId} {x i:Operand} {b:ByteArray} {k:IntKind} {n:Int} {c:UInt8} (ho:o.op=.index t x i) (ht:zM P t=true) (hx:zl s x=.lit (.string b)) (hi:zl s i=.lit (.int k n))
  (hn:0≤n) (hc:b.data.toList[n.toNat]?=some c):OpHolds P o s id [] (.lit (.int .u8 c.toNat)) []:=
 yj fun g w a hr=>by
  have h1:=hr x (by simp [ho,Op.operands])
  have h2:=hr i (by simp [ho,Op.operands])
  rw [hx] at h1
  rw [hi] at h2
  have e1:=zN h1
  have e2:=zN h2
  refine ⟨_,?_,.lit _ rfl⟩
  have hb:b[n.toNat]?=some c:=by
   have hl:n.toNat < b.data.toList.length:=(List.getElem?_eq_some_iff.1 hc).1
   have hl':n.toNat < b.size:=by simpa using hl
   rw [getElem?_pos b n.toNat hl']
   have:=(List.getElem?_eq_some_iff.1 hc).2
   rw [← this]
   rfl
  simp [execOp,ho,e1,e2,Instr.index,asIntOf,run_underlying (wV ht),hn,hb]
def zqJ:TypeDesc→Bool
 | .struct _ | .array _ _=>true
 | _=>false
def zqt (P:Program) (t:TypeId) (agg:Bool) (size:Nat):Bool:=
 match P.underlying t,P.info? t with
 | some d,some i=>zqJ d == agg && i.size == size
 | _,_=>false
theorem zk0 {t:TypeId} {agg:Bool} {size:Nat} (h:zqt P t agg size=true) (w:World):(isAgg t).run P w=.ok agg w∧(sizeOf t).run P w=.ok size w:=by
 unfold zqt at h
 split at h
 ·rename_i d i hd hi
  simp only [Bool.and_eq_true,beq_iff_eq] at h
  refine ⟨?_,by simp [sizeOf,typeInfo,hi,h.2]⟩
  rw [← h.1]
  unfold isAgg
  rw [Sem.run_bind,run_underlying hd]
  cases d <;> rfl
 ·cases h
def xL (P:Program) (t:TypeId) (size:Nat):Bool:=
 match P.info? t with
 | some i=>i.size == size
 | _=>false
theorem yo {t:TypeId} {size:Nat} (h:xL P t size=true):∃ i,P.info? t=some i∧i.size=size:=by
 unfold xL at h
 split at h
 ·rename_i i hi;exact ⟨i,hi,by simpa using h⟩
 ·cases h
def zT (P:Program) (t:TypeId):Option TypeId:=
 match P.underlying t with
 | some (.slice e)=>some e
 | _=>none
theorem zD {t e:TypeId} (h:zT P t=some e):P.underlying t=some (.slice e):=by
 unfold zT at h
 split at h
 ·cases h;assumption
 ·cases h
def zie (P:Program) (t:TypeId):Option (Nat × TypeId):=
 match P.underlying t with
 | some (.array n e)=>some (n,e)
 | _=>none
theorem wP {t e:TypeId} {n:Nat} (h:zie P t=some (n,e)):P.underlying t=some (.array n e):=by
 unfold zie at h
 split at h
 ·cases h;assumption
 ·cases h
def zf (P:Program) (t:TypeId) (f:Nat):Option Nat:=
 match P.underlying t with
 | some (.struct fs)=>match fs[f]? with
  | some fl=>match P.info? fl.type with
   | some i=>if i.size=0 then none else some fl.offset
   | none=>none
  | none=>none
 | _=>none
theorem zcS {t:TypeId} {f k:Nat} (h:zf P t f=some k) (b off:Nat) (w:World):(Instr.fieldAt t (.pointer (some ⟨b,off,none⟩)) f).run P w=.ok (.pointer (some ⟨b,off+k,none⟩)) w:=by
 unfold zf at h
 split at h
 ·rename_i fs hfs
  split at h
  ·rename_i fl hfl
   split at h
   ·rename_i i hi
    split at h <;> cases h
    rename_i hz
    simp [Instr.fieldAt,run_underlying hfs,hfl,Instr.sureAddr,fieldPlace,sizeOf,typeInfo,hi,hz,Addr.add_lit]
   ·cases h
  ·cases h
 ·cases h
theorem zfO {t:TypeId} {x:Operand} {f k i off:Nat} {path:List Nat} (ho:o.op=.fieldAddr t x f) (hx:zl s x=.ptr i path off) (hf:zf P t f=some k):
  OpHolds P o s id [] (.ptr i (path++[f]) (off+k)) []:=
 yj fun g w a hr=>by
  have h1:=hr x (by simp [ho,Op.operands])
  rw [hx] at h1
  generalize hv:a.eval x=v at h1
  cases h1 with
  | ptr _ _ _ b hb=>exact ⟨_,by simp [execOp,ho,hv,zcS hf],.ptr _ _ _ b hb⟩
theorem zfa {t:TypeId} {x:Operand} {f k:Nat} {xs:List AV} {y:AV} (ho:o.op=.fieldAddr t x f) (hx:zl s x=.view (.agg xs)) (hf:zf P t f=some k) (hy:xs[f]?=some y) (hk:AV.szl (xs.take f)=k):
  OpHolds P o s id [] (.view y) []:=
 yj fun g w a hr=>by
  have h1:=hr x (by simp [ho,Op.operands])
  rw [hx] at h1
  generalize hv:a.eval x=v at h1
  cases h1 with
  | view _ v b off h hc=>
   obtain ⟨u,hu,_,hcu⟩:=h.get (path:=[f]) (y:=y) (by simp [AV.get,hy])
   refine ⟨_,by simp [execOp,ho,hv,zcS hf],.view y u b (off+k) hu fun j x hx=>?_⟩
   have:=hc _ _ (hcu j x hx)
   simp only [AV.offs,hy,Nat.add_zero] at this
   rw [← this];congr 1;omega
theorem zbh {t e:TypeId} {x i:Operand} {own:Option Nat} {xs:List AV} {y:AV} {k:IntKind} {n:Int} (ho:o.op=.indexAddr t x i) (ht:zT P t=some e) (hx:AV.le (zl s x) (.slice own xs)) (hi:zl s i=.lit (.int k n))
  (hn:0≤n) (hy:xs[n.toNat]?=some y) (hs:xL P e y.sz=true):OpHolds P o s id [] (.view y) []:=
 w9 (fun p hp=>(by cases hp)) fun W0 g σ nn w a hS hr _=>by
  have h1:=hx _ _ (hr x (by simp [ho,Op.operands]))
  have h2:=hr i (by simp [ho,Op.operands])
  rw [hi] at h2
  have e2:=zN h2
  generalize hv:a.eval x=v at h1
  obtain ⟨ie,hie,hsz⟩:=yo hs
  have hlt:n.toNat < xs.length:=(List.getElem?_eq_some_iff.1 hy).1
  cases h1 with
  | slice _ _ vs A c size hl hc hm h hsv hcell hown=>
   have hvl:n.toNat < vs.length:=by omega
   have hvi:vs[n.toNat]?=some vs[n.toNat]:=List.getElem?_eq_getElem hvl
   have hry:=h _ _ _ hy hvi
   have hsize:size=y.sz:=by rw [← hsv _ (List.getElem_mem hvl),hry.size]
   subst hsize
   have hat:=zhv vs y.sz hsv n.toNat _ hvi
   have run:∀ b o',A=some ⟨b,o',none⟩→(execOp a.eval o).run P w=.ok (.value (.pointer (some ⟨b,o'+n.toNat * y.sz,none⟩))) w:=fun b o' hA=>by
    simp [execOp,ho,hv,e2,Instr.indexAt,asIntOf,run_underlying (zD ht),hA,sizeOf,typeInfo,hie,hsz,Addr.add_lit]
    omega
   rcases hcell with h0 | ⟨b,o',hA,hG⟩
   ·omega
   ·exact ⟨_,run b o' hA,.view y _ b _ hry fun j u hu=>by have:=hG _ _ (hat j u hu);rw [← this];congr 1;omega⟩
end
section
variable {P:Program} {o:Oper} {s:Slots} {id:Nat}
theorem ze3 {g:Ghost} {y:AV} {u:Value} (hr:Rep g y u) {t:TypeId} (ht:zqt P t y.isAgg y.sz=true) {b off:Nat} {w:World}
  (h:∀ (j:Nat) (x:Value),u.cells.toList[j]?=some x→w.cell? ⟨b,off+j,none⟩=some x):(Instr.loadAt t (.pointer (some ⟨b,off,none⟩))).run P w=.ok u w:=by
 obtain ⟨h1,h2⟩:=zk0 ht w
 unfold Instr.loadAt loadVar
 simp only [Instr.sureAddr,Sem.run_bind,Sem.run_pure,Result.andThen_ok,h1]
 cases hy:y.isAgg with
 | true=>
  cases y <;> simp [AV.isAgg] at hy
  rename_i xs
  cases hr with
  | agg _ vs hl hr=>
   have hsz:(Value.agg (yG vs).toArray).cells.size=(AV.agg xs).sz:=(Rep.agg xs vs hl hr).size
   have hlen:(yG vs).length=(AV.agg xs).sz:=by simpa [vY] using hsz
   have:=run_loadCells_list (P:=P) w ⟨b,off,none⟩ (yG vs) (fun j v hv=>by rw [Addr.add_lit];exact h j v (by simpa [vY] using hv))
   rw [hlen] at this
   simp [h2,this]
 | false=>
  have hc:u.cells=#[u]:=by
   cases hr <;> first | (simp [AV.isAgg] at hy;done) | rfl | (rename_i hv;exact jo hv)
  have:=h 0 u (by rw [hc];rfl)
  simp at this
  simp [this]
theorem zkQ {t:TypeId} {x:Operand} {i off:Nat} {path:List Nat} {E:Ent} {bt:TypeId} {c y:AV} (ho:o.op=.load t x) (hx:zl s x=.ptr i path off) (hE:E=.box bt c∨E=.fbox bt c) (hy:c.get path=some y) (hoff:c.offs path=off)
  (ht:zqt P t y.isAgg y.sz=true):OpHolds P o s id [(i,E)] y []:=
 w9 (fun p hp=>by simp at hp;subst hp;rcases hE with rfl | rfl <;> simp) fun W0 g σ n w a hS hr hp=>by
  have h1:=hr x (by simp [ho,Op.operands])
  rw [hx] at h1
  generalize hv:a.eval x=v at h1
  have hp':σ i=E:=hp (i,E) (by simp)
  cases h1 with
  | ptr _ _ _ b hb=>
   have key:∃ v,Rep g c v∧w.heap[b]?=some (.cells v.cells bt (0,0)):=by
    rcases hE with rfl | rfl
    ·obtain ⟨b',v,h1,_,h3,h4,_⟩:=hS.box i bt c hp'
     rw [hb] at h1;cases h1;exact ⟨v,h3,h4⟩
    ·obtain ⟨b',v,h1,_,h3,h4,_⟩:=hS.fbox i bt c hp'
     rw [hb] at h1;cases h1;exact ⟨v,h3,h4⟩
   obtain ⟨v,hrep,hheap⟩:=key
   obtain ⟨u,hu,_,hcu⟩:=hrep.get hy
   refine ⟨u,?_,hu⟩
   have:=ze3 (P:=P) hu ht (b:=b) (off:=off) (w:=w) fun j z hz=>by
    rw [cell_of_row w b _ _ _ _ hheap,← Array.getElem?_toList,← hoff]
    exact hcu j z hz
   simp [execOp,ho,hv,this]
theorem zjr {t:TypeId} {x:Operand} {y:AV} (ho:o.op=.load t x) (hx:zl s x=.view y) (ht:zqt P t y.isAgg y.sz=true):OpHolds P o s id [] y []:=
 w9 (fun p hp=>by cases hp) fun W0 g σ n w a hS hr _=>by
  have h1:=hr x (by simp [ho,Op.operands])
  rw [hx] at h1
  generalize hv:a.eval x=v at h1
  cases h1 with
  | view _ u b off hu hc=>
   refine ⟨u,?_,hu⟩
   have:=ze3 (P:=P) hu ht (b:=b) (off:=off) (w:=w) fun j z hz=>hS.imm _ _ _ (hc j z hz)
   simp [execOp,ho,hv,this]
theorem zoI {t:TypeId} {u:Value} {k:Nat} (ht:xL P t k=true) (hk:u.cells.size=k) (h1:∀ z∈u.cells.toList,z.oneCell'=true) {b off:Nat} {w:World} {cur:Array Value} {bt:TypeId}
  (hg:w.heap[b]?=some (.cells cur bt (0,0))) (hfit:off+u.cells.size≤cur.size):
  (Instr.storeAt t (.pointer (some ⟨b,off,none⟩)) u).run P w=.ok () (w.setRow b (cur.toList.take off++u.cells.toList++cur.toList.drop (off+u.cells.size)).toArray):=by
 obtain ⟨i,hi,hs⟩:=yo ht
 have:=run_storeCells_at P b off bt u.cells.toList 0 cur w hg (by simpa using hfit) h1
 simp only [Nat.add_zero,Array.length_toList] at this
 simp [Instr.storeAt,Instr.sureAddr,storeVar,sizeOf,typeInfo,hi,hs,hk,this]
theorem zok {t:TypeId} {x y:Operand} {i off:Nat} {path:List Nat} {bt:TypeId} {c old z:AV} (ho:o.op=.store t x y) (hx:zl s x=.ptr i path off) (hz:zl s y=z) (hy:c.get path=some old) (hoff:c.offs path=off)
  (hsz:old.sz=z.sz) (ht:xL P t z.sz=true) (hc:z.cell=true):OpHolds P o s id [(i,.box bt c)] (.tup []) [(i,.box bt (c.put path z))]:=by
 refine ⟨fun p hp=>by simp at hp;subst hp;simp,fun q hq=>.inr ⟨(i,.box bt c),by simp,by simp at hq;subst hq;rfl⟩,fun W0 g σ n w a hS hr _ _ hp=>?_⟩
 have h1:=hr x (by simp [ho,Op.operands])
 have h2:=hr y (by simp [ho,Op.operands])
 rw [hx] at h1
 rw [hz] at h2
 generalize hv:a.eval x=v at h1
 generalize hu:a.eval y=u at h2
 have hp':σ i=.box bt c:=hp (i,.box bt c) (by simp)
 cases h1 with
 | ptr _ _ _ b hb=>
  obtain ⟨b',v,hb',_,hrep,hheap,_⟩:=hS.box i bt c hp'
  rw [hb] at hb';cases hb'
  obtain ⟨u0,hu0,hub,_⟩:=hrep.get hy
  have husz:u0.cells.size=u.cells.size:=by rw [hu0.size,h2.size,hsz]
  obtain ⟨v',hv',hvc⟩:=hrep.put hy h2 hsz
  have hst:=zoI (P:=P) (u:=u) ht h2.size (h2.cell_ok hc) (b:=b) (off:=off) hheap (by rw [← hoff,← husz];exact hub)
  have e1:v'.cells=(v.cells.toList.take off++u.cells.toList++v.cells.toList.drop (off+u.cells.size)).toArray:=by
   rw [← hoff,← hvc]
  rw [← e1] at hst
  unfold runsTo
  have hexec:(execOp a.eval o).run P w=.ok .skip (w.setRow b v'.cells):=by simp [execOp,ho,hv,hu,hst]
  rw [hexec]
  exact ⟨g,g.le_refl,hS.store hp' hb hv',.tup [] [] rfl fun i x v h _=>by simp at h⟩
theorem zrg {t:TypeId} {x:Operand} {z:AV} (ho:o.op=.box t x) (hx:zl s x=z):OpHolds P o s id [] (.ptr id [] 0) [(id,.box t z)]:=by
 refine ⟨fun p hp=>(by cases hp),fun q hq=>.inl (by simp at hq;subst hq;rfl),fun W0 g σ n w a hS hr hf hn _=>?_⟩
 have h1:=hr x (by simp [ho,Op.operands])
 rw [hx] at h1
 obtain ⟨g',hle,hS',hl⟩:=hS.newBox (t:=t) hf hn h1
 unfold runsTo
 have hexec:(execOp a.eval o).run P w=.ok (.value (.pointer (some ⟨w.heap.size,0,none⟩))) (w.alloc (.cells (a.eval x).cells t)):=by
  simp [execOp,ho,Instr.box,newVar,newRow]
 rw [hexec]
 exact ⟨g',hle,hS',.ptr id [] 0 _ hl⟩
theorem zog {t:TypeId} {z:AV} (ho:o.op=.alloc t) (hz:zK P t=some z):OpHolds P o s id [] (.ptr id [] 0) [(id,.box t z)]:=by
 refine ⟨fun p hp=>(by cases hp),fun q hq=>.inl (by simp at hq;subst hq;rfl),fun W0 g σ n w a hS hr hf hn _=>?_⟩
 obtain ⟨i,zv,hi,hzv,hrep⟩:=vO hz g
 obtain ⟨g',hle,hS',hl⟩:=hS.newBox (t:=t) hf hn hrep
 unfold runsTo
 have hexec:(execOp a.eval o).run P w=.ok (.value (.pointer (some ⟨w.heap.size,0,none⟩))) (w.alloc (.cells zv.cells t)):=by
  simp [execOp,ho,Instr.alloc,zeroValue,typeInfo,hi,hzv,newVar,newRow]
 rw [hexec]
 exact ⟨g',hle,hS',.ptr id [] 0 _ hl⟩
theorem zfP {t e:TypeId} {x i:Operand} {j off len size:Nat} {path:List Nat} {k:IntKind} {n:Int} (ho:o.op=.indexAddr t x i) (ht:zie P t=some (len,e)) (hs:xL P e size=true) (hx:zl s x=.ptr j path off)
  (hi:zl s i=.lit (.int k n)) (hn:0≤n) (hlt:n.toNat < len):OpHolds P o s id [] (.ptr j (path++[n.toNat]) (off+n.toNat * size)) []:=
 yj fun g w a hr=>by
  have h1:=hr x (by simp [ho,Op.operands])
  have h2:=hr i (by simp [ho,Op.operands])
  rw [hx] at h1
  rw [hi] at h2
  have e2:=zN h2
  generalize hv:a.eval x=v at h1
  obtain ⟨ie,hie,hsz⟩:=yo hs
  cases h1 with
  | ptr _ _ _ b hb=>
   refine ⟨_,?_,.ptr _ _ _ b hb⟩
   have:n < (len:Int):=by omega
   simp [execOp,ho,hv,e2,Instr.indexAt,asIntOf,run_underlying (wP ht),Instr.sureAddr,sizeOf,typeInfo,hie,hsz,Addr.add_lit,hn,this]
theorem zfc {t e:TypeId} {x i:Operand} {len size:Nat} {xs:List AV} {y:AV} {k:IntKind} {n:Int} (ho:o.op=.indexAddr t x i) (ht:zie P t=some (len,e)) (hs:xL P e size=true) (hx:zl s x=.view (.agg xs))
  (hi:zl s i=.lit (.int k n)) (hn:0≤n) (hlt:n.toNat < len) (hy:xs[n.toNat]?=some y) (hk:AV.szl (xs.take n.toNat)=n.toNat * size):OpHolds P o s id [] (.view y) []:=
 yj fun g w a hr=>by
  have h1:=hr x (by simp [ho,Op.operands])
  have h2:=hr i (by simp [ho,Op.operands])
  rw [hx] at h1
  rw [hi] at h2
  have e2:=zN h2
  generalize hv:a.eval x=v at h1
  obtain ⟨ie,hie,hsz⟩:=yo hs
  cases h1 with
  | view _ v b off h hc=>
   obtain ⟨u,hu,_,hcu⟩:=h.get (path:=[n.toNat]) (y:=y) (by simp [AV.get,hy])
   have:n < (len:Int):=by omega
   refine ⟨.pointer (some ⟨b,off+n.toNat * size,none⟩),?_,.view y u b _ hu fun j x hx=>?_⟩
   ·simp [execOp,ho,hv,e2,Instr.indexAt,asIntOf,run_underlying (wP ht),Instr.sureAddr,sizeOf,typeInfo,hie,hsz,Addr.add_lit,hn,this]
   ·have:=hc _ _ (hcu j x hx)
    simp only [AV.offs,hy,Nat.add_zero,hk] at this
    rw [← this];congr 1;omega
end
theorem zkq (cs:List Value):∀ (k off:Nat) (l:List Value),off+k+cs.length≤l.length →
  (cs.zipIdx k).foldl (fun (a:Array Value) (p:Value × Nat)=>a.setIfInBounds (off+p.2) p.1) l.toArray=(l.take (off+k)++cs++l.drop (off+k+cs.length)).toArray:=by
 induction cs with
 | nil=>intro k off l _;simp
 | cons c r ih=>
  intro k off l hl
  simp only [List.length_cons] at hl
  rw [List.zipIdx_cons,List.foldl_cons]
  have e1:(l.toArray.setIfInBounds (off+k) c)=(l.set (off+k) c).toArray:=by simp
  rw [e1,ih (k+1) off _ (by simp;omega)]
  congr 1
  have:=list_seg_step l (off+k) c r oo
  simp only [List.length_cons]
  rw [show off+(k+1)=off+k+1 from by omega]
  exact this
theorem zsD (cells:Array Value) (v:Value) (off:Nat) (h:off+v.cells.size≤cells.size):
  (v.cells.zipIdx.foldl (fun cs (p:Value × Nat)=>cs.setIfInBounds (off+p.2) p.1) cells).toList=cells.toList.take off++v.cells.toList++cells.toList.drop (off+v.cells.size):=by
 rw [← Array.foldl_toList,Array.toList_zipIdx]
 have:=zkq v.cells.toList 0 off cells.toList (by simpa using h)
 rw [Array.toArray_toList] at this
 rw [this]
 simp
def zdU (place:Nat→Option (Nat × Nat)):List AV→List (Nat × AV)→Option (List AV)
 | zs,[]=>some zs
 | zs,(i,z)::r=>match zs[i]? with
  | some y=>if y.sz == z.sz && place i == some (AV.szl (zs.take i),z.sz) then zdU place (zs.set i z) r else none
  | none=>none
theorem zsF (vs:List Value) (i:Nat) (v u:Value) (hv:vs[i]?=some v) (hs:v.cells.size=u.cells.size) (off:Nat) (ho:(yG (vs.take i)).length=off):
  yG (vs.set i u)=(yG vs).take off++u.cells.toList++(yG vs).drop (off+u.cells.size):=by
 have hi:i < vs.length:=(List.getElem?_eq_some_iff.1 hv).1
 have e0:yG vs=yG (vs.take i)++(v.cells.toList++yG (vs.drop (i+1))):=by
  conv=>lhs;rw [← List.take_append_drop i vs]
  rw [qY,List.drop_eq_getElem_cons hi,xX,(List.getElem?_eq_some_iff.1 hv).2]
 have e1:yG (vs.set i u)=yG (vs.take i)++(u.cells.toList++yG (vs.drop (i+1))):=by
  have hlt':i < (vs.set i u).length:=by simpa using hi
  have tk:(vs.set i u).take i=vs.take i:=by
   apply List.ext_getElem?
   intro j
   rw [List.getElem?_take,List.getElem?_take]
   split
   ·rw [List.getElem?_set_ne oo]
   ·rfl
  rw [← List.take_append_drop i (vs.set i u),qY,List.drop_eq_getElem_cons hlt',xX]
  simp [tk,List.drop_set_of_lt]
 rw [e1,e0,← ho,← hs,List.take_left,List.drop_length_add_append,← Array.length_toList,List.drop_left]
 simp
theorem zcj {g:Ghost} {place:Nat→Option (Nat × Nat)}:∀ (parts:List (Nat × AV)) (vals:List (Nat × Value)) (zs ys:List AV) (vs:List Value) (cells:Array Value),
  zdU place zs parts=some ys→parts.length=vals.length→(∀ (i:Nat) (p:Nat × AV) (q:Nat × Value),parts[i]?=some p→vals[i]?=some q→p.1=q.1∧Rep g p.2 q.2) →
  vs.length=zs.length→(∀ (i:Nat) (x:AV) (v:Value),zs[i]?=some x→vs[i]?=some v→Rep g x v)→cells.toList=yG vs →
  ∃ (us:List Value) (cells':Array Value),us.length=ys.length∧(∀ (i:Nat) (x:AV) (v:Value),ys[i]?=some x→us[i]?=some v→Rep g x v)∧cells'.toList=yG us∧Instr.fill place cells vals=some cells'
 | [],vals,zs,ys,vs,cells,h,hl,_,hvl,hr,hc=>by
  have:vals=[]:=List.eq_nil_of_length_eq_zero (by simpa using hl.symm)
  subst this
  simp only [zdU,Option.some.injEq] at h
  subst h
  exact ⟨vs,cells,hvl,hr,hc,rfl⟩
 | (i,z)::r,[],_,_,_,_,_,hl,_,_,_,_=>by simp at hl
 | (i,z)::r,(i',u)::q,zs,ys,vs,cells,h,hl,hp,hvl,hr,hc=>by
  obtain ⟨rfl,hzu⟩:=hp 0 (i,z) (i',u) rfl rfl
  simp only at hzu
  simp only [zdU] at h
  cases hy:zs[i]? with
  | none=>rw [hy] at h;cases h
  | some y=>
   rw [hy] at h
   simp only [Bool.and_eq_true,beq_iff_eq] at h
   split at h
   ·rename_i hcnd
    have hlt:i < vs.length:=by rw [hvl];exact (List.getElem?_eq_some_iff.1 hy).1
    have hvi:vs[i]?=some vs[i]:=List.getElem?_eq_getElem hlt
    have hyv:=hr i y _ hy hvi
    have hsz:(vs[i]).cells.size=u.cells.size:=by rw [hyv.size,hzu.size,hcnd.1]
    have hoff:=(za4 zs vs hvl (fun j x w h1 h2=>(hr j x w h1 h2).size) i _ hvi)
    have hfit:AV.szl (zs.take i)+u.cells.size≤cells.size:=by
     have hcl:cells.size=(yG vs).length:=by rw [← hc];simp
     rw [hcl,hoff.1,List.length_append,List.length_append,hoff.2,Array.length_toList,hsz]
     omega
    have h1:=zsD cells u (AV.szl (zs.take i)) hfit
    have h2:=zsF vs i _ u hvi hsz _ hoff.2
    rw [hc,← h2] at h1
    obtain ⟨us,cells',k1,k2,k3,k4⟩:=zcj r q (zs.set i z) ys (vs.set i u) _ h (by simpa using hl) (fun j a b ha hb=>hp (j+1) a b (by simpa using ha) (by simpa using hb)) (by simp [hvl])
     (fun j x w h1 h2=>by
      by_cases hj:j=i
      ·subst hj
       rw [List.getElem?_set_self oo] at h1
       rw [List.getElem?_set_self hlt] at h2
       cases h1;cases h2;exact hzu
      ·rw [List.getElem?_set_ne (Ne.symm hj)] at h1 h2
       exact hr j x w h1 h2) h1
    refine ⟨us,cells',k1,k2,k3,?_⟩
    simp only [Instr.fill,hcnd.2]
    rw [if_neg,k4]
    rw [hzu.size]
    have:u.cells.size=z.sz:=hzu.size
    simp
    omega
   ·cases h
section
variable {P:Program} {o:Oper} {s:Slots} {id:Nat}
theorem zgQ {g:Ghost} {a:Act} {parts:Array (Nat × Operand)} (hr:∀ x∈(parts.toList.map (·.2)).toArray,Rep g (zl s x) (a.eval x)):
  ∀ (i:Nat) (p:Nat × AV) (q:Nat × Value),(parts.toList.map fun p=>(p.1,zl s p.2))[i]?=some p→((parts.map fun (p:Nat × Operand)=>(p.1,a.eval p.2)).toList)[i]?=some q→p.1=q.1∧Rep g p.2 q.2:=by
 intro i p q h1 h2
 rw [Array.toList_map,List.getElem?_map] at h2
 rw [List.getElem?_map] at h1
 cases hp:parts.toList[i]? with
 | none=>rw [hp] at h1;cases h1
 | some x=>
  rw [hp] at h1 h2
  cases h1;cases h2
  exact ⟨rfl,hr x.2 (by simpa using ⟨x.1,by have:=List.mem_of_getElem? hp;simpa using this⟩)⟩
def yO (P:Program) (t:TypeId):Option (List (Nat × Nat)):=
 match P.underlying t with
 | some (.struct fs)=>fs.toList.mapM fun f=>(P.info? f.type).map fun i=>(f.offset,i.size)
 | _=>none
theorem zoo (fs:List Field) (w:World):∀ pl,(fs.mapM fun f=>(P.info? f.type).map fun i=>(f.offset,i.size))=some pl →
  (fs.mapM fun (f:Field)=>(do pure (f.offset,← sizeOf f.type):Sem (Nat × Nat))).run P w=.ok pl w:=by
 induction fs with
 | nil=>intro pl h;simp at h;subst h;simp
 | cons f r ih=>
  intro pl h
  simp only [List.mapM_cons,Option.bind_eq_bind,Option.bind_eq_some_iff] at h
  obtain ⟨p,hp,q,hq,he⟩:=h
  simp only [Option.pure_def,Option.some.injEq] at he
  subst he
  cases hi:P.info? f.type with
  | none=>rw [hi] at hp;cases hp
  | some i=>
   rw [hi] at hp
   cases hp
   have:=ih q hq
   simp only [List.mapM_cons,Sem.run_bind,sizeOf,typeInfo,Sem.run_pure,run_program,Result.andThen_ok,hi] at this ⊢
   rw [this]
   rfl
theorem zgF {t:TypeId} {parts:Array (Nat × Operand)} {zs ys:List AV} {pl:List (Nat × Nat)} (ho:o.op=.build t parts) (hz:zK P t=some (.agg zs)) (hp:yO P t=some pl)
  (hf:zdU (fun (i:Nat)=>pl[i]?) zs (parts.toList.map fun p=>(p.1,zl s p.2))=some ys):OpHolds P o s id [] (.agg ys) []:=
 yj fun g w a hr=>by
  obtain ⟨i,zv,hi,hzv,hrep⟩:=vO hz g
  unfold yO at hp
  split at hp
  ·rename_i fs hfs
   cases hrep with
   | agg _ vs hvl hvr=>
    obtain ⟨us,cells',k1,k2,k3,k4⟩:=zcj _ ((parts.map fun (p:Nat × Operand)=>(p.1,a.eval p.2)).toList) zs ys vs (yG vs).toArray hf (by simp) (zgQ (by simpa [ho,Op.operands] using hr)) hvl hvr rfl
    refine ⟨.agg cells',?_,?_⟩
    ·have hm:=zoo fs.toList w pl hp
     have hm':(fs.mapM fun (f:Field)=>(do pure (f.offset,← sizeOf f.type):Sem (Nat × Nat))).run P w=.ok pl.toArray w:=by
      rw [Array.mapM_eq_mapM_toList]
      simp only [Sem.run_map,hm,Result.andThen_ok]
     have k4':Instr.fill (fun (x:Nat)=>pl.toArray[x]?) (yG vs).toArray (parts.map fun (p:Nat × Operand)=>(p.1,a.eval p.2)).toList=some cells':=by
      have:(fun (x:Nat)=>pl.toArray[x]?)=(fun (i:Nat)=>pl[i]?):=by funext i;simp
      rw [this];exact k4
     simp only [execOp,ho,Instr.build,Sem.run_bind,zeroValue,typeInfo,Sem.run_pure,run_program,Result.andThen_ok,hi,hzv,run_underlying hfs,hm',vY]
     rw [k4']
     rfl
    ·have:cells'=(yG us).toArray:=by rw [← k3]
     rw [this]
     exact .agg ys us k1 k2
  ·cases hp
theorem zhD {t e:TypeId} {n size:Nat} {parts:Array (Nat × Operand)} {zs ys:List AV} (ho:o.op=.build t parts) (hz:zK P t=some (.agg zs)) (ht:zie P t=some (n,e)) (hs:xL P e size=true)
  (hf:zdU (fun i=>some (i * size,size)) zs (parts.toList.map fun p=>(p.1,zl s p.2))=some ys):OpHolds P o s id [] (.agg ys) []:=
 yj fun g w a hr=>by
  obtain ⟨i,zv,hi,hzv,hrep⟩:=vO hz g
  obtain ⟨ie,hie,hsz⟩:=yo hs
  cases hrep with
  | agg _ vs hvl hvr=>
   obtain ⟨us,cells',k1,k2,k3,k4⟩:=zcj _ ((parts.map fun (p:Nat × Operand)=>(p.1,a.eval p.2)).toList) zs ys vs (yG vs).toArray hf (by simp) (zgQ (by simpa [ho,Op.operands] using hr)) hvl hvr rfl
   refine ⟨.agg cells',?_,?_⟩
   ·simp only [execOp,ho,Instr.build,Sem.run_bind,zeroValue,sizeOf,typeInfo,Sem.run_pure,run_program,Result.andThen_ok,hi,hie,hzv,run_underlying (wP ht),vY,hsz]
    rw [k4]
    rfl
   ·have:cells'=(yG us).toArray:=by rw [← k3]
    rw [this]
    exact .agg ys us k1 k2
theorem qz (n:Nat) (z:Value) (size:Nat) (hz:z.cells.size=size) (hs:0 < size):((Array.range (n * size)).map (z.cells[· % z.cells.size]!)).toList=yG (List.replicate n z):=by
 apply List.ext_getElem?
 intro j
 have hl:(yG (List.replicate n z)).length=n * size:=by
  rw [yL _ size (fun v hv=>by rw [List.eq_of_mem_replicate hv];exact hz),List.length_replicate]
 by_cases hj:j < n * size
 ·have hdiv:j / size < n:=Nat.div_lt_of_lt_mul (by rw [Nat.mul_comm];exact hj)
  have hmod:j % size < size:=Nat.mod_lt _ hs
  have h1:=zhv (List.replicate n z) size (fun v hv=>by rw [List.eq_of_mem_replicate hv];exact hz) (j / size) z (by simp [hdiv]) (j % size) (z.cells[j % size]) (by simp)
  have h2:j / size * size+j % size=j:=by rw [Nat.mul_comm];exact Nat.div_add_mod j size
  rw [h2] at h1
  rw [h1]
  simp [hj,hz,hmod]
 ·rw [List.getElem?_eq_none (by simp;omega),List.getElem?_eq_none oo]
theorem kh {g:Ghost} {z:AV} {v:Value} (h:Rep g z v) (n:Nat):∀ (i:Nat) (x:AV) (u:Value),(List.replicate n z)[i]?=some x→(List.replicate n v)[i]?=some u→Rep g x u:=by
 intro i x u h1 h2
 rw [List.getElem?_replicate] at h1 h2
 split at h1
 ·rename_i hi;rw [if_pos hi] at h2;cases h1;cases h2;exact h
 ·cases h1
theorem jS {g:Ghost} {xs:List AV} {vs:List Value} {size:Nat} (hl:vs.length=xs.length) (hr:∀ (i:Nat) (x:AV) (v:Value),xs[i]?=some x→vs[i]?=some v→Rep g x v) (hs:xs.all (fun x=>x.sz == size)=true):
  ∀ v∈vs,v.cells.size=size:=by
 intro v hv
 obtain ⟨i,hi⟩:=List.getElem?_of_mem hv
 have hlt:i < xs.length:=by rw [← hl];exact (List.getElem?_eq_some_iff.1 hi).1
 rw [(hr i xs[i] v (List.getElem?_eq_getElem hlt) hi).size]
 have:=List.all_eq_true.1 hs xs[i] (List.getElem_mem hlt)
 simpa using this
theorem zii {t e:TypeId} {len size:Nat} {parts:Array (Nat × Operand)} {ys:List AV} {z:AV} (ho:o.op=.buildSlice t len parts) (ht:zT P t=some e) (hs:xL P e size=true) (hz:zK P e=some z) (hpos:0 < size) (hzs:z.sz=size)
  (hlen:len * size≤16777216) (hf:zdU (fun i=>some (i * size,size)) (List.replicate len z) (parts.toList.map fun p=>(p.1,zl s p.2))=some ys) (hys:ys.length=len) (hsz:ys.all (fun x=>x.sz == size)=true):
  OpHolds P o s id [] (.slice (some id) ys) [(id,.row e size len)]:=by
 refine ⟨fun p hp=>(by cases hp),fun q hq=>.inl (by simp at hq;subst hq;rfl),fun W0 g σ n w a hS hr hf0 hn _=>?_⟩
 obtain ⟨i,zv,hi,hzv,hrep⟩:=vO hz g
 obtain ⟨ie,hie,hsi⟩:=yo hs
 rw [hi] at hie;cases hie
 have hzc:zv.cells.size=size:=by rw [hrep.size,hzs]
 have hcells:((Array.range (len * size)).map ((if len * size=0 then #[] else zv.cells)[· % (if len * size=0 then #[] else zv.cells).size]!)).toList=yG (List.replicate len zv):=by
  by_cases h0:len * size=0
  ·have:len=0:=by
    rcases Nat.mul_eq_zero.1 h0 with h | h
    ·exact h
    ·omega
   subst this
   simp [yG]
  ·rw [if_neg h0];exact qz len zv size hzc hpos
 obtain ⟨us,cells',k1,k2,k3,k4⟩:=zcj _ ((parts.map fun (p:Nat × Operand)=>(p.1,a.eval p.2)).toList) (List.replicate len z) ys (List.replicate len zv) _ hf (by simp) (zgQ (by simpa [ho,Op.operands] using hr)) (by simp) (kh hrep len) hcells
 have hus:∀ v∈us,v.cells.size=size:=jS k1 k2 hsz
 have hfl:(yG us).length=len * size:=by rw [yL us size hus,k1,hys]
 have hm:len≤maxLen:=by
  have:len≤len * size:=Nat.le_mul_of_pos_right _ hpos
  unfold maxLen;omega
 obtain ⟨g',hle,hS',hrow,hG⟩:=hS.newRow (e:=e) (size:=size) (m:=len) (cells:=yG us) hf0 hn cells' len hfl (Nat.le_refl _) hm (by rw [← Array.length_toList,k3,hfl]) (by rw [k3,List.take_of_length_le oo])
 unfold runsTo
 have hexec:(execOp a.eval o).run P w=.ok (.value (.slice (some ⟨w.heap.size,0,none⟩) len len)) (w.alloc (.cells cells' e)):=by
  have hbig:¬ len * size > 2 ^ 24:=by omega
  simp only [execOp,ho,Instr.buildSlice,Sem.run_bind,run_underlying (zD ht),Result.andThen_ok,sizeOf,typeInfo,run_program,hi,Sem.run_pure,hsi,if_neg hbig]
  by_cases h0:len * size=0
  ·simp only [if_pos h0] at k4 ⊢
   simp only [Sem.run_bind,Sem.run_pure,Result.andThen_ok]
   rw [k4]
   rfl
  ·simp only [if_neg h0] at k4 ⊢
   simp only [Sem.run_bind,Sem.run_pure,Result.andThen_ok,zeroValue,typeInfo,run_program,hi,hzv]
   rw [k4]
   rfl
 rw [hexec]
 refine ⟨g',hle,hS',?_⟩
 have:=Rep.slice (g:=g') (some id) ys us (some ⟨w.heap.size,0,none⟩) len size k1 oo hm (fun i x v h1 h2=>(k2 i x v h1 h2).mono hle) hus
  (.inr ⟨_,_,rfl,fun j u hu=>by rw [Nat.zero_add,hG];exact hu⟩) (fun id' hid=>by cases hid;exact ⟨_,hrow,by simp [zdX,hys],fun _=>by rw [hys]⟩)
 rw [hys] at this
 exact this
end
end Go.Ab
