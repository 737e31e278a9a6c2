/- Texts V1, O1, O2, K14, K15, K16, K17, R5, K10, K11, K18, K19, U1, M9, joined. -/
import Derived.Test.YtglmjglbobhbbaaGreatDoorM19
import Derived.Test.YtglmjglbobhbbaaGreatDoorM20
namespace Go.Proofs.YtglmjglbobhbbaaGreatDoor
open _root_.Go.Proofs.Tryz
open Go.Ab
attribute [local irreducible] Go.Ab.tyAV Go.Ab.aw Go.Ab.aops Go.Ab.kReg Go.Ab.aThen Go.Ab.aBlk Go.Ab.acond Go.Ab.aguard Go.Ab.astep Go.Ab.AStepX Go.Ab.aRet
structure Dv where
 a0:List UInt8
 a1:List UInt8
 act:Int
 cap:Int
 wr:Int
 zym:Int
 torn:Int
 off:Bool
section
theorem zfn (b:List UInt8) (he:b.isEmpty=false) (hl:b.length≤140737488351232) (k:Nat):
  ACall prog 122 [.slice none (b.map za)] k [] (.ms k 1 1 0 b.length) [(k,.mrow 1 5 1 (b.map za))]:=by
 refine Bd func122 ntmps122 fun σ N hp hpn hk hkn hfree=>?_
 have M:Mut (N+3):=⟨⟩
 refine Wk ?_
 refine zQ (r0:=N+3) (by simp (disch:=omega) [go_sem, *,-List.reduceReplicate];rfl) oo (by simp (disch:=omega) [go_sem];try rfl) (fun id hid=>by simp (disch:=omega) only [zg];try exact hlow id hid) (by simp (disch:=omega) only [zr];rfl) (by simp (disch:=omega) [go_sem])
theorem zd0 (A:Addr) (c k:Nat):
  ACall prog 122 [.lit (.slice (some A) 0 c)] k [] (.ms k 1 1 0 0) [(k,.mrow 1 5 1 [])]:=by
 refine Bd func122 ntmps122 fun σ N hp hpn hk hkn hfree=>?_
 have M:Mut (N+3):=⟨⟩
 refine Wk ?_
 refine zQ (r0:=N+3) (by simp (disch:=omega) [go_sem, *,-List.reduceReplicate];rfl) oo (by simp (disch:=omega) [go_sem];try rfl) (fun id hid=>by simp (disch:=omega) only [zg];try exact hlow id hid) (by simp (disch:=omega) only [zr];rfl) (by simp (disch:=omega) [go_sem])
theorem zf8 (c k:Nat):ACall prog 122 [.lit (.slice none 0 c)] k [] .nils []:=by
 refine Bd func122 ntmps122 fun σ N hp hpn hk hkn hfree=>?_
 exact W0
theorem zpC (b:List UInt8) (he:b.isEmpty=false) (hl:b.length≤140737488351232) (k:Nat):
  ACall prog 122 [.slice none (b.map za)] k [] (.slice none (b.map za)) []:=by
 refine Bd func122 ntmps122 fun σ N hp hpn hk hkn hfree=>?_
 exact WM
theorem znE (A:Addr) (c k:Nat):ACall prog 122 [.lit (.slice (some A) 0 c)] k [] (.slice none []) []:=by
 refine Bd func122 ntmps122 fun σ N hp hpn hk hkn hfree=>?_
 exact WM
theorem yC (b:List UInt8) (hl:b.length≤140737488351232) (k:Nat):
  ACall prog 122 [.slice none (b.map za)] k [] (.slice none (b.map za)) []:=by
 cases b with
 | cons x r=>exact zpC (x::r) rfl hl k
 | nil=>
  refine ACall.empty fun A c=>?_
  cases A with
  | none=>exact (zf8 c k).result AV.le_nils
  | some A=>exact znE A c k
end
structure CaIn (c:Ca):Prop where
 pr:PrOk c.first
 t0:c.ticket.length≤9223372036854775807
 b0:c.box.length≤9223372036854775807
@[go_sem] theorem zsf (f:Nat→Option Nat) (n:Nat) (a:AV):AV.renl f (List.replicate n a)=List.replicate n (a.ren f):=by rw [AV.renl_map,List.map_replicate]
end Go.Proofs.YtglmjglbobhbbaaGreatDoor
namespace Go.Proofs.YtglmjglbobhbbaaGreatDoor
open _root_.Go.Proofs.Tryz
open Go.Ab
theorem zrF {b t:List UInt8} {u n:Nat} (h:b.drop u=leb n++t) (hn:n≤281474976710656):ziq b u=(n,u+(leb n).length,0):=by
 unfold ziq
 rw [h,zuP n hn t]
theorem ziQ (m:Int) (h0:0≤m) (h1:m < 18446744073709551616):(be8 (yh m):Int)=m:=by
 have e7:=xK m 56
 have e6:=xK m 48
 have e5:=xK m 40
 have e4:=xK m 32
 have e3:=xK m 24
 have e2:=xK m 16
 have e1:=xK m 8
 have e0:=xK m 0
 simp only [Int.reducePow,Int.pow_zero,Int.ediv_one] at e7 e6 e5 e4 e3 e2 e1 e0
 simp only [yh,be8,List.foldl_cons,List.foldl_nil]
 omega
attribute [local irreducible] Go.Ab.tyAV Go.Ab.aw Go.Ab.aops Go.Ab.kReg Go.Ab.aThen Go.Ab.aBlk Go.Ab.acond Go.Ab.aguard Go.Ab.astep Go.Ab.AStepX Go.Ab.aRet
attribute [local irreducible] yE
theorem zpx (a b:UInt8):x8 a b=a ^^^ b:=by
 unfold x8
 have ha:=a.toNat_lt
 have hb:=b.toNat_lt
 have h:bits .xor .u8 (a.toNat:Int) (b.toNat:Int)=((a ^^^ b).toNat:Int):=by
  have h2:=(a ^^^ b).toNat_lt
  have h3:(BitVec.ofInt 8 (a.toNat:Int) ^^^ BitVec.ofInt 8 (b.toNat:Int)).toNat=(a ^^^ b).toNat:=by
   rw [UInt8.toNat_xor,BitVec.toNat_xor]
   congr 1
   ·rw [BitVec.ofInt_natCast,BitVec.toNat_ofNat];exact Nat.mod_eq_of_lt ha
   ·rw [BitVec.ofInt_natCast,BitVec.toNat_ofNat];exact Nat.mod_eq_of_lt hb
  show IntKind.u8.wrap (((BitVec.ofInt 8 (a.toNat:Int) ^^^ BitVec.ofInt 8 (b.toNat:Int)).toNat:Nat):Int)=_
  rw [h3,IntKind.wrap_u8]
  omega
 rw [h,Int.toNat_natCast,UInt8.ofNat_toNat]
theorem zyK (a b:UInt8):x8 (x8 a b) b=a:=by
 rw [zpx,zpx,UInt8.xor_assoc,UInt8.xor_self,UInt8.xor_zero]
theorem zkL {m n:Int} (h0:0≤m) (h1:m < 18446744073709551616) (h2:0≤n) (h3:n < 18446744073709551616) (h:yh m=yh n):m=n:=by
 have a:=ziQ m h0 h1
 have b:=ziQ n h2 h3
 rw [h] at a
 omega
theorem zg4 {k:UInt8} {m n:Int} (h0:0≤m) (h1:m < 18446744073709551616) (h2:0≤n) (h3:n < 18446744073709551616) (h:vW k m=vW k n):m=n:=by
 have h:=congrArg Subtype.val h
 simp only [vW,List.append_assoc,List.append_cancel_left_eq] at h
 exact zkL h0 h1 h2 h3 (List.append_inj_left h (by rw [xD,xD]))
theorem zkX {k:UInt8} {m n:Int} {x y:List UInt8} (h0:0≤m) (h1:m < 18446744073709551616) (h2:0≤n) (h3:n < 18446744073709551616) (h:(vW k m).1++x=(vW k n).1++y):m=n:=
 zg4 h0 h1 h2 h3 (Subtype.ext (List.append_inj_left h (by rw [(vW k m).2,(vW k n).2])))
theorem zsz (k:Tg) (m:List UInt8) (L:List MacE) (e:MacE):zcG k m (L++[e])=match zcG k m L with
  | some t=>some t
  | none=>if e.key=k∧e.msg=m then some e.tag else none:=by
 induction L with
 | nil=>rfl
 | cons x r ih=>
  simp only [List.cons_append,zcG]
  split
  ·rfl
  ·exact ih
theorem zis {k:Tg} {m:List UInt8} {t:Tg}:∀ {L:List MacE},zcG k m L=some t→∃ e∈L,e.key=k∧e.msg=m∧e.tag=t
 | [],h=>by cases h
 | x::r,h=>by
  simp only [zcG] at h
  split at h
  ·rename_i hc
   injection h with h
   exact ⟨x,List.mem_cons_self ..,hc.1,hc.2,h⟩
  ·obtain ⟨e,he,h1⟩:=zis h
   exact ⟨e,List.mem_cons_of_mem _ he,h1⟩
theorem zeT {k:Tg} {n:Int} {p:List UInt8} {b:List UInt8}:∀ {L:List BoxE},zhV k n p L=some b→∃ e∈L,e.key=k∧e.nonce=n∧e.plain=p∧e.box=b
 | [],h=>by cases h
 | x::r,h=>by
  simp only [zhV] at h
  split at h
  ·rename_i hc
   injection h with h
   exact ⟨x,List.mem_cons_self ..,hc.1,hc.2.1,hc.2.2,h⟩
  ·obtain ⟨e,he,h1⟩:=zeT h
   exact ⟨e,List.mem_cons_of_mem _ he,h1⟩
def zbP (key:Tg) (b:List UInt8):List BoxE→Option (List UInt8)
 | []=>none
 | e::r=>if e.key=key∧e.box=b then some e.plain else zbP key b r
theorem zrG (k:Tg) (b:List UInt8) (L:List BoxE) (e:BoxE):zbP k b (L++[e])=match zbP k b L with
  | some t=>some t
  | none=>if e.key=k∧e.box=b then some e.plain else none:=by
 induction L with
 | nil=>rfl
 | cons x r ih=>
  simp only [List.cons_append,zbP]
  split
  ·rfl
  ·exact ih
theorem zhH {k:Tg} {b p:List UInt8}:∀ {L:List BoxE},zbP k b L=some p→∃ e∈L,e.key=k∧e.box=b∧e.plain=p
 | [],h=>by cases h
 | x::r,h=>by
  simp only [zbP] at h
  split at h
  ·rename_i hc
   injection h with h
   exact ⟨x,List.mem_cons_self ..,hc.1,hc.2,h⟩
  ·obtain ⟨e,he,h1⟩:=zhH h
   exact ⟨e,List.mem_cons_of_mem _ he,h1⟩
theorem zpc {k:Tg} {b:List UInt8}:∀ {L:List BoxE} {e:BoxE},e∈L→e.key=k→e.box=b→∃ p,zbP k b L=some p
 | [],_,h,_,_=>by cases h
 | x::r,e,h,h1,h2=>by
  simp only [zbP]
  split
  ·exact ⟨_,rfl⟩
  ·rename_i hn
   rcases List.mem_cons.1 h with rfl | h
   ·exact absurd ⟨h1,h2⟩ hn
   ·exact zpc h h1 h2
section
variable [W:W32]
theorem zr3 (key:List UInt8) (n:Int) (b:List UInt8) (h:∀ q,(kst key n q).1.length=32:=fun q=>(kst key n q).2):jz key n (jz key n b)=b:=by
 have hl:=qL key n b
 refine List.ext_getElem (by rw [qL,hl]) fun i h1 h2=>?_
 have h32:i % 32 < (kst key n (i / 32)).1.length:=by rw [h];exact Nat.mod_lt _ (by decide)
 rw [ze5 key n (jz key n b) i oo h1 h32,ze5 key n b i h2 oo h32,zyK]
structure AlgOk (a:Alg):Prop where
 mf:a.free=true→∀ i (h:i < a.macs.length),(a.macs[i]).tag=vW 109 ((i:Int)+1)
 mn:a.free=false→∀ e∈a.macs,e.tag=qC e.key.1 e.msg
 bf:a.free=true→∀ i (h:i < a.boxes.length),(a.boxes[i]).box=(vW 98 ((i:Int)+1)).1++List.replicate ((a.boxes[i]).plain.length+8) 0
 bn:a.free=false→∀ e∈a.boxes,e.box=zcw e.key.1 e.nonce e.plain
 mu:∀ e∈a.macs,zcG e.key e.msg a.macs=some e.tag
 ml:∀ e∈a.macs,e.msg.length≤4096
 bp:∀ e∈a.boxes,e.plain.length≤256∧0≤e.nonce∧e.nonce≤281474976710656
theorem AlgOk.nil (fr:Bool) (sd:Tg) (fs:Int):AlgOk ⟨fr,sd,fs,[],[]⟩:=
 ⟨fun _ i h=>absurd h (by simp),fun _ e he=>absurd he (by simp),fun _ i h=>absurd h (by simp),fun _ e he=>absurd he (by simp),fun e he=>absurd he (by simp),fun e he=>absurd he (by simp),fun e he=>absurd he (by simp)⟩
theorem AlgOk.zero:AlgOk wZ:=.nil _ _ _
theorem AlgOk.key {a:Alg} (h:AlgOk a):AlgOk (zai a).1:=by
 unfold zai
 split
 ·exact .zero
 ·exact ⟨h.mf,h.mn,h.bf,h.bn,h.mu,h.ml,h.bp⟩
theorem AlgOk.mac {a:Alg} (h:AlgOk a) (key:Tg) (msg:List UInt8):AlgOk (yJ a key msg).1:=by
 by_cases h1:4096 < msg.length
 ·rw [zaH h1];exact .zero
 ·cases he:zcG key msg a.macs with
  | some t=>rw [kC h1 he];exact h
  | none=>
   by_cases hf:65536≤a.macs.length
   ·rw [zaG h1 he hf];exact .zero
   ·rw [vV h1 he hf]
    refine ⟨fun hfr i hi=>?_,fun hfr e hm=>?_,h.bf,h.bn,fun e hm=>?_,fun e hm=>?_,h.bp⟩
    ·simp only [List.length_append,List.length_singleton] at hi
     rcases Nat.lt_or_ge i a.macs.length with hl | hl
     ·simp only [List.getElem_append_left hl];exact h.mf hfr i hl
     ·obtain rfl:i=a.macs.length:=by omega
      simp only [List.getElem_append_right (Nat.le_refl _),Nat.sub_self,List.getElem_singleton]
      rw [if_pos hfr]
    ·rcases List.mem_append.1 hm with hm | hm
     ·exact h.mn hfr e hm
     ·rw [List.mem_singleton.1 hm];simp only
      have:a.free=false:=hfr
      rw [this];rfl
    ·rw [zsz]
     rcases List.mem_append.1 hm with hm | hm
     ·rw [h.mu e hm]
     ·rw [List.mem_singleton.1 hm];simp only;rw [he];simp
    ·rcases List.mem_append.1 hm with hm | hm
     ·exact h.ml e hm
     ·rw [List.mem_singleton.1 hm];simp only;omega
theorem AlgOk.sealed {a:Alg} (h:AlgOk a) (key:Tg) (nonce:Int) (plain:List UInt8):AlgOk (vm a key nonce plain).1:=by
 unfold vm
 split
 ·exact .zero
 ·split
  ·exact .zero
  ·rename_i hn hp
   split
   ·exact h
   ·split
    ·exact .zero
    ·refine ⟨h.mf,h.mn,fun hfr i hi=>?_,fun hfr e hm=>?_,h.mu,h.ml,fun e hm=>?_⟩
     ·simp only [List.length_append,List.length_singleton] at hi
      rcases Nat.lt_or_ge i a.boxes.length with hl | hl
      ·simp only [List.getElem_append_left hl];exact h.bf hfr i hl
      ·obtain rfl:i=a.boxes.length:=by omega
       simp only [List.getElem_append_right (Nat.le_refl _),Nat.sub_self,List.getElem_singleton]
       unfold zg0
       rw [if_pos hfr]
     ·rcases List.mem_append.1 hm with hm | hm
      ·exact h.bn hfr e hm
      ·rw [List.mem_singleton.1 hm];simp only
       unfold zg0
       have:a.free=false:=hfr
       rw [this];rfl
     ·rcases List.mem_append.1 hm with hm | hm
      ·exact h.bp e hm
      ·rw [List.mem_singleton.1 hm];simp only;omega
theorem xJ {a:Alg} {key:Tg} {msg:List UInt8} (h:(yJ a key msg).2.2=0):(yJ a key msg).1.free=a.free∧(yJ a key msg).1.seed=a.seed∧(yJ a key msg).1.fresh=a.fresh∧(yJ a key msg).1.boxes=a.boxes:=by
 by_cases h1:4096 < msg.length
 ·rw [zaH h1] at h;cases h
 ·cases he:zcG key msg a.macs with
  | some t=>rw [kC h1 he];exact ⟨rfl,rfl,rfl,rfl⟩
  | none=>
   by_cases hf:65536≤a.macs.length
   ·rw [zaG h1 he hf] at h;cases h
   ·rw [vV h1 he hf];exact ⟨rfl,rfl,rfl,rfl⟩
theorem zfU {a:Alg} (key:Tg) {msg:List UInt8} (h:msg.length≤4096) (hl:a.macs.length < 65536):(yJ a key msg).2.2=0:=by
 cases he:zcG key msg a.macs with
 | some t=>rw [kC oo he]
 | none=>rw [vV oo he oo]
theorem zlI {a:Alg} (h:a.fresh < 65536):zai a=({ a with fresh:=a.fresh+1 },if a.free then vW 107 (a.fresh+1) else zvl a.seed (a.fresh+1),0):=by
 unfold zai;rw [if_neg oo]
theorem zpr {a:Alg} (key:Tg) {nonce:Int} {plain:List UInt8} (h0:0≤nonce) (h1:nonce≤281474976710656) (hp:plain.length≤256) (hl:a.boxes.length < 65536):(vm a key nonce plain).2.2=0:=by
 unfold vm
 rw [if_neg oo,if_neg oo]
 split
 ·rfl
 ·rw [if_neg oo]
theorem ze4 {a:Alg} {key:Tg} {nonce:Int} {plain:List UInt8} (h:(vm a key nonce plain).2.2=0):(vm a key nonce plain).1.free=a.free∧(vm a key nonce plain).1.macs=a.macs∧(vm a key nonce plain).1.fresh=a.fresh∧(vm a key nonce plain).1.seed=a.seed:=by
 unfold vm at h ⊢
 split at h
 ·cases h
 ·rename_i h1
  split at h
  ·cases h
  ·rename_i h2
   rw [if_neg h1,if_neg h2]
   split at h
   ·exact ⟨rfl,rfl,rfl,rfl⟩
   ·split at h
    ·cases h
    ·rename_i h3
     rw [if_neg h3];exact ⟨rfl,rfl,rfl,rfl⟩
def x6 (a:Alg) (key:Tg) (b:List UInt8):List UInt8 × Nat:=
 if a.free=true then (match zbP key b a.boxes with | some p=>(p,0) | none=>([],14))
 else if b.length < 40∨296 < b.length then ([],14)
 else if (qC key.1 ([98,111,120]++b.take (b.length - 32))).1=b.drop (b.length - 32) then (jz key.1 (be8 (b.take 8):Int) ((b.take (b.length - 32)).drop 8),0) else ([],14)
theorem zsX {a:Alg} (ok:AlgOk a) (hl:a.boxes.length≤1000000) (hfr:a.free=true) {e:BoxE} (he:e∈a.boxes):zbP e.key e.box a.boxes=some e.plain:=by
 obtain ⟨p,hp⟩:=zpc he rfl rfl
 obtain ⟨e',he',k1,k2,k3⟩:=zhH hp
 obtain ⟨i,hi,rfl⟩:=List.getElem_of_mem he
 obtain ⟨j,hj,rfl⟩:=List.getElem_of_mem he'
 rw [ok.bf hfr i hi,ok.bf hfr j hj] at k2
 have:=zkX oo oo oo oo k2
 obtain rfl:j=i:=by omega
 rw [hp,← k3]
theorem zjZ (key:List UInt8) (nonce:Int) (plain:List UInt8):(zcw key nonce plain).length=plain.length+40:=by
 unfold zcw
 rw [List.length_append,List.length_append,xD,qL,(qC _ _).2];omega
theorem zqf {a:Alg} (hfr:a.free=false) (key:Tg) {nonce:Int} {plain:List UInt8} (h0:0≤nonce) (h1:nonce≤281474976710656) (hp:plain.length≤256):x6 a key (zcw key.1 nonce plain)=(plain,0):=by
 have hl:=zjZ key.1 nonce plain
 have hs:=qL key.1 nonce plain
 have he:=xD nonce
 unfold x6
 rw [hfr,if_neg (by simp),if_neg oo]
 have hA:(yh nonce++jz key.1 nonce plain).length=(zcw key.1 nonce plain).length - 32:=by rw [List.length_append,hl];omega
 have ht:(zcw key.1 nonce plain).take ((zcw key.1 nonce plain).length - 32)=yh nonce++jz key.1 nonce plain:=by
  rw [← hA];unfold zcw;rw [List.take_left]
 have hd:(zcw key.1 nonce plain).drop ((zcw key.1 nonce plain).length - 32)=(qC key.1 ([98,111,120]++(yh nonce++jz key.1 nonce plain))).1:=by
  rw [← hA];unfold zcw;rw [List.drop_left]
 have h8:(zcw key.1 nonce plain).take 8=yh nonce:=by
  unfold zcw;rw [List.append_assoc,← he,List.take_left]
 have h8d:(yh nonce++jz key.1 nonce plain).drop 8=jz key.1 nonce plain:=by rw [← he,List.drop_left]
 rw [ht,hd,if_pos rfl,h8,h8d,ziQ nonce h0 oo,zr3]
theorem zm1 {a:Alg} (ok:AlgOk a) (hl:a.boxes.length≤900000) {key:Tg} {nonce:Int} {plain:List UInt8} (h:(vm a key nonce plain).2.2=0):x6 (vm a key nonce plain).1 key (vm a key nonce plain).2.1=(plain,0):=by
 have ok':=ok.sealed key nonce plain
 have hf:=ze4 h
 have hne:∃ e∈(vm a key nonce plain).1.boxes,e.key=key∧e.nonce=nonce∧e.plain=plain∧e.box=(vm a key nonce plain).2.1:=by
  unfold vm at h ⊢
  split at h
  ·cases h
  ·rename_i h1
   split at h
   ·cases h
   ·rename_i h2
    rw [if_neg h1,if_neg h2]
    split at h
    ·rename_i b hb
     obtain ⟨e,he,k⟩:=zeT hb
     exact ⟨e,he,k⟩
    ·split at h
     ·cases h
     ·rename_i h3
      rw [if_neg h3]
      exact ⟨_,List.mem_append_right _ (List.mem_singleton.2 rfl),rfl,rfl,rfl,rfl⟩
 have hl':(vm a key nonce plain).1.boxes.length≤1000000:=by
  unfold vm at h ⊢
  split at h
  ·cases h
  ·rename_i h1
   split at h
   ·cases h
   ·rename_i h2
    rw [if_neg h1,if_neg h2]
    split at h
    ·simp only;omega
    ·split at h
     ·cases h
     ·rename_i h3
      rw [if_neg h3];simp;omega
 obtain ⟨e,he,k1,k2,k3,k4⟩:=hne
 have hp:=ok'.bp e he
 cases hfr:(vm a key nonce plain).1.free with
 | true=>
  have:=zsX ok' hl' hfr he
  rw [k1,k4] at this
  unfold x6
  rw [hfr,if_pos rfl,this,k3]
 | false=>
  have hb:=ok'.bn hfr e he
  rw [← k4,hb,k1,k2,k3]
  exact zqf hfr key oo oo (by rw [← k3];omega)
theorem zjD {a:Alg} {key:Tg} {nonce:Int} {plain:List UInt8} (h:(vm a key nonce plain).2.2=0) {k:Tg} {b p:List UInt8} (hk:x6 a k b=(p,0)):x6 (vm a key nonce plain).1 k b=(p,0):=by
 have hf:=(ze4 h).1
 cases hfr:a.free with
 | false=>
  unfold x6 at hk ⊢
  rw [hf]
  rw [hfr] at hk ⊢
  exact hk
 | true=>
  unfold x6 at hk ⊢
  rw [hf,hfr,if_pos rfl]
  rw [hfr,if_pos rfl] at hk
  cases ho:zbP k b a.boxes with
  | none=>rw [ho] at hk;cases hk
  | some q=>
   rw [ho] at hk
   have hq:zbP k b (vm a key nonce plain).1.boxes=some q:=by
    unfold vm at h ⊢
    split at h
    ·cases h
    ·rename_i h1
     split at h
     ·cases h
     ·rename_i h2
      rw [if_neg h1,if_neg h2]
      split at h
      ·exact ho
      ·split at h
       ·cases h
       ·rename_i h3
        rw [if_neg h3];simp only;rw [zrG,ho]
   rw [hq];exact hk
theorem zaK {a:Alg} {key:Tg} {msg:List UInt8} (h:(yJ a key msg).2.2=0) (k:Tg) (b:List UInt8):x6 (yJ a key msg).1 k b=x6 a k b:=by
 obtain ⟨h1,_,_,h2⟩:=xJ h
 unfold x6
 rw [h1,h2]
theorem zsY {a:Alg} (h:a.fresh < 65536) (k:Tg) (b:List UInt8):x6 (zai a).1 k b=x6 a k b:=by
 rw [zlI h];rfl
end
theorem zoB (fr:Bool) (sd:Tg) (k:Nat):
  ACall prog 65 [.lit (.bool fr),zd sd] k [] (zA ⟨fr,sd,0,[],[]⟩) []:=by
 simp only [zA,List.map_nil]
 refine Bd func65 ntmps65 fun σ N hp hpn hk hkn hfree=>?_
 exact WA
section
variable [W:W32]
end
end Go.Proofs.YtglmjglbobhbbaaGreatDoor
