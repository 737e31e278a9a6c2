/- Texts R3, joined. -/
import Derived.Test.YtglmjglbobhbbaaGreatDoorM8
namespace Go.Proofs.YtglmjglbobhbbaaGreatDoor
open _root_.Go.Proofs.Tryz
open Go.Ab
attribute [local irreducible] Go.Ab.tyAV Go.Ab.aw Go.Ab.aops Go.Ab.kReg Go.Ab.aThen Go.Ab.aBlk Go.Ab.acond Go.Ab.aguard Go.Ab.astep Go.Ab.AStepX Go.Ab.aRet
theorem zkE (x:Int):0≤IntKind.u64.wrap x∧IntKind.u64.wrap x < 18446744073709551616:=by
 have:IntKind.u64.wrap x=x % 18446744073709551616:=by simp [IntKind.wrap,IntKind.bits,IntKind.signed]
 rw [this];omega
theorem kE (op:BinOp) (a b:Int):0≤bits op .u64 a b∧bits op .u64 a b < 18446744073709551616:=by
 unfold bits
 split <;> exact zkE _
theorem zj6 (x:Int) (h0:0≤x) (h1:x < 18446744073709551616):bits .and .u64 x 4294967295=x % 4294967296:=bits_mask .u64 64 (by decide) (fun n a b=>yq a oo) 32 (by decide) x h0 h1
theorem zma (x:Int) (h0:0≤x) (h1:x < 18446744073709551616):bits .and .u64 x 127=x % 128:=bits_mask .u64 64 (by decide) (fun n a b=>yq a oo) 7 (by decide) x h0 h1
theorem vi (l:List Int) (i:Nat) (n:Nat) (h:Dk l i) (h0:0 < n) (hn:n≤1000000000000000000):
  ∃ x j:Nat,x < n∧Dk l j∧∀ d k,ACall prog 13 [.ptr d [] 0,.lit (.int .i64 n)] k [(d,zy l i)] (.lit (.int .i64 x)) [(d,zy l j)]:=ztZ l i n h h0 hn
theorem zgS (y n:Nat) (h:y < n) (_hn:n≤64):∃ p:Int,(2:Int) ^ y=p∧0 < p∧p < 2 ^ n:=by
 refine ⟨_,rfl,Int.pow_pos oo,?_⟩
 exact_mod_cast Nat.pow_lt_pow_right oo h
set_option maxHeartbeats 4000000 in
theorem zry (l:List Int) (i:Nat) (h:Dk l i):
  ∃ (m:Int) (j:Nat),0 < m∧m < 2 ^ 64∧Dk l j∧∀ d k,ACall prog 127 [.ptr d [] 0,.lit (.int .i64 64)] k [(d,zy l i)] (.lit (.int .u64 m)) [(d,zy l j)]:=by
 obtain ⟨x,j1,x1,d1,c1⟩:=vi l i 3 h oo oo
 have hx:x=0∨x=1∨x=2:=by omega
 rcases hx with rfl | rfl | rfl
 ·obtain ⟨a,j2,a1,d2,c2⟩:=vi l j1 16 d1 oo oo
  obtain ⟨v,hv⟩:∃ v:Int,(a:Int)=v:=⟨_,rfl⟩
  have v0:0≤v:=by omega
  have v1:v < 18446744073709551616:=by omega
  have hvw:IntKind.u64.wrap v=v:=yq v0 oo
  by_cases hz:v=0
  ·obtain ⟨y,j9,y1,d9,c9⟩:=vi l j2 64 d2 oo oo
   obtain ⟨p,hp1,hp2,hp3⟩:=zgS y 64 y1 oo
   have hmn:min y 64=y:=by omega
   refine ⟨p,j9,hp2,hp3,d9,fun d k=>?_⟩
   have hpw:IntKind.u64.wrap p=p:=yq oo (by simp at hp3;omega)
   have hyw:IntKind.u64.wrap (y:Int)=y:=yq oo oo
   have hzb:(v == 0)=true:=by simp [hz]
   refine Bd func127 ntmps127 fun σ N hp hpn hk hkn hfree=>?_
   obtain ⟨hd,hdn⟩:=HD0 hp hpn;clear hp hpn
   have hcs:=And.intro (c1 d) (And.intro (c2 d) (And.intro (c9 d) True.intro))
   clear c1 c2 c9
   refine Wk ?_
   exact RW (d) (zy l j9)
  ·have hzb:(v == 0)=false:=by simp [hz]
   refine ⟨v,j2,by omega,by simp;omega,d2,fun d k=>?_⟩
   refine Bd func127 ntmps127 fun σ N hp hpn hk hkn hfree=>?_
   obtain ⟨hd,hdn⟩:=HD0 hp hpn;clear hp hpn
   have hcs:=And.intro (c1 d) (And.intro (c2 d) True.intro)
   clear c1 c2
   refine Wk ?_
   exact RW (d) (zy l j2)
 ·obtain ⟨a,j2,a1,d2,c2⟩:=vi l j1 65536 d1 oo oo
  obtain ⟨b,j3,b1,d3,c3⟩:=vi l j2 65536 d2 oo oo
  obtain ⟨v,hv⟩:∃ v:Int,bits .or .u64 (a:Int) ((b:Int) * 281474976710656)=v:=⟨_,rfl⟩
  obtain ⟨v0,v1⟩:=kE .or (a:Int) ((b:Int) * 281474976710656)
  rw [hv] at v0 v1
  have haw:IntKind.u64.wrap (a:Int)=a:=yq oo oo
  have hbw:IntKind.u64.wrap (b:Int)=b:=yq oo oo
  have hbs:IntKind.u64.wrap ((b:Int) * 281474976710656)=(b:Int) * 281474976710656:=yq oo oo
  by_cases hz:v=0
  ·obtain ⟨y,j9,y1,d9,c9⟩:=vi l j3 64 d3 oo oo
   obtain ⟨p,hp1,hp2,hp3⟩:=zgS y 64 y1 oo
   have hmn:min y 64=y:=by omega
   refine ⟨p,j9,hp2,hp3,d9,fun d k=>?_⟩
   have hpw:IntKind.u64.wrap p=p:=yq oo (by simp at hp3;omega)
   have hyw:IntKind.u64.wrap (y:Int)=y:=yq oo oo
   have hzb:(v == 0)=true:=by simp [hz]
   refine Bd func127 ntmps127 fun σ N hp hpn hk hkn hfree=>?_
   obtain ⟨hd,hdn⟩:=HD0 hp hpn;clear hp hpn
   have hcs:=And.intro (c1 d) (And.intro (c2 d) (And.intro (c3 d) (And.intro (c9 d) True.intro)))
   clear c1 c2 c3 c9
   refine Wk ?_
   exact RW (d) (zy l j9)
  ·have hzb:(v == 0)=false:=by simp [hz]
   refine ⟨v,j3,by omega,by simp;omega,d3,fun d k=>?_⟩
   refine Bd func127 ntmps127 fun σ N hp hpn hk hkn hfree=>?_
   obtain ⟨hd,hdn⟩:=HD0 hp hpn;clear hp hpn
   have hcs:=And.intro (c1 d) (And.intro (c2 d) (And.intro (c3 d) True.intro))
   clear c1 c2 c3
   refine Wk ?_
   exact RW (d) (zy l j3)
 ·obtain ⟨a,j2,a1,d2,c2⟩:=vi l j1 65536 d1 oo oo
  obtain ⟨v,hv⟩:∃ v:Int,bits .xor .u64 18446744073709551615 (a:Int)=v:=⟨_,rfl⟩
  obtain ⟨v0,v1⟩:=kE .xor 18446744073709551615 (a:Int)
  rw [hv] at v0 v1
  have haw:IntKind.u64.wrap (a:Int)=a:=yq oo oo
  have hsx:(if IntKind.u64.signed=true then (-1:Int) else IntKind.u64.max)=18446744073709551615:=by decide
  by_cases hz:v=0
  ·obtain ⟨y,j9,y1,d9,c9⟩:=vi l j2 64 d2 oo oo
   obtain ⟨p,hp1,hp2,hp3⟩:=zgS y 64 y1 oo
   have hmn:min y 64=y:=by omega
   refine ⟨p,j9,hp2,hp3,d9,fun d k=>?_⟩
   have hpw:IntKind.u64.wrap p=p:=yq oo (by simp at hp3;omega)
   have hyw:IntKind.u64.wrap (y:Int)=y:=yq oo oo
   have hzb:(v == 0)=true:=by simp [hz]
   refine Bd func127 ntmps127 fun σ N hp hpn hk hkn hfree=>?_
   obtain ⟨hd,hdn⟩:=HD0 hp hpn;clear hp hpn
   have hcs:=And.intro (c1 d) (And.intro (c2 d) (And.intro (c9 d) True.intro))
   clear c1 c2 c9
   refine Wk ?_
   exact RW (d) (zy l j9)
  ·have hzb:(v == 0)=false:=by simp [hz]
   refine ⟨v,j2,by omega,by simp;omega,d2,fun d k=>?_⟩
   refine Bd func127 ntmps127 fun σ N hp hpn hk hkn hfree=>?_
   obtain ⟨hd,hdn⟩:=HD0 hp hpn;clear hp hpn
   have hcs:=And.intro (c1 d) (And.intro (c2 d) True.intro)
   clear c1 c2
   refine Wk ?_
   exact RW (d) (zy l j2)
set_option maxHeartbeats 4000000 in
theorem zrx (l:List Int) (i:Nat) (h:Dk l i):
  ∃ (m:Int) (j:Nat),0 < m∧m < 2 ^ 32∧Dk l j∧∀ d k,ACall prog 127 [.ptr d [] 0,.lit (.int .i64 32)] k [(d,zy l i)] (.lit (.int .u64 m)) [(d,zy l j)]:=by
 obtain ⟨x,j1,x1,d1,c1⟩:=vi l i 3 h oo oo
 have hx:x=0∨x=1∨x=2:=by omega
 rcases hx with rfl | rfl | rfl
 ·obtain ⟨a,j2,a1,d2,c2⟩:=vi l j1 16 d1 oo oo
  obtain ⟨v,hv⟩:∃ v:Int,(a:Int)=v:=⟨_,rfl⟩
  have v0:0≤v:=by omega
  have v1:v < 18446744073709551616:=by omega
  have hvw:IntKind.u64.wrap v=v:=yq v0 oo
  have ha:=zj6 v v0 v1
  obtain ⟨w,hw⟩:∃ w,v % 4294967296=w:=⟨_,rfl⟩
  have w0:0≤w:=by omega
  have w1:w < 4294967296:=by omega
  rw [hw] at ha
  by_cases hz:w=0
  ·obtain ⟨y,j9,y1,d9,c9⟩:=vi l j2 32 d2 oo oo
   obtain ⟨p,hp1,hp2,hp3⟩:=zgS y 32 y1 oo
   have hmn:min y 64=y:=by omega
   refine ⟨p,j9,hp2,hp3,d9,fun d k=>?_⟩
   have hpw:IntKind.u64.wrap p=p:=yq oo (by simp at hp3;omega)
   have hyw:IntKind.u64.wrap (y:Int)=y:=yq oo oo
   have hzb:(w == 0)=true:=by simp [hz]
   refine Bd func127 ntmps127 fun σ N hp hpn hk hkn hfree=>?_
   obtain ⟨hd,hdn⟩:=HD0 hp hpn;clear hp hpn
   have hcs:=And.intro (c1 d) (And.intro (c2 d) (And.intro (c9 d) True.intro))
   clear c1 c2 c9
   refine Wk ?_
   exact RW (d) (zy l j9)
  ·have hzb:(w == 0)=false:=by simp [hz]
   refine ⟨w,j2,by omega,by simp;omega,d2,fun d k=>?_⟩
   refine Bd func127 ntmps127 fun σ N hp hpn hk hkn hfree=>?_
   obtain ⟨hd,hdn⟩:=HD0 hp hpn;clear hp hpn
   have hcs:=And.intro (c1 d) (And.intro (c2 d) True.intro)
   clear c1 c2
   refine Wk ?_
   exact RW (d) (zy l j2)
 ·obtain ⟨a,j2,a1,d2,c2⟩:=vi l j1 65536 d1 oo oo
  obtain ⟨b,j3,b1,d3,c3⟩:=vi l j2 65536 d2 oo oo
  obtain ⟨v,hv⟩:∃ v:Int,bits .or .u64 (a:Int) ((b:Int) * 281474976710656)=v:=⟨_,rfl⟩
  obtain ⟨v0,v1⟩:=kE .or (a:Int) ((b:Int) * 281474976710656)
  rw [hv] at v0 v1
  have haw:IntKind.u64.wrap (a:Int)=a:=yq oo oo
  have hbw:IntKind.u64.wrap (b:Int)=b:=yq oo oo
  have hbs:IntKind.u64.wrap ((b:Int) * 281474976710656)=(b:Int) * 281474976710656:=yq oo oo
  have ha:=zj6 v v0 v1
  obtain ⟨w,hw⟩:∃ w,v % 4294967296=w:=⟨_,rfl⟩
  have w0:0≤w:=by omega
  have w1:w < 4294967296:=by omega
  rw [hw] at ha
  by_cases hz:w=0
  ·obtain ⟨y,j9,y1,d9,c9⟩:=vi l j3 32 d3 oo oo
   obtain ⟨p,hp1,hp2,hp3⟩:=zgS y 32 y1 oo
   have hmn:min y 64=y:=by omega
   refine ⟨p,j9,hp2,hp3,d9,fun d k=>?_⟩
   have hpw:IntKind.u64.wrap p=p:=yq oo (by simp at hp3;omega)
   have hyw:IntKind.u64.wrap (y:Int)=y:=yq oo oo
   have hzb:(w == 0)=true:=by simp [hz]
   refine Bd func127 ntmps127 fun σ N hp hpn hk hkn hfree=>?_
   obtain ⟨hd,hdn⟩:=HD0 hp hpn;clear hp hpn
   have hcs:=And.intro (c1 d) (And.intro (c2 d) (And.intro (c3 d) (And.intro (c9 d) True.intro)))
   clear c1 c2 c3 c9
   refine Wk ?_
   exact RW (d) (zy l j9)
  ·have hzb:(w == 0)=false:=by simp [hz]
   refine ⟨w,j3,by omega,by simp;omega,d3,fun d k=>?_⟩
   refine Bd func127 ntmps127 fun σ N hp hpn hk hkn hfree=>?_
   obtain ⟨hd,hdn⟩:=HD0 hp hpn;clear hp hpn
   have hcs:=And.intro (c1 d) (And.intro (c2 d) (And.intro (c3 d) True.intro))
   clear c1 c2 c3
   refine Wk ?_
   exact RW (d) (zy l j3)
 ·obtain ⟨a,j2,a1,d2,c2⟩:=vi l j1 65536 d1 oo oo
  obtain ⟨v,hv⟩:∃ v:Int,bits .xor .u64 18446744073709551615 (a:Int)=v:=⟨_,rfl⟩
  obtain ⟨v0,v1⟩:=kE .xor 18446744073709551615 (a:Int)
  rw [hv] at v0 v1
  have haw:IntKind.u64.wrap (a:Int)=a:=yq oo oo
  have hsx:(if IntKind.u64.signed=true then (-1:Int) else IntKind.u64.max)=18446744073709551615:=by decide
  have ha:=zj6 v v0 v1
  obtain ⟨w,hw⟩:∃ w,v % 4294967296=w:=⟨_,rfl⟩
  have w0:0≤w:=by omega
  have w1:w < 4294967296:=by omega
  rw [hw] at ha
  by_cases hz:w=0
  ·obtain ⟨y,j9,y1,d9,c9⟩:=vi l j2 32 d2 oo oo
   obtain ⟨p,hp1,hp2,hp3⟩:=zgS y 32 y1 oo
   have hmn:min y 64=y:=by omega
   refine ⟨p,j9,hp2,hp3,d9,fun d k=>?_⟩
   have hpw:IntKind.u64.wrap p=p:=yq oo (by simp at hp3;omega)
   have hyw:IntKind.u64.wrap (y:Int)=y:=yq oo oo
   have hzb:(w == 0)=true:=by simp [hz]
   refine Bd func127 ntmps127 fun σ N hp hpn hk hkn hfree=>?_
   obtain ⟨hd,hdn⟩:=HD0 hp hpn;clear hp hpn
   have hcs:=And.intro (c1 d) (And.intro (c2 d) (And.intro (c9 d) True.intro))
   clear c1 c2 c9
   refine Wk ?_
   exact RW (d) (zy l j9)
  ·have hzb:(w == 0)=false:=by simp [hz]
   refine ⟨w,j2,by omega,by simp;omega,d2,fun d k=>?_⟩
   refine Bd func127 ntmps127 fun σ N hp hpn hk hkn hfree=>?_
   obtain ⟨hd,hdn⟩:=HD0 hp hpn;clear hp hpn
   have hcs:=And.intro (c1 d) (And.intro (c2 d) True.intro)
   clear c1 c2
   refine Wk ?_
   exact RW (d) (zy l j2)
set_option maxHeartbeats 4000000 in
theorem zsP (l:List Int) (i:Nat) (h:Dk l i):
  ∃ (m:Int) (j:Nat),0 < m∧m < 2 ^ 7∧Dk l j∧∀ d k,ACall prog 127 [.ptr d [] 0,.lit (.int .i64 7)] k [(d,zy l i)] (.lit (.int .u64 m)) [(d,zy l j)]:=by
 obtain ⟨x,j1,x1,d1,c1⟩:=vi l i 3 h oo oo
 have hx:x=0∨x=1∨x=2:=by omega
 rcases hx with rfl | rfl | rfl
 ·obtain ⟨a,j2,a1,d2,c2⟩:=vi l j1 16 d1 oo oo
  obtain ⟨v,hv⟩:∃ v:Int,(a:Int)=v:=⟨_,rfl⟩
  have v0:0≤v:=by omega
  have v1:v < 18446744073709551616:=by omega
  have hvw:IntKind.u64.wrap v=v:=yq v0 oo
  have ha:=zma v v0 v1
  obtain ⟨w,hw⟩:∃ w,v % 128=w:=⟨_,rfl⟩
  have w0:0≤w:=by omega
  have w1:w < 128:=by omega
  rw [hw] at ha
  by_cases hz:w=0
  ·obtain ⟨y,j9,y1,d9,c9⟩:=vi l j2 7 d2 oo oo
   obtain ⟨p,hp1,hp2,hp3⟩:=zgS y 7 y1 oo
   have hmn:min y 64=y:=by omega
   refine ⟨p,j9,hp2,hp3,d9,fun d k=>?_⟩
   have hpw:IntKind.u64.wrap p=p:=yq oo (by simp at hp3;omega)
   have hyw:IntKind.u64.wrap (y:Int)=y:=yq oo oo
   have hzb:(w == 0)=true:=by simp [hz]
   refine Bd func127 ntmps127 fun σ N hp hpn hk hkn hfree=>?_
   obtain ⟨hd,hdn⟩:=HD0 hp hpn;clear hp hpn
   have hcs:=And.intro (c1 d) (And.intro (c2 d) (And.intro (c9 d) True.intro))
   clear c1 c2 c9
   refine Wk ?_
   exact RW (d) (zy l j9)
  ·have hzb:(w == 0)=false:=by simp [hz]
   refine ⟨w,j2,by omega,by simp;omega,d2,fun d k=>?_⟩
   refine Bd func127 ntmps127 fun σ N hp hpn hk hkn hfree=>?_
   obtain ⟨hd,hdn⟩:=HD0 hp hpn;clear hp hpn
   have hcs:=And.intro (c1 d) (And.intro (c2 d) True.intro)
   clear c1 c2
   refine Wk ?_
   exact RW (d) (zy l j2)
 ·obtain ⟨a,j2,a1,d2,c2⟩:=vi l j1 65536 d1 oo oo
  obtain ⟨b,j3,b1,d3,c3⟩:=vi l j2 65536 d2 oo oo
  obtain ⟨v,hv⟩:∃ v:Int,bits .or .u64 (a:Int) ((b:Int) * 281474976710656)=v:=⟨_,rfl⟩
  obtain ⟨v0,v1⟩:=kE .or (a:Int) ((b:Int) * 281474976710656)
  rw [hv] at v0 v1
  have haw:IntKind.u64.wrap (a:Int)=a:=yq oo oo
  have hbw:IntKind.u64.wrap (b:Int)=b:=yq oo oo
  have hbs:IntKind.u64.wrap ((b:Int) * 281474976710656)=(b:Int) * 281474976710656:=yq oo oo
  have ha:=zma v v0 v1
  obtain ⟨w,hw⟩:∃ w,v % 128=w:=⟨_,rfl⟩
  have w0:0≤w:=by omega
  have w1:w < 128:=by omega
  rw [hw] at ha
  by_cases hz:w=0
  ·obtain ⟨y,j9,y1,d9,c9⟩:=vi l j3 7 d3 oo oo
   obtain ⟨p,hp1,hp2,hp3⟩:=zgS y 7 y1 oo
   have hmn:min y 64=y:=by omega
   refine ⟨p,j9,hp2,hp3,d9,fun d k=>?_⟩
   have hpw:IntKind.u64.wrap p=p:=yq oo (by simp at hp3;omega)
   have hyw:IntKind.u64.wrap (y:Int)=y:=yq oo oo
   have hzb:(w == 0)=true:=by simp [hz]
   refine Bd func127 ntmps127 fun σ N hp hpn hk hkn hfree=>?_
   obtain ⟨hd,hdn⟩:=HD0 hp hpn;clear hp hpn
   have hcs:=And.intro (c1 d) (And.intro (c2 d) (And.intro (c3 d) (And.intro (c9 d) True.intro)))
   clear c1 c2 c3 c9
   refine Wk ?_
   exact RW (d) (zy l j9)
  ·have hzb:(w == 0)=false:=by simp [hz]
   refine ⟨w,j3,by omega,by simp;omega,d3,fun d k=>?_⟩
   refine Bd func127 ntmps127 fun σ N hp hpn hk hkn hfree=>?_
   obtain ⟨hd,hdn⟩:=HD0 hp hpn;clear hp hpn
   have hcs:=And.intro (c1 d) (And.intro (c2 d) (And.intro (c3 d) True.intro))
   clear c1 c2 c3
   refine Wk ?_
   exact RW (d) (zy l j3)
 ·obtain ⟨a,j2,a1,d2,c2⟩:=vi l j1 65536 d1 oo oo
  obtain ⟨v,hv⟩:∃ v:Int,bits .xor .u64 18446744073709551615 (a:Int)=v:=⟨_,rfl⟩
  obtain ⟨v0,v1⟩:=kE .xor 18446744073709551615 (a:Int)
  rw [hv] at v0 v1
  have haw:IntKind.u64.wrap (a:Int)=a:=yq oo oo
  have hsx:(if IntKind.u64.signed=true then (-1:Int) else IntKind.u64.max)=18446744073709551615:=by decide
  have ha:=zma v v0 v1
  obtain ⟨w,hw⟩:∃ w,v % 128=w:=⟨_,rfl⟩
  have w0:0≤w:=by omega
  have w1:w < 128:=by omega
  rw [hw] at ha
  by_cases hz:w=0
  ·obtain ⟨y,j9,y1,d9,c9⟩:=vi l j2 7 d2 oo oo
   obtain ⟨p,hp1,hp2,hp3⟩:=zgS y 7 y1 oo
   have hmn:min y 64=y:=by omega
   refine ⟨p,j9,hp2,hp3,d9,fun d k=>?_⟩
   have hpw:IntKind.u64.wrap p=p:=yq oo (by simp at hp3;omega)
   have hyw:IntKind.u64.wrap (y:Int)=y:=yq oo oo
   have hzb:(w == 0)=true:=by simp [hz]
   refine Bd func127 ntmps127 fun σ N hp hpn hk hkn hfree=>?_
   obtain ⟨hd,hdn⟩:=HD0 hp hpn;clear hp hpn
   have hcs:=And.intro (c1 d) (And.intro (c2 d) (And.intro (c9 d) True.intro))
   clear c1 c2 c9
   refine Wk ?_
   exact RW (d) (zy l j9)
  ·have hzb:(w == 0)=false:=by simp [hz]
   refine ⟨w,j2,by omega,by simp;omega,d2,fun d k=>?_⟩
   refine Bd func127 ntmps127 fun σ N hp hpn hk hkn hfree=>?_
   obtain ⟨hd,hdn⟩:=HD0 hp hpn;clear hp hpn
   have hcs:=And.intro (c1 d) (And.intro (c2 d) True.intro)
   clear c1 c2
   refine Wk ?_
   exact RW (d) (zy l j2)
end Go.Proofs.YtglmjglbobhbbaaGreatDoor
