/- Texts U4, joined. -/
import Derived.Test.YtglmjglbobhbbaaGreatDoorM23
namespace Go.Proofs.YtglmjglbobhbbaaGreatDoor
open _root_.Go.Proofs.Tryz
open Go.Ab
attribute [local irreducible] Go.Ab.tyAV Go.Ab.aw Go.Ab.aops Go.Ab.kReg Go.Ab.aThen Go.Ab.aBlk Go.Ab.acond Go.Ab.aguard Go.Ab.astep Go.Ab.AStepX Go.Ab.aRet
attribute [local irreducible] yE
def yF (l:List Ca):Nat:=l.length - (wy l).length
theorem vu (l:List Ca) (hl:l.length≤10000) (k:Nat):
  ACall prog 188 [.slice none (l.map z8)] k [] (.lit (.int .i64 (yF l:Nat))) []:=by
 have c1:=zlU l _ rfl hl
 have h1:=zad l
 have h2:((yF l:Nat):Int)=(l.length:Int) - ((wy l).length:Int):=by unfold yF;omega
 rw [h2]
 generalize wy l=R at *
 clear h2
 refine Bd func188 ntmps188 fun σ N hp hpn hk hkn hfree=>?_
 have hcs:=And.intro c1 True.intro
 clear c1
 exact W0
section
variable [W:W32]
def zba (a:Alg) (p:Pa) (c:Ca):Alg × Pa × Nat:=
 if xz c=false then (wZ,pa0,5) else if 64≤p.cavs.length∨(c.third=true∧8≤yF p.cavs) then (wZ,pa0,2) else
 if (xS a p.tag (y9 c)).2.2=0 then ((xS a p.tag (y9 c)).1,⟨p.epoch,p.serial,p.cavs++[c],(xS a p.tag (y9 c)).2.1⟩,0) else (wZ,pa0,(xS a p.tag (y9 c)).2.2)
theorem zhi {a:Alg} {m:Nat} (h:AlgIn a m) (p:Pa) (c:Ca):AlgIn (zba a p c).1 (m+2):=by
 unfold zba
 split
 ·exact xE _
 ·split
  ·exact xE _
  ·split
   ·exact zcN h _ _
   ·exact xE _
set_option maxHeartbeats 1000000 in
theorem zjP (a:Alg) (m:Nat) (ha:AlgIn a m) (hm:m≤900000) (p:Pa) (hpl:p.cavs.length≤10000) (c:Ca) (hp0:PrOk c.first) (k:Nat):
  ACall prog 131 [zA a,zG p,z8 c] k [] (zdZ (zba a p c)) []:=by
 have c1:=ke c hp0
 have c2:=vu p.cavs hpl
 have c3:=zh4 c hp0
 have c4:=zh6 a m ha hm p.tag (y9 c)
 unfold zba
 generalize hT:yF p.cavs=T at *
 have hT2:T≤10000:=by rw [← hT];unfold yF;omega
 clear hT
 obtain ⟨ep,se,L,tg⟩:=p
 simp only at hpl c2 c4 ⊢
 generalize xS a tg (y9 c)=X at *
 obtain ⟨a1,t1,e1'⟩:=X
 generalize y9 c=M at *
 unfold zha at c4
 simp only at c4 ⊢
 have hcc:z8 c=.agg [.lit (.bool c.third),zU c.first,.lit (.int .i64 c.party),.slice none (c.ticket.map za),.slice none (c.box.map za)]:=rfl
 cases hcv:xz c with
 | false=>
  rw [if_pos rfl]
  rw [hcv] at c1
  unfold zdZ zG pa0
  simp only [zZ,List.map_nil]
  clear c2 c3 c4 ha hcc
  refine Bd func131 ntmps131 fun σ N hp hpn hk hkn hfree=>?_
  have hcs:=And.intro c1 True.intro
  clear c1
  refine Wk ?_
  exact WD
 | true=>
  rw [if_neg (by simp)]
  rw [hcv] at c1
  by_cases h64:64≤L.length
  ·rw [if_pos (.inl h64)]
   have h64i:(64:Int)≤(L.length:Int):=by omega
   unfold zdZ zG pa0
   simp only [zZ,List.map_nil]
   clear c2 c3 c4 ha hcc
   refine Bd func131 ntmps131 fun σ N hp hpn hk hkn hfree=>?_
   have hcs:=And.intro c1 True.intro
   clear c1
   refine Wk ?_
   exact WD
  ·have h64i:¬ (64:Int)≤(L.length:Int):=by omega
   have hb:(L.length+1) * 120≤140737488355328:=by omega
   have hb0:L.length * 120≤140737488355328:=by omega
   have hb1:L.length≤140737488355327:=by omega
   cases hth:c.third with
   | true=>
    rw [hth] at hcc
    by_cases h8:8≤T
    ·rw [if_pos (.inr ⟨rfl,h8⟩)]
     have h8i:(8:Int)≤(T:Int):=by omega
     unfold zdZ zG pa0
     simp only [zZ,List.map_nil]
     clear c3 c4 ha
     refine Bd func131 ntmps131 fun σ N hp hpn hk hkn hfree=>?_
     have hcs:=And.intro c1 (And.intro c2 True.intro)
     clear c1 c2
     refine Wk ?_
     exact WD
    ·rw [if_neg (by rintro (h | ⟨_,h⟩) <;> omega)]
     have h8i:¬ (8:Int)≤(T:Int):=by omega
     by_cases he:e1'=0
     ·subst he
      rw [if_pos rfl]
      unfold zdZ zG
      simp only [List.map_append,List.map_cons,List.map_nil]
      clear ha
      refine Bd func131 ntmps131 fun σ N hp hpn hk hkn hfree=>?_
      have hcs:=And.intro c1 (And.intro c2 (And.intro c3 (And.intro c4 True.intro)))
      clear c1 c2 c3 c4
      refine Wk ?_
      exact WD
     ·rw [if_neg he]
      have h1i:((e1':Int) != 0)=true:=by simp;omega
      unfold zdZ zG pa0
      simp only [zZ,List.map_nil]
      clear ha
      refine Bd func131 ntmps131 fun σ N hp hpn hk hkn hfree=>?_
      have hcs:=And.intro c1 (And.intro c2 (And.intro c3 (And.intro c4 True.intro)))
      clear c1 c2 c3 c4
      refine Wk ?_
      exact WD
   | false=>
    rw [hth] at hcc
    rw [if_neg (by rintro (h | ⟨h,_⟩);omega;cases h)]
    by_cases he:e1'=0
    ·subst he
     rw [if_pos rfl]
     unfold zdZ zG
     simp only [List.map_append,List.map_cons,List.map_nil]
     clear ha c2
     refine Bd func131 ntmps131 fun σ N hp hpn hk hkn hfree=>?_
     have hcs:=And.intro c1 (And.intro c3 (And.intro c4 True.intro))
     clear c1 c3 c4
     refine Wk ?_
     exact WD
    ·rw [if_neg he]
     have h1i:((e1':Int) != 0)=true:=by simp;omega
     unfold zdZ zG pa0
     simp only [zZ,List.map_nil]
     clear ha c2
     refine Bd func131 ntmps131 fun σ N hp hpn hk hkn hfree=>?_
     have hcs:=And.intro c1 (And.intro c3 (And.intro c4 True.intro))
     clear c1 c3 c4
     refine Wk ?_
     exact WD
end
end Go.Proofs.YtglmjglbobhbbaaGreatDoor
