/- Texts U8, joined. -/
import Derived.Test.YtglmjglbobhbbaaGreatDoorM22
import Derived.Test.YtglmjglbobhbbaaGreatDoorM28
namespace Go.Proofs.YtglmjglbobhbbaaGreatDoor
open _root_.Go.Proofs.Tryz
open Go.Ab
attribute [local irreducible] Go.Ab.tyAV Go.Ab.aw Go.Ab.aops Go.Ab.kReg Go.Ab.aThen Go.Ab.aBlk Go.Ab.acond Go.Ab.aguard Go.Ab.astep Go.Ab.AStepX Go.Ab.aRet
attribute [local irreducible] yE
section
variable [W:W32]
def zig (h:List UInt8):Pr:=⟨6,0,0,0,h,0⟩
def zaD (a:Alg) (c:Co) (t:List UInt8) (holder:List UInt8) (minute:Int):Alg × Di × Nat:=
 if zbO holder=false then (wZ,di0,7) else if minute < 0∨67108864 < minute then (wZ,di0,1) else
 if (zhI a c t).2.2≠0 then (wZ,di0,(zhI a c t).2.2) else if (zhu c.ps holder).2=false then (wZ,di0,12) else
 if ztE (zhu c.ps holder).1.born minute < (zhI a c t).2.1.least∨(zhI a c t).2.1.most < ztE (zhu c.ps holder).1.born minute then (wZ,di0,25) else
 if (yJ a (zhI a c t).1 (vy t)).2.2=0 then wD (yJ a (zhI a c t).1 (vy t)).1 ⟨t,[],(yJ a (zhI a c t).1 (vy t)).2.1⟩ (zig holder) else (wZ,di0,(yJ a (zhI a c t).1 (vy t)).2.2)
theorem zel {a:Alg} {m:Nat} (h:AlgIn a m) (c:Co) (t holder:List UInt8) (minute:Int):AlgIn (zaD a c t holder minute).1 (m+2):=by
 unfold zaD
 repeat' split
 all_goals first | exact xE _ | exact zdm (yN h _ _) _ _
set_option maxHeartbeats 1000000 in
theorem zlV (a:Alg) (m:Nat) (ha:AlgIn a m) (hm:m≤800000) (c:Co) (hc:c.ps.length≤1000000) (t:List UInt8) (ht:t.length≤100000) (holder:List UInt8) (hh:holder.length≤100000) (minute:Int) (k:Nat):
  ACall prog 74 [zA a,xW c,.slice none (t.map za),zbo holder,.lit (.int .i64 minute)] k [] (zmf (zaD a c t holder minute)) []:=by
 have hnv:zbo holder=.lit (.string ⟨holder.toArray⟩):=rfl
 have c1:=zml holder oo
 unfold zaD
 cases hn:zbO holder with
 | false=>
  rw [if_pos rfl]
  rw [hn] at c1
  unfold zmf
  simp only [zZ,zdP]
  clear ha
  refine Bd func74 ntmps74 fun σ N hp hpn hk hkn hfree=>?_
  have hcs:=And.intro c1 True.intro
  clear c1
  refine Wk ?_
  exact WD
 | true=>
  rw [if_neg (by simp)]
  rw [hn] at c1
  by_cases h1:minute < 0
  ·rw [if_pos (.inl h1)]
   unfold zmf
   simp only [zZ,zdP]
   clear ha
   refine Bd func74 ntmps74 fun σ N hp hpn hk hkn hfree=>?_
   have hcs:=And.intro c1 True.intro
   clear c1
   refine Wk ?_
   exact WD
  by_cases h2:67108864 < minute
  ·rw [if_pos (.inr h2)]
   unfold zmf
   simp only [zZ,zdP]
   clear ha
   refine Bd func74 ntmps74 fun σ N hp hpn hk hkn hfree=>?_
   have hcs:=And.intro c1 True.intro
   clear c1
   refine Wk ?_
   exact WD
  rw [if_neg oo]
  have c2:=zlW a m ha oo c t ht
  generalize hX:zhI a c t=X at *
  obtain ⟨kt,te,e1'⟩:=X
  unfold zyq at c2
  simp only at c2 ⊢
  by_cases he:e1'=0
  ·subst he
   rw [if_neg (by simp)]
   obtain ⟨pa,ck,ps⟩:=c
   simp only at hc c2 ⊢
   have c3:=znc pa ck ps holder hc
   generalize zhu ps holder=Y at *
   obtain ⟨pe,ok⟩:=Y
   simp only at c3 ⊢
   cases ok with
   | false=>
    rw [if_pos rfl]
    unfold zmf
    simp only [zZ,zdP]
    clear ha hX
    refine Bd func74 ntmps74 fun σ N hp hpn hk hkn hfree=>?_
    have hcs:=And.intro c1 (And.intro c2 (And.intro c3 True.intro))
    clear c1 c2 c3
    refine Wk ?_
    exact WD
   | true=>
    rw [if_neg (by simp)]
    obtain ⟨pn,pb⟩:=pe
    have c4:=zoy pn pb minute
    simp only
    generalize ztE pb minute=A at *
    obtain ⟨x,y⟩:=te
    simp only [zhS] at c2
    simp only
    by_cases h3:A < x
    ·rw [if_pos (.inl h3)]
     unfold zmf
     simp only [zZ,zdP]
     clear ha hX
     refine Bd func74 ntmps74 fun σ N hp hpn hk hkn hfree=>?_
     have hcs:=And.intro c1 (And.intro c2 (And.intro c3 (And.intro c4 True.intro)))
     clear c1 c2 c3 c4
     refine Wk ?_
     exact WD
    by_cases h4:y < A
    ·rw [if_pos (.inr h4)]
     unfold zmf
     simp only [zZ,zdP]
     clear ha hX
     refine Bd func74 ntmps74 fun σ N hp hpn hk hkn hfree=>?_
     have hcs:=And.intro c1 (And.intro c2 (And.intro c3 (And.intro c4 True.intro)))
     clear c1 c2 c3 c4
     refine Wk ?_
     exact WD
    rw [if_neg (by rintro (h | h);exact h3 h;exact h4 h)]
    have c5:=zkA t oo
    have c6:=qQ a kt (vy t) (by have:=ha.ml;omega) ha.mm
    have hin:=yN ha kt (vy t)
    generalize yJ a kt (vy t)=Z at *
    obtain ⟨a1,t1,e2'⟩:=Z
    generalize vy t=M at *
    unfold zha at c6
    simp only at c6 hin ⊢
    by_cases h5:e2'=0
    ·subst h5
     rw [if_pos rfl]
     have c7:=zgV a1 (m+1) hin oo ⟨t,[],t1⟩ (by simp) (zig holder) ⟨by simp [zig],by simp [zig],by simp only [zig];have:=zey hn;omega⟩
     generalize wD a1 ⟨t,[],t1⟩ (zig holder)=R at *
     obtain ⟨a2,d2,e3'⟩:=R
     unfold zmf at *
     simp only [zw,zig,zU,List.map_nil] at c7
     simp only
     clear ha hX hin
     have hd2:zw d2=.agg [.slice none (d2.ticket.map za),.slice none (d2.conds.map zU),zd d2.tag]:=rfl
     refine Bd func74 ntmps74 fun σ N hp hpn hk hkn hfree=>?_
     have hcs:=And.intro c1 (And.intro c2 (And.intro c3 (And.intro c4 (And.intro c5 (And.intro c6 (And.intro c7 True.intro))))))
     clear c1 c2 c3 c4 c5 c6 c7
     refine Wk ?_
     exact WD
    ·rw [if_neg h5]
     have h5i:((e2':Int) != 0)=true:=by simp;omega
     unfold zmf
     simp only [zZ,zdP]
     clear ha hX hin
     refine Bd func74 ntmps74 fun σ N hp hpn hk hkn hfree=>?_
     have hcs:=And.intro c1 (And.intro c2 (And.intro c3 (And.intro c4 (And.intro c5 (And.intro c6 True.intro)))))
     clear c1 c2 c3 c4 c5 c6
     refine Wk ?_
     exact WD
  ·rw [if_pos he]
   have h1i:((e1':Int) != 0)=true:=by simp;omega
   unfold zmf
   simp only [zZ,zdP]
   clear ha hX
   refine Bd func74 ntmps74 fun σ N hp hpn hk hkn hfree=>?_
   have hcs:=And.intro c1 (And.intro c2 True.intro)
   clear c1 c2
   refine Wk ?_
   exact WD
end
end Go.Proofs.YtglmjglbobhbbaaGreatDoor
