/- Texts K5, joined. -/
import Derived.Test.YtglmjglbobhbbaaGreatDoorM8
namespace Go.Proofs.YtglmjglbobhbbaaGreatDoor
open _root_.Go.Proofs.Tryz
open Go.Ab
attribute [local irreducible] Go.Ab.tyAV Go.Ab.aw Go.Ab.aops Go.Ab.kReg Go.Ab.aThen Go.Ab.aBlk Go.Ab.acond Go.Ab.aguard Go.Ab.astep Go.Ab.AStepX Go.Ab.aRet
def zg2 (b:List UInt8):Bool:=decide (1≤b.length) && decide (b.length≤1024)
theorem zkW (b:List UInt8) (k:Nat):ACall prog 249 [.slice none (b.map za)] k [] (.lit (.bool (zg2 b))) []:=by
 unfold zg2
 by_cases h:1≤b.length
 ·have hi:(1:Int)≤(b.length:Int):=by omega
  rw [decide_eq_true h,Bool.true_and]
  by_cases h2:b.length≤1024
  ·have hi2:(b.length:Int)≤1024:=by omega
   rw [decide_eq_true h2]
   refine Bd func249 ntmps249 fun σ N hp hpn hk hkn hfree=>?_
   exact W0
  ·have hi2:¬ (b.length:Int)≤1024:=by omega
   rw [decide_eq_false h2]
   refine Bd func249 ntmps249 fun σ N hp hpn hk hkn hfree=>?_
   exact W0
 ·have hi:¬ (1:Int)≤(b.length:Int):=by omega
  rw [decide_eq_false h,Bool.false_and]
  refine Bd func249 ntmps249 fun σ N hp hpn hk hkn hfree=>?_
  exact W0
def x9:Pr:=⟨0,0,0,0,[],0⟩
def xz (c:Ca):Bool:=
 if c.third=false then yc c.first && (decide (c.party=0) && (decide (c.ticket.length=0) && decide (c.box.length=0)))
 else decide (c.first=x9) && (decide (0≤c.party) && (decide (c.party≤7) && (zg2 c.ticket && zg2 c.box)))
@[go_sem high] theorem zwe (a:Pr):
  evBin prog .eql 138 (zU a) (.agg [.lit (.int .i64 0),.lit (.int .u64 0),.lit (.int .i64 0),.lit (.int .i64 0),.lit (.string ByteArray.empty),.lit (.int .i64 0)]) =
   some ⟨[],.lit (.bool (decide (a=x9))),[]⟩:=ziv a x9
set_option maxHeartbeats 4000000 in
theorem qh (c:Ca) (hp0:PrOk c.first) (d k:Nat):
  ACall prog 218 [z8 c] k [(d,zS)] (.lit (.bool (xz c))) []:=by
 have c1:=xZ c.first hp0 d
 have c2:=zkW c.ticket
 have c3:=zkW c.box
 unfold xz
 cases ht:c.third with
 | false=>
  simp only [if_true]
  generalize yc c.first=b at *
  cases b <;> simp only [Bool.true_and,Bool.false_and]
  ·refine Bd func218 ntmps218 fun σ N hp hpn hk hkn hfree=>?_
   obtain ⟨hd,hdn⟩:=HD0 hp hpn;clear hp hpn
   have hcs:=And.intro c1 True.intro
   clear c1 c2 c3
   exact W0
  ·by_cases g1:c.party=0
   ·have kg1:(c.party == 0)=true:=by simp [g1]
    by_cases g2:c.ticket.length=0
    ·have kg2:((c.ticket.length:Int) == 0)=true:=by simp [g2]
     by_cases g3:c.box.length=0
     ·have kg3:((c.box.length:Int) == 0)=true:=by simp [g3]
      simp only [decide_eq_true g1,decide_eq_true g2,decide_eq_true g3,Bool.true_and]
      refine Bd func218 ntmps218 fun σ N hp hpn hk hkn hfree=>?_
      obtain ⟨hd,hdn⟩:=HD0 hp hpn;clear hp hpn
      have hcs:=And.intro c1 True.intro
      clear c1 c2 c3
      exact W0
     ·have kg3:((c.box.length:Int) == 0)=false:=by rw [beq_eq_false_iff_ne];omega
      simp only [decide_eq_true g1,decide_eq_true g2,decide_eq_false g3,Bool.true_and]
      refine Bd func218 ntmps218 fun σ N hp hpn hk hkn hfree=>?_
      obtain ⟨hd,hdn⟩:=HD0 hp hpn;clear hp hpn
      have hcs:=And.intro c1 True.intro
      clear c1 c2 c3
      exact W0
    ·have kg2:((c.ticket.length:Int) == 0)=false:=by rw [beq_eq_false_iff_ne];omega
     simp only [decide_eq_true g1,decide_eq_false g2,Bool.true_and,Bool.false_and]
     refine Bd func218 ntmps218 fun σ N hp hpn hk hkn hfree=>?_
     obtain ⟨hd,hdn⟩:=HD0 hp hpn;clear hp hpn
     have hcs:=And.intro c1 True.intro
     clear c1 c2 c3
     exact W0
   ·have kg1:(c.party == 0)=false:=by rw [beq_eq_false_iff_ne];omega
    simp only [decide_eq_false g1,Bool.false_and]
    refine Bd func218 ntmps218 fun σ N hp hpn hk hkn hfree=>?_
    obtain ⟨hd,hdn⟩:=HD0 hp hpn;clear hp hpn
    have hcs:=And.intro c1 True.intro
    clear c1 c2 c3
    exact W0
 | true=>
  simp only [Bool.true_eq_false,if_false]
  by_cases g1:c.first=x9
  ·by_cases g2:0≤c.party
   ·by_cases g3:c.party≤7
    ·simp only [decide_eq_true g1,decide_eq_true g2,decide_eq_true g3,Bool.true_and]
     generalize zg2 c.ticket=s1 at *
     generalize zg2 c.box=s2 at *
     cases s1 <;> simp only [Bool.true_and,Bool.false_and]
     ·refine Bd func218 ntmps218 fun σ N hp hpn hk hkn hfree=>?_
      obtain ⟨hd,hdn⟩:=HD0 hp hpn;clear hp hpn
      have hcs:=And.intro c2 True.intro
      clear c1 c2 c3
      exact W0
     ·refine Bd func218 ntmps218 fun σ N hp hpn hk hkn hfree=>?_
      obtain ⟨hd,hdn⟩:=HD0 hp hpn;clear hp hpn
      have hcs:=And.intro c2 (And.intro c3 True.intro)
      clear c1 c2 c3
      exact W0
    ·simp only [decide_eq_true g1,decide_eq_true g2,decide_eq_false g3,Bool.true_and,Bool.false_and]
     refine Bd func218 ntmps218 fun σ N hp hpn hk hkn hfree=>?_
     obtain ⟨hd,hdn⟩:=HD0 hp hpn;clear hp hpn
     clear c1 c2 c3
     exact W0
   ·simp only [decide_eq_true g1,decide_eq_false g2,Bool.true_and,Bool.false_and]
    refine Bd func218 ntmps218 fun σ N hp hpn hk hkn hfree=>?_
    obtain ⟨hd,hdn⟩:=HD0 hp hpn;clear hp hpn
    clear c1 c2 c3
    exact W0
  ·simp only [decide_eq_false g1,Bool.false_and]
   refine Bd func218 ntmps218 fun σ N hp hpn hk hkn hfree=>?_
   obtain ⟨hd,hdn⟩:=HD0 hp hpn;clear hp hpn
   clear c1 c2 c3
   exact W0
set_option maxHeartbeats 4000000 in
theorem ke (c:Ca) (hp0:PrOk c.first) (k:Nat):
  ACall prog 147 [z8 c] k [] (.lit (.bool (xz c))) []:=by
 have c1:=vU c.first hp0
 unfold xz
 cases ht:c.third with
 | false=>
  simp only [if_true]
  generalize yc c.first=b at *
  cases b <;> simp only [Bool.true_and,Bool.false_and]
  ·refine Bd func147 ntmps147 fun σ N hp hpn hk hkn hfree=>?_
   have hcs:=And.intro c1 True.intro
   clear c1
   exact W0
  ·by_cases g1:c.party=0
   ·have kg1:(c.party == 0)=true:=by simp [g1]
    by_cases g2:c.ticket.length=0
    ·have kg2:((c.ticket.length:Int) == 0)=true:=by simp [g2]
     by_cases g3:c.box.length=0
     ·have kg3:((c.box.length:Int) == 0)=true:=by simp [g3]
      simp only [decide_eq_true g1,decide_eq_true g2,decide_eq_true g3,Bool.true_and]
      refine Bd func147 ntmps147 fun σ N hp hpn hk hkn hfree=>?_
      have hcs:=And.intro c1 True.intro
      clear c1
      exact W0
     ·have kg3:((c.box.length:Int) == 0)=false:=by rw [beq_eq_false_iff_ne];omega
      simp only [decide_eq_true g1,decide_eq_true g2,decide_eq_false g3,Bool.true_and]
      refine Bd func147 ntmps147 fun σ N hp hpn hk hkn hfree=>?_
      have hcs:=And.intro c1 True.intro
      clear c1
      exact W0
    ·have kg2:((c.ticket.length:Int) == 0)=false:=by rw [beq_eq_false_iff_ne];omega
     simp only [decide_eq_true g1,decide_eq_false g2,Bool.true_and,Bool.false_and]
     refine Bd func147 ntmps147 fun σ N hp hpn hk hkn hfree=>?_
     have hcs:=And.intro c1 True.intro
     clear c1
     exact W0
   ·have kg1:(c.party == 0)=false:=by rw [beq_eq_false_iff_ne];omega
    simp only [decide_eq_false g1,Bool.false_and]
    refine Bd func147 ntmps147 fun σ N hp hpn hk hkn hfree=>?_
    have hcs:=And.intro c1 True.intro
    clear c1
    exact W0
 | true=>
  simp only [Bool.true_eq_false,if_false]
  unfold zg2
  by_cases g1:c.first=x9
  ·by_cases g2:0≤c.party
   ·by_cases g3:c.party≤7
    ·by_cases g4:1≤c.ticket.length
     ·have kg4:1≤(c.ticket.length:Int):=by omega
      by_cases g5:c.ticket.length≤1024
      ·have kg5:(c.ticket.length:Int)≤1024:=by omega
       by_cases g6:1≤c.box.length
       ·have kg6:1≤(c.box.length:Int):=by omega
        by_cases g7:c.box.length≤1024
        ·have kg7:(c.box.length:Int)≤1024:=by omega
         simp only [decide_eq_true g1,decide_eq_true g2,decide_eq_true g3,decide_eq_true g4,decide_eq_true g5,decide_eq_true g6,decide_eq_true g7,Bool.true_and]
         refine Bd func147 ntmps147 fun σ N hp hpn hk hkn hfree=>?_
         clear c1
         exact W0
        ·have kg7:¬ (c.box.length:Int)≤1024:=by omega
         simp only [decide_eq_true g1,decide_eq_true g2,decide_eq_true g3,decide_eq_true g4,decide_eq_true g5,decide_eq_true g6,decide_eq_false g7,Bool.true_and]
         refine Bd func147 ntmps147 fun σ N hp hpn hk hkn hfree=>?_
         clear c1
         exact W0
       ·have kg6:¬ 1≤(c.box.length:Int):=by omega
        simp only [decide_eq_true g1,decide_eq_true g2,decide_eq_true g3,decide_eq_true g4,decide_eq_true g5,decide_eq_false g6,Bool.true_and,Bool.false_and]
        refine Bd func147 ntmps147 fun σ N hp hpn hk hkn hfree=>?_
        clear c1
        exact W0
      ·have kg5:¬ (c.ticket.length:Int)≤1024:=by omega
       simp only [decide_eq_true g1,decide_eq_true g2,decide_eq_true g3,decide_eq_true g4,decide_eq_false g5,Bool.true_and,Bool.false_and]
       refine Bd func147 ntmps147 fun σ N hp hpn hk hkn hfree=>?_
       clear c1
       exact W0
     ·have kg4:¬ 1≤(c.ticket.length:Int):=by omega
      simp only [decide_eq_true g1,decide_eq_true g2,decide_eq_true g3,decide_eq_false g4,Bool.true_and,Bool.false_and]
      refine Bd func147 ntmps147 fun σ N hp hpn hk hkn hfree=>?_
      clear c1
      exact W0
    ·simp only [decide_eq_true g1,decide_eq_true g2,decide_eq_false g3,Bool.true_and,Bool.false_and]
     refine Bd func147 ntmps147 fun σ N hp hpn hk hkn hfree=>?_
     clear c1
     exact W0
   ·simp only [decide_eq_true g1,decide_eq_false g2,Bool.true_and,Bool.false_and]
    refine Bd func147 ntmps147 fun σ N hp hpn hk hkn hfree=>?_
    clear c1
    exact W0
  ·simp only [decide_eq_false g1,Bool.false_and]
   refine Bd func147 ntmps147 fun σ N hp hpn hk hkn hfree=>?_
   clear c1
   exact W0
end Go.Proofs.YtglmjglbobhbbaaGreatDoor
