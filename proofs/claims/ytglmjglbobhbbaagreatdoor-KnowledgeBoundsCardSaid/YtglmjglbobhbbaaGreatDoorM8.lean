/- Texts L1, K2, K3, K4, R2, R6, joined. -/
import Derived.Test.YtglmjglbobhbbaaGreatDoorM6
namespace Go.Proofs.YtglmjglbobhbbaaGreatDoor
open _root_.Go.Proofs.Tryz
open Go.Ab
attribute [local irreducible] Go.Ab.tyAV Go.Ab.aw Go.Ab.aops Go.Ab.kReg Go.Ab.aThen Go.Ab.aBlk Go.Ab.acond Go.Ab.aguard Go.Ab.astep Go.Ab.AStepX Go.Ab.aRet
def bAV (b:List UInt8):AV:=.slice none (b.map za)
theorem qS (b:List UInt8):bAV b=.slice none (b.map za):=rfl
@[go_sem] theorem ztG (b:List UInt8):(bAV b).sz=1:=rfl
@[go_sem] theorem zvZ (b:List UInt8):(bAV b).isAgg=false:=rfl
@[go_sem] theorem zxZ (l:List (List UInt8)):(l.map bAV).all (fun x=>x.sz == 1)=true:=by
 rw [List.all_eq_true];intro x hx;obtain ⟨b,_,rfl⟩:=List.mem_map.1 hx;rfl
@[go_sem] theorem zoX (b:List UInt8):(bAV b).cell=true:=rfl
@[go_sem] theorem znP (f:Nat→Option Nat) (b:List UInt8):(bAV b).ren f=bAV b:=by
 simp only [bAV,AV.ren,xr,Option.bind_none]
@[go_sem] theorem zyu (f:Nat→Option Nat) (l:List (List UInt8)):AV.renl f (l.map bAV)=l.map bAV:=by
 rw [AV.renl_map,List.map_map];exact List.map_congr_left fun t _=>znP f t
@[go_sem] theorem zx0 (l:List (List UInt8)):(l.map bAV).all (fun x=>x.sz == 1 && x.cell)=true:=by
 rw [List.all_eq_true];intro x hx;obtain ⟨b,_,rfl⟩:=List.mem_map.1 hx;rfl
@[go_sem] theorem szl_bs (l:List (List UInt8)):AV.szl (l.map bAV)=l.length:=by
 rw [AV.szl_uniform _ 1 fun x hx=>by obtain ⟨b,_,rfl⟩:=List.mem_map.1 hx;rfl];simp
theorem AV.le_sliceS {xs ys:List AV} (o:Option Nat) (h:ALe xs ys):AV.le (.slice o xs) (.slice o ys):=fun g v hr=>by
 obtain ⟨h1,h2⟩:=h.at
 cases hr with
 | slice own _ vs A c size hvl hc hm hr hs hcell hown=>
  rw [h1] at hvl hc hcell hown ⊢
  exact .slice o ys vs A c size hvl hc hm (fun i y v hy hv=>by obtain ⟨x,hx,hxy⟩:=h2 i y hy;exact hxy g v (hr i x v hx hv)) hs hcell hown
theorem ALe.snoc {xs:List AV} {x y:AV} (h:AV.le x y):ALe (xs++[x]) (xs++[y]):=by
 induction xs with
 | nil=>exact .cons h .nil
 | cons z r ih=>exact .cons (AV.le_refl _) ih
def bitsZ:List Int:=[0,64,32,7,0,0,0,0]
def bitsL:List AV:=bitsZ.map fun z=>.lit (.int .i64 z)
def zS:Ent:=.glob 0 (.agg bitsL)
@[simp,go_sem] theorem zxq:(zS=.none)=False:=by simp [zS]
@[go_sem] theorem zyj:bitsL[1]?=some (.lit (.int .i64 64)):=rfl
@[go_sem] theorem zyk:bitsL[2]?=some (.lit (.int .i64 32)):=rfl
@[go_sem] theorem zyl:bitsL[3]?=some (.lit (.int .i64 7)):=rfl
@[go_sem] theorem zxr:AV.szl (bitsL.take 1)=1:=rfl
@[go_sem] theorem zxs:AV.szl (bitsL.take 2)=2:=rfl
@[go_sem] theorem zxt:AV.szl (bitsL.take 3)=3:=rfl
def yc (p:Pr):Bool:=
 if p.kind=1 then zev p.mask 64 && decide (p=⟨p.kind,p.mask,0,0,[],0⟩)
 else if p.kind=2 then zev p.mask 32 && decide (p=⟨p.kind,p.mask,0,0,[],0⟩)
 else if p.kind=3 then zev p.mask 7 && decide (p=⟨p.kind,p.mask,0,0,[],0⟩)
 else if p.kind=4 then decide (0≤p.frm) && (decide (p.frm≤p.to) && (decide (p.to≤67108864) && decide (p=⟨p.kind,0,p.frm,p.to,[],0⟩)))
 else if p.kind=5 then decide (0≤p.frm) && (decide (p.frm < 1440) && (decide (0≤p.to) && (decide (p.to < 1440) && decide (p=⟨p.kind,0,p.frm,p.to,[],0⟩))))
 else if p.kind=6 then zbO p.name && decide (p=⟨p.kind,0,0,0,p.name,0⟩)
 else if p.kind=7 then decide (0≤p.num) && (decide (p.num≤1000000) && decide (p=⟨p.kind,0,0,0,[],p.num⟩))
 else false
structure PrOk (p:Pr):Prop where
 m0:0≤p.mask
 m1:p.mask < 18446744073709551616
 nl:p.name.length≤9223372036854775807
set_option maxHeartbeats 4000000 in
theorem xZ (p:Pr) (hp0:PrOk p) (d k:Nat):
  ACall prog 248 [zU p] k [(d,zS)] (.lit (.bool (yc p))) []:=by
 obtain ⟨kd,m,f,t,n,x⟩:=p
 obtain ⟨m0,m1,nl⟩:=hp0
 simp only at m0 m1 nl
 simp only [zU,yc]
 by_cases h1:kd=1
 ·subst h1
  simp only [Int.reduceEq,if_false,if_true]
  have c1:=zjB m m0 m1 64 (by decide)
  generalize zev m 64=b at *
  cases b <;> simp only [Bool.true_and,Bool.false_and]
  all_goals
   unfold zS
   refine Bd func248 ntmps248 fun σ N hp hpn hk hkn hfree=>?_
   obtain ⟨hd,hdn⟩:=HD0 hp hpn;clear hp hpn
   have G:GlobAt d 0:=⟨⟩
   have hcs:=And.intro c1 True.intro
   clear c1
   exact W0
 ·skip
  by_cases h2:kd=2
  ·subst h2
   simp only [Int.reduceEq,if_false,if_true]
   have c1:=zjB m m0 m1 32 (by decide)
   generalize zev m 32=b at *
   cases b <;> simp only [Bool.true_and,Bool.false_and]
   all_goals
    unfold zS
    refine Bd func248 ntmps248 fun σ N hp hpn hk hkn hfree=>?_
    obtain ⟨hd,hdn⟩:=HD0 hp hpn;clear hp hpn
    have G:GlobAt d 0:=⟨⟩
    have hcs:=And.intro c1 True.intro
    clear c1
    exact W0
  ·skip
   by_cases h3:kd=3
   ·subst h3
    simp only [Int.reduceEq,if_false,if_true]
    have c1:=zjB m m0 m1 7 (by decide)
    generalize zev m 7=b at *
    cases b <;> simp only [Bool.true_and,Bool.false_and]
    all_goals
     unfold zS
     refine Bd func248 ntmps248 fun σ N hp hpn hk hkn hfree=>?_
     obtain ⟨hd,hdn⟩:=HD0 hp hpn;clear hp hpn
     have G:GlobAt d 0:=⟨⟩
     have hcs:=And.intro c1 True.intro
     clear c1
     exact W0
   ·skip
    by_cases h4:kd=4
    ·subst h4
     simp only [Int.reduceEq,if_false,if_true]
     by_cases c1:0≤f
     ·by_cases c2:f≤t
      ·by_cases c3:t≤67108864
       ·simp only [decide_eq_true c1,decide_eq_true c2,decide_eq_true c3,Bool.true_and]
        unfold zS
        refine Bd func248 ntmps248 fun σ N hp hpn hk hkn hfree=>?_
        obtain ⟨hd,hdn⟩:=HD0 hp hpn;clear hp hpn
        have G:GlobAt d 0:=⟨⟩
        exact W0
       ·simp only [decide_eq_true c1,decide_eq_true c2,decide_eq_false c3,Bool.true_and,Bool.false_and]
        unfold zS
        refine Bd func248 ntmps248 fun σ N hp hpn hk hkn hfree=>?_
        obtain ⟨hd,hdn⟩:=HD0 hp hpn;clear hp hpn
        have G:GlobAt d 0:=⟨⟩
        exact W0
      ·simp only [decide_eq_true c1,decide_eq_false c2,Bool.true_and,Bool.false_and]
       unfold zS
       refine Bd func248 ntmps248 fun σ N hp hpn hk hkn hfree=>?_
       obtain ⟨hd,hdn⟩:=HD0 hp hpn;clear hp hpn
       have G:GlobAt d 0:=⟨⟩
       exact W0
     ·simp only [decide_eq_false c1,Bool.false_and]
      unfold zS
      refine Bd func248 ntmps248 fun σ N hp hpn hk hkn hfree=>?_
      obtain ⟨hd,hdn⟩:=HD0 hp hpn;clear hp hpn
      have G:GlobAt d 0:=⟨⟩
      exact W0
    ·skip
     by_cases h5:kd=5
     ·subst h5
      simp only [Int.reduceEq,if_false,if_true]
      by_cases c1:0≤f
      ·by_cases c2:f < 1440
       ·by_cases c3:0≤t
        ·by_cases c4:t < 1440
         ·simp only [decide_eq_true c1,decide_eq_true c2,decide_eq_true c3,decide_eq_true c4,Bool.true_and]
          unfold zS
          refine Bd func248 ntmps248 fun σ N hp hpn hk hkn hfree=>?_
          obtain ⟨hd,hdn⟩:=HD0 hp hpn;clear hp hpn
          have G:GlobAt d 0:=⟨⟩
          exact W0
         ·simp only [decide_eq_true c1,decide_eq_true c2,decide_eq_true c3,decide_eq_false c4,Bool.true_and,Bool.false_and]
          unfold zS
          refine Bd func248 ntmps248 fun σ N hp hpn hk hkn hfree=>?_
          obtain ⟨hd,hdn⟩:=HD0 hp hpn;clear hp hpn
          have G:GlobAt d 0:=⟨⟩
          exact W0
        ·simp only [decide_eq_true c1,decide_eq_true c2,decide_eq_false c3,Bool.true_and,Bool.false_and]
         unfold zS
         refine Bd func248 ntmps248 fun σ N hp hpn hk hkn hfree=>?_
         obtain ⟨hd,hdn⟩:=HD0 hp hpn;clear hp hpn
         have G:GlobAt d 0:=⟨⟩
         exact W0
       ·simp only [decide_eq_true c1,decide_eq_false c2,Bool.true_and,Bool.false_and]
        unfold zS
        refine Bd func248 ntmps248 fun σ N hp hpn hk hkn hfree=>?_
        obtain ⟨hd,hdn⟩:=HD0 hp hpn;clear hp hpn
        have G:GlobAt d 0:=⟨⟩
        exact W0
      ·simp only [decide_eq_false c1,Bool.false_and]
       unfold zS
       refine Bd func248 ntmps248 fun σ N hp hpn hk hkn hfree=>?_
       obtain ⟨hd,hdn⟩:=HD0 hp hpn;clear hp hpn
       have G:GlobAt d 0:=⟨⟩
       exact W0
     ·skip
      by_cases h6:kd=6
      ·subst h6
       simp only [Int.reduceEq,if_false,if_true]
       have c1:=zrB n nl
       generalize zbO n=b at *
       cases b <;> simp only [Bool.true_and,Bool.false_and]
       all_goals
        unfold zS
        refine Bd func248 ntmps248 fun σ N hp hpn hk hkn hfree=>?_
        obtain ⟨hd,hdn⟩:=HD0 hp hpn;clear hp hpn
        have G:GlobAt d 0:=⟨⟩
        have hcs:=And.intro c1 True.intro
        clear c1
        exact W0
      ·skip
       by_cases h7:kd=7
       ·subst h7
        simp only [Int.reduceEq,if_false,if_true]
        by_cases c1:0≤x
        ·by_cases c2:x≤1000000
         ·simp only [decide_eq_true c1,decide_eq_true c2,Bool.true_and]
          unfold zS
          refine Bd func248 ntmps248 fun σ N hp hpn hk hkn hfree=>?_
          obtain ⟨hd,hdn⟩:=HD0 hp hpn;clear hp hpn
          have G:GlobAt d 0:=⟨⟩
          exact W0
         ·simp only [decide_eq_true c1,decide_eq_false c2,Bool.true_and,Bool.false_and]
          unfold zS
          refine Bd func248 ntmps248 fun σ N hp hpn hk hkn hfree=>?_
          obtain ⟨hd,hdn⟩:=HD0 hp hpn;clear hp hpn
          have G:GlobAt d 0:=⟨⟩
          exact W0
        ·simp only [decide_eq_false c1,Bool.false_and]
         unfold zS
         refine Bd func248 ntmps248 fun σ N hp hpn hk hkn hfree=>?_
         obtain ⟨hd,hdn⟩:=HD0 hp hpn;clear hp hpn
         have G:GlobAt d 0:=⟨⟩
         exact W0
       ·skip
        simp only [if_neg h1,if_neg h2,if_neg h3,if_neg h4,if_neg h5,if_neg h6,if_neg h7]
        have g1:(kd == 1)=false:=by simp [h1]
        have g2:(kd == 2)=false:=by simp [h2]
        have g3:(kd == 3)=false:=by simp [h3]
        have g4:(kd == 4)=false:=by simp [h4]
        have g5:(kd == 5)=false:=by simp [h5]
        have g6:(kd == 6)=false:=by simp [h6]
        have g7:(kd == 7)=false:=by simp [h7]
        clear h1 h2 h3 h4 h5 h6 h7
        unfold zS
        refine Bd func248 ntmps248 fun σ N hp hpn hk hkn hfree=>?_
        obtain ⟨hd,hdn⟩:=HD0 hp hpn;clear hp hpn
        have G:GlobAt d 0:=⟨⟩
        exact W0
set_option maxHeartbeats 4000000 in
theorem vU (p:Pr) (hp0:PrOk p) (k:Nat):
  ACall prog 139 [zU p] k [] (.lit (.bool (yc p))) []:=by
 obtain ⟨kd,m,f,t,n,x⟩:=p
 obtain ⟨m0,m1,nl⟩:=hp0
 simp only at m0 m1 nl
 simp only [zU,yc]
 by_cases h1:kd=1
 ·subst h1
  simp only [Int.reduceEq,if_false,if_true]
  unfold zev
  by_cases hm:m=0
  ·subst hm
   simp only [ne_eq,not_true_eq_false,decide_false,Bool.false_and]
   refine Bd func139 ntmps139 fun σ N hp hpn hk hkn hfree=>?_
   exact W0
  ·have hmb:(m == 0)=false:=by simp [hm]
   have hmc:(m != 0)=true:=by simp [hm]
   rw [show decide (m≠0)=true by simp [hm],Bool.true_and]
   rw [show decide (m < 2 ^ 64)=true by simp;omega,Bool.true_and]
   refine Bd func139 ntmps139 fun σ N hp hpn hk hkn hfree=>?_
   exact W0
 ·skip
  by_cases h2:kd=2
  ·subst h2
   simp only [Int.reduceEq,if_false,if_true]
   unfold zev
   by_cases hm:m=0
   ·subst hm
    simp only [ne_eq,not_true_eq_false,decide_false,Bool.false_and]
    refine Bd func139 ntmps139 fun σ N hp hpn hk hkn hfree=>?_
    exact W0
   ·have hmb:(m == 0)=false:=by simp [hm]
    have hmc:(m != 0)=true:=by simp [hm]
    rw [show decide (m≠0)=true by simp [hm],Bool.true_and]
    by_cases hl:m < 4294967296
    ·rw [show decide (m < 2 ^ 32)=true by simp;omega,Bool.true_and]
     refine Bd func139 ntmps139 fun σ N hp hpn hk hkn hfree=>?_
     exact W0
    ·rw [show decide (m < 2 ^ 32)=false by simp;omega,Bool.false_and]
     refine Bd func139 ntmps139 fun σ N hp hpn hk hkn hfree=>?_
     exact W0
  ·skip
   by_cases h3:kd=3
   ·subst h3
    simp only [Int.reduceEq,if_false,if_true]
    unfold zev
    by_cases hm:m=0
    ·subst hm
     simp only [ne_eq,not_true_eq_false,decide_false,Bool.false_and]
     refine Bd func139 ntmps139 fun σ N hp hpn hk hkn hfree=>?_
     exact W0
    ·have hmb:(m == 0)=false:=by simp [hm]
     have hmc:(m != 0)=true:=by simp [hm]
     rw [show decide (m≠0)=true by simp [hm],Bool.true_and]
     by_cases hl:m < 128
     ·rw [show decide (m < 2 ^ 7)=true by simp;omega,Bool.true_and]
      refine Bd func139 ntmps139 fun σ N hp hpn hk hkn hfree=>?_
      exact W0
     ·rw [show decide (m < 2 ^ 7)=false by simp;omega,Bool.false_and]
      refine Bd func139 ntmps139 fun σ N hp hpn hk hkn hfree=>?_
      exact W0
   ·skip
    by_cases h4:kd=4
    ·subst h4
     simp only [Int.reduceEq,if_false,if_true]
     by_cases c1:0≤f
     ·by_cases c2:f≤t
      ·by_cases c3:t≤67108864
       ·simp only [decide_eq_true c1,decide_eq_true c2,decide_eq_true c3,Bool.true_and]
        refine Bd func139 ntmps139 fun σ N hp hpn hk hkn hfree=>?_
        exact W0
       ·simp only [decide_eq_true c1,decide_eq_true c2,decide_eq_false c3,Bool.true_and,Bool.false_and]
        refine Bd func139 ntmps139 fun σ N hp hpn hk hkn hfree=>?_
        exact W0
      ·simp only [decide_eq_true c1,decide_eq_false c2,Bool.true_and,Bool.false_and]
       refine Bd func139 ntmps139 fun σ N hp hpn hk hkn hfree=>?_
       exact W0
     ·simp only [decide_eq_false c1,Bool.false_and]
      refine Bd func139 ntmps139 fun σ N hp hpn hk hkn hfree=>?_
      exact W0
    ·skip
     by_cases h5:kd=5
     ·subst h5
      simp only [Int.reduceEq,if_false,if_true]
      by_cases c1:0≤f
      ·by_cases c2:f < 1440
       ·by_cases c3:0≤t
        ·by_cases c4:t < 1440
         ·simp only [decide_eq_true c1,decide_eq_true c2,decide_eq_true c3,decide_eq_true c4,Bool.true_and]
          refine Bd func139 ntmps139 fun σ N hp hpn hk hkn hfree=>?_
          exact W0
         ·simp only [decide_eq_true c1,decide_eq_true c2,decide_eq_true c3,decide_eq_false c4,Bool.true_and,Bool.false_and]
          refine Bd func139 ntmps139 fun σ N hp hpn hk hkn hfree=>?_
          exact W0
        ·simp only [decide_eq_true c1,decide_eq_true c2,decide_eq_false c3,Bool.true_and,Bool.false_and]
         refine Bd func139 ntmps139 fun σ N hp hpn hk hkn hfree=>?_
         exact W0
       ·simp only [decide_eq_true c1,decide_eq_false c2,Bool.true_and,Bool.false_and]
        refine Bd func139 ntmps139 fun σ N hp hpn hk hkn hfree=>?_
        exact W0
      ·simp only [decide_eq_false c1,Bool.false_and]
       refine Bd func139 ntmps139 fun σ N hp hpn hk hkn hfree=>?_
       exact W0
     ·skip
      by_cases h6:kd=6
      ·subst h6
       simp only [Int.reduceEq,if_false,if_true]
       have c1:=zml n nl
       generalize zbO n=b at *
       cases b <;> simp only [Bool.true_and,Bool.false_and]
       all_goals
        refine Bd func139 ntmps139 fun σ N hp hpn hk hkn hfree=>?_
        have hcs:=And.intro c1 True.intro
        clear c1
        exact W0
      ·skip
       by_cases h7:kd=7
       ·subst h7
        simp only [Int.reduceEq,if_false,if_true]
        by_cases c1:0≤x
        ·by_cases c2:x≤1000000
         ·simp only [decide_eq_true c1,decide_eq_true c2,Bool.true_and]
          refine Bd func139 ntmps139 fun σ N hp hpn hk hkn hfree=>?_
          exact W0
         ·simp only [decide_eq_true c1,decide_eq_false c2,Bool.true_and,Bool.false_and]
          refine Bd func139 ntmps139 fun σ N hp hpn hk hkn hfree=>?_
          exact W0
        ·simp only [decide_eq_false c1,Bool.false_and]
         refine Bd func139 ntmps139 fun σ N hp hpn hk hkn hfree=>?_
         exact W0
       ·skip
        simp only [if_neg h1,if_neg h2,if_neg h3,if_neg h4,if_neg h5,if_neg h6,if_neg h7]
        have g1:(kd == 1)=false:=by simp [h1]
        have g2:(kd == 2)=false:=by simp [h2]
        have g3:(kd == 3)=false:=by simp [h3]
        have g4:(kd == 4)=false:=by simp [h4]
        have g5:(kd == 5)=false:=by simp [h5]
        have g6:(kd == 6)=false:=by simp [h6]
        have g7:(kd == 7)=false:=by simp [h7]
        clear h1 h2 h3 h4 h5 h6 h7
        refine Bd func139 ntmps139 fun σ N hp hpn hk hkn hfree=>?_
        exact W0
structure Ca where
 third:Bool
 first:Pr
 party:Int
 ticket:List UInt8
 box:List UInt8
deriving DecidableEq
def z8 (c:Ca):AV:=.agg [.lit (.bool c.third),zU c.first,.lit (.int .i64 c.party),.slice none (c.ticket.map za),.slice none (c.box.map za)]
@[go_sem] theorem zlj (c:Ca):(z8 c).sz=10:=rfl
@[go_sem] theorem zve (c:Ca):(z8 c).isAgg=true:=rfl
@[go_sem] theorem zgi (c:Ca):(z8 c).cell=true:=rfl
@[go_sem] theorem zsu (f:Nat→Option Nat) (c:Ca):(z8 c).ren f=z8 c:=by
 simp only [z8,AV.ren,AV.renl,zpi,xr,Option.bind_none]
@[go_sem] theorem zpn (f:Nat→Option Nat) (l:List Ca):AV.renl f (l.map z8)=l.map z8:=by
 rw [AV.renl_map,List.map_map];exact List.map_congr_left fun t _=>zsu f t
@[go_sem] theorem zxk (l:List Ca):(l.map z8).all (fun x=>x.sz == 10)=true:=by
 rw [List.all_eq_true];intro x hx;obtain ⟨b,_,rfl⟩:=List.mem_map.1 hx;rfl
@[go_sem] theorem zxl (l:List Ca):(l.map z8).all (fun x=>x.sz == 10 && x.cell)=true:=by
 rw [List.all_eq_true];intro x hx;obtain ⟨b,_,rfl⟩:=List.mem_map.1 hx;rfl
@[go_sem] theorem zpo (f:Nat→Option Nat) (l:List Pr):AV.renl f (l.map zU)=l.map zU:=by
 rw [AV.renl_map,List.map_map];exact List.map_congr_left fun t _=>zpi f t
@[go_sem] theorem zxm (l:List Pr):(l.map zU).all (fun x=>x.sz == 6)=true:=by
 rw [List.all_eq_true];intro x hx;obtain ⟨b,_,rfl⟩:=List.mem_map.1 hx;rfl
@[go_sem] theorem zxn (l:List Pr):(l.map zU).all (fun x=>x.sz == 6 && x.cell)=true:=by
 rw [List.all_eq_true];intro x hx;obtain ⟨b,_,rfl⟩:=List.mem_map.1 hx;rfl
@[go_sem] theorem zv4 (c:Ca):(z8 c).get [0]=some (.lit (.bool c.third)):=rfl
@[go_sem] theorem zv5 (c:Ca):(z8 c).get [1]=some (zU c.first):=rfl
@[go_sem] theorem zv6 (c:Ca):(z8 c).get [2]=some (.lit (.int .i64 c.party)):=rfl
@[go_sem] theorem zv7 (c:Ca):(z8 c).get [3]=some (.slice none (c.ticket.map za)):=rfl
@[go_sem] theorem zv8 (c:Ca):(z8 c).get [4]=some (.slice none (c.box.map za)):=rfl
@[go_sem] theorem zvf (c:Ca):(z8 c).offs [0]=0:=rfl
@[go_sem] theorem zvg (c:Ca):(z8 c).offs [1]=1:=rfl
@[go_sem] theorem zvh (c:Ca):(z8 c).offs [2]=7:=rfl
@[go_sem] theorem zvi (c:Ca):(z8 c).offs [3]=8:=rfl
@[go_sem] theorem zvj (c:Ca):(z8 c).offs [4]=9:=rfl
def wy (l:List Ca):List Pr:=(l.filter fun c=>!c.third).map (·.first)
theorem zmH {l:List Ca} {u:Nat} {c:Ca} (h:u < l.length) (hc:l[u]=c):wy (l.take (u+1))=wy (l.take u)++(if c.third=true then [] else [c.first]):=by
 have:l.take (u+1)=l.take u++[c]:=by rw [List.take_add_one,List.getElem?_eq_getElem h,hc];rfl
 unfold wy
 rw [this,List.filter_append,List.map_append]
 cases hb:c.third <;> simp [hb]
theorem zad (l:List Ca):(wy l).length≤l.length:=by
 unfold wy;rw [List.length_map];exact List.length_filter_le _ _
theorem zbW (l:List Ca) (R:List Pr) (hR:wy l=R) (hl:l.length≤10000) (k:Nat):
  ACall prog 234 [.slice none (l.map z8)] k [] (.slice none (R.map zU)) []:=by
 have hf0:wy ([]:List Ca)=[]:=rfl
 refine Bd func234 ntmps234 fun σ N hp hpn hk hkn hfree=>?_
 refine Wk ?_
 refine ALoop.nilrow 3 138 6 (by simp (disch:=omega) [go_sem, *,-List.reduceReplicate]) ?_
 refine yn (N) zi (by kernel_rfl) [3,5,8,9,10,11,12,13,14,15,16,17,18,19,20] [] (fun m_ s_ σ_ n_=>∃ (u:Nat) (q:Nat) (acc:List Pr),m_=l.length - u∧s_ 8=.lit (.int .i64 u)∧s_ 3=.slice (some q) (acc.map zU)∧σ_ (q)=.row 138 6 acc.length∧(u≤l.length)∧(N≤q)∧(q < n_)∧(acc.length≤u)∧(wy (l.take u)=acc)) ⟨_,0,_,[],rfl,WF,WF,WF,WC,WC,WC,WC,WC⟩ ?_
 intro m_1 s_1 σ_1 n_1 hs_1 hf_1 hn_1 hI_1
 obtain ⟨u,q,acc,hm_1,h1_8,h1_3,e1_0,hu,hq,hqn,hal,hacc⟩:=hI_1
 have h1_2:=KS hs_1 2
 have h1_6:=KS hs_1 6
 have h1_7:=KS hs_1 7
 have hlow:=KL (N:=N) (σ:=σ) hf_1
 by_cases hul:u=l.length
 ·rw [hul,List.take_length,hR] at hacc
  subst hacc hul
  clear hR
  exact WM
 ·have hui:u < l.length:=by omega
  obtain ⟨c,hc⟩:∃ c,l[u]=c:=⟨_,rfl⟩
  have hf:=zmH hui hc
  rw [hacc] at hf
  clear hacc hR
  cases hb:c.third with
  | true=>
   rw [hb,if_pos rfl,List.append_nil] at hf
   refine Wk ?_
   exact ⟨WS,WG,WN,_,(show l.length - (u+1) < m_1 by omega),u+1,q,acc,rfl,WF,WF,WF,WC,WC,WC,WC,WC⟩
  | false=>
   rw [hb,if_neg (by simp)] at hf
   refine Wk ?_
   exact ⟨WS,WG,WN,_,(show l.length - (u+1) < m_1 by omega),u+1,q,acc++[c.first],rfl,WF,WF,WF,WC,WC,WC,WC,WC⟩
theorem zlU (l:List Ca) (R:List Pr) (hR:wy l=R) (hl:l.length≤10000) (k:Nat):
  ACall prog 228 [.slice none (l.map z8)] k [] (.slice none (R.map zU)) []:=by
 have hf0:wy ([]:List Ca)=[]:=rfl
 refine Bd func228 ntmps228 fun σ N hp hpn hk hkn hfree=>?_
 refine Wk ?_
 refine ALoop.nilrow 3 138 6 (by simp (disch:=omega) [go_sem, *,-List.reduceReplicate]) ?_
 refine yn (N) zi (by kernel_rfl) [3,4,5,6,7,8,9,10,11,12,13,14,15,16,17,18,19,20,21,22,23,24] [] (fun m_ s_ σ_ n_=>∃ (u:Nat) (q:Nat) (acc:List Pr),m_=l.length - u∧s_ 4=.lit (.int .i64 u)∧s_ 3=.slice (some q) (acc.map zU)∧σ_ (q)=.row 138 6 acc.length∧(u≤l.length)∧(N≤q)∧(q < n_)∧(acc.length≤u)∧(wy (l.take u)=acc)) ⟨_,0,_,[],rfl,WF,WF,WF,WC,WC,WC,WC,WC⟩ ?_
 intro m_2 s_2 σ_2 n_2 hs_2 hf_2 hn_2 hI_2
 obtain ⟨u,q,acc,hm_2,h2_4,h2_3,e2_0,hu,hq,hqn,hal,hacc⟩:=hI_2
 have h2_0:=KS hs_2 0
 have h2_2:=KS hs_2 2
 have hlow:=KL (N:=N) (σ:=σ) hf_2
 by_cases hul:u=l.length
 ·rw [hul,List.take_length,hR] at hacc
  subst hacc hul
  clear hR
  exact WM
 ·have hui:u < l.length:=by omega
  obtain ⟨c,hc⟩:∃ c,l[u]=c:=⟨_,rfl⟩
  have hf:=zmH hui hc
  rw [hacc] at hf
  clear hacc hR
  cases hb:c.third with
  | true=>
   rw [hb,if_pos rfl,List.append_nil] at hf
   refine Wk ?_
   exact ⟨WS,WG,WN,_,(show l.length - (u+1) < m_2 by omega),u+1,q,acc,rfl,WF,WF,WF,WC,WC,WC,WC,WC⟩
  | false=>
   rw [hb,if_neg (by simp)] at hf
   refine Wk ?_
   exact ⟨WS,WG,WN,_,(show l.length - (u+1) < m_2 by omega),u+1,q,acc++[c.first],rfl,WF,WF,WF,WC,WC,WC,WC,WC⟩
theorem xB (a b:List UInt8) (_ha:a.length≤140737488351232) (hb:b.length≤140737488351232) (k:Nat):
  ACall prog 120 [.slice none (a.map za),.slice none (b.map za)] k [] (.lit (.bool (decide (a=b)))) []:=by
 by_cases h:a=b
 ·subst h
  simp only [decide_true]
  refine Bd func120 ntmps120 fun σ N hp hpn hk hkn hfree=>?_
  exact W0
 ·rw [decide_eq_false h]
  have h1:((ByteArray.mk a.toArray) == (ByteArray.mk b.toArray))=false:=by rw [zui];simp [h]
  have h2:(a == b)=false:=by simp [h]
  have h3:(a.toArray == b.toArray)=false:=by simp [h]
  refine Bd func120 ntmps120 fun σ N hp hpn hk hkn hfree=>?_
  exact W0
def wY (c:Ca):Prop:=c.ticket.length≤140737488351232∧c.box.length≤140737488351232
def zfV (l:List Int) (i:Nat):Nat × Nat:=
 let k:=yl l i 4
 if k.1=0 then yl l k.2 4320
 else if k.1=1 then (min ((yl l k.2 60).1 * 1440+(yl l (yl l k.2 60).2 3).1) 67108864,(yl l (yl l k.2 60).2 3).2)
 else if k.1=2 then (67108864 - (yl l k.2 4320).1,(yl l k.2 4320).2)
 else yl l k.2 67108865
theorem zqc (l:List Int) (i:Nat):(zfV l i).1≤67108864:=by
 unfold zfV
 simp only
 split
 ·have:=y7 l (yl l i 4).2 4320 oo;omega
 ·split
  ·simp only;omega
  ·split
   ·simp only;omega
   ·have:=y7 l (yl l i 4).2 67108865 oo;omega
theorem zqb {l:List Int} {i:Nat} (h:Dk l i):Dk l (zfV l i).2:=by
 unfold zfV
 simp only
 split
 ·exact yu _ (yu _ h)
 ·split
  ·exact yu _ (yu _ (yu _ h))
  ·split
   ·exact yu _ (yu _ h)
   ·exact yu _ (yu _ h)
theorem znJ (l:List Int) (i:Nat) (h:Dk l i) (d k:Nat):
  ACall prog 128 [.ptr d [] 0] k [(d,zy l i)] (.lit (.int .i64 (zfV l i).1)) [(d,zy l (zfV l i).2)]:=by
 have c1:=yV l i 4 h oo oo
 have d1:=yu 4 h
 unfold zfV
 generalize yl l i 4=X at c1 d1 ⊢
 obtain ⟨x,j⟩:=X
 simp only at c1 d1 ⊢
 clear h
 by_cases e0:x=0
 ·subst e0
  simp only [if_true]
  have c2:=yV l j 4320 d1 oo oo
  generalize yl l j 4320=X at c2 ⊢
  obtain ⟨y,j2⟩:=X
  simp only at c2 ⊢
  clear d1
  refine Bd func128 ntmps128 fun σ N hp hpn hk hkn hfree=>?_
  have hd:=hp _ (List.mem_singleton.2 rfl)
  have hdn:=hpn _ (List.mem_singleton.2 rfl)
  simp only at hd hdn
  clear hp hpn
  have hcs:=And.intro (c1 d) (And.intro (c2 d) True.intro)
  refine Wk ?_
  exact RW (d) (zy l j2)
 ·simp only [e0,if_false]
  by_cases e1:x=1
  ·subst e1
   simp only [if_true]
   have c2:=yV l j 60 d1 oo oo
   have d2:=yu 60 d1
   have b2:=y7 l j 60 oo
   generalize yl l j 60=X at c2 d2 b2 ⊢
   obtain ⟨y,j2⟩:=X
   simp only at c2 d2 b2 ⊢
   have c3:=yV l j2 3 d2 oo oo
   have b3:=y7 l j2 3 oo
   generalize yl l j2 3=X at c3 b3 ⊢
   obtain ⟨z,j3⟩:=X
   simp only at c3 b3 ⊢
   obtain ⟨w,hw⟩:∃ w:Nat,min (y * 1440+z) 67108864=w:=⟨_,rfl⟩
   have hw1:(if (67108864:Int) < (y:Int) * 1440+z then (67108864:Int) else (y:Int) * 1440+z)=w:=by split <;> omega
   rw [hw]
   clear d1 d2 hw
   refine Bd func128 ntmps128 fun σ N hp hpn hk hkn hfree=>?_
   have hd:=hp _ (List.mem_singleton.2 rfl)
   have hdn:=hpn _ (List.mem_singleton.2 rfl)
   simp only at hd hdn
   clear hp hpn
   have hcs:=And.intro (c1 d) (And.intro (c2 d) (And.intro (c3 d) True.intro))
   refine Wk ?_
   exact RW (d) (zy l j3)
  ·simp only [e1,if_false]
   by_cases e2:x=2
   ·subst e2
    simp only [if_true]
    have c2:=yV l j 4320 d1 oo oo
    have b2:=y7 l j 4320 oo
    generalize yl l j 4320=X at c2 b2 ⊢
    obtain ⟨y,j2⟩:=X
    simp only at c2 b2 ⊢
    have hw:(67108864:Int) - (y:Int)=((67108864 - y:Nat):Int):=by omega
    rw [← hw]
    clear d1 hw
    refine Bd func128 ntmps128 fun σ N hp hpn hk hkn hfree=>?_
    have hd:=hp _ (List.mem_singleton.2 rfl)
    have hdn:=hpn _ (List.mem_singleton.2 rfl)
    simp only at hd hdn
    clear hp hpn
    have hcs:=And.intro (c1 d) (And.intro (c2 d) True.intro)
    refine Wk ?_
    exact RW (d) (zy l j2)
   ·simp only [e2,if_false]
    have c2:=yV l j 67108865 d1 oo oo
    generalize yl l j 67108865=X at c2 ⊢
    obtain ⟨y,j2⟩:=X
    simp only at c2 ⊢
    clear d1
    refine Bd func128 ntmps128 fun σ N hp hpn hk hkn hfree=>?_
    have hd:=hp _ (List.mem_singleton.2 rfl)
    have hdn:=hpn _ (List.mem_singleton.2 rfl)
    simp only at hd hdn
    clear hp hpn
    have hcs:=And.intro (c1 d) (And.intro (c2 d) True.intro)
    refine Wk ?_
    exact RW (d) (zy l j2)
def names8:List (List UInt8):=[[97],[98],[97,110,110],[98,111,98],[99,105,100],[122,111,101],[97,97],[97,98,99,100,101,102,103,104,105,106,107,108,109,110,111,112]]
def zrA (l:List Int) (i:Nat):List UInt8 × Nat:=(names8.getD (yl l i 8).1 [],(yl l i 8).2)
theorem zsT {l:List Int} {i:Nat} (h:Dk l i):Dk l (zrA l i).2:=yu 8 h
theorem zpG (l:List Int) (i:Nat) (h:Dk l i) (d k:Nat):
  ACall prog 129 [.ptr d [] 0] k [(d,zy l i)] (zbo (zrA l i).1) [(d,zy l (zrA l i).2)]:=by
 have c1:=yV l i 8 h oo oo
 have b1:=y7 l i 8 oo
 unfold zrA
 generalize yl l i 8=X at c1 b1 ⊢
 obtain ⟨x,j⟩:=X
 simp only at c1 b1 ⊢
 have hx:∀ h:x < 8,([AV.lit (.string (ByteArray.mk #[97])),.lit (.string (ByteArray.mk #[98])),.lit (.string (ByteArray.mk #[97,110,110])),.lit (.string (ByteArray.mk #[98,111,98])),.lit (.string (ByteArray.mk #[99,105,100])),.lit (.string (ByteArray.mk #[122,111,101])),.lit (.string (ByteArray.mk #[97,97])),.lit (.string (ByteArray.mk #[97,98,99,100,101,102,103,104,105,106,107,108,109,110,111,112]))]:List AV)[x]=zbo (names8.getD x []):=by
  intro h
  have:x=0∨x=1∨x=2∨x=3∨x=4∨x=5∨x=6∨x=7:=by omega
  rcases this with rfl | rfl | rfl | rfl | rfl | rfl | rfl | rfl <;> rfl
 have hx2:=hx b1
 have hsz:(zbo (names8.getD x [])).sz=1:=rfl
 have hag:(zbo (names8.getD x [])).isAgg=false:=rfl
 have hrn:∀ f,(zbo (names8.getD x [])).ren f=zbo (names8.getD x []):=fun _=>rfl
 generalize zbo (names8.getD x [])=r at *
 clear hx
 refine Bd func129 ntmps129 fun σ N hp hpn hk hkn hfree=>?_
 have hd:=hp _ (List.mem_singleton.2 rfl)
 have hdn:=hpn _ (List.mem_singleton.2 rfl)
 simp only at hd hdn
 clear hp hpn
 have hcs:=And.intro (c1 d) True.intro
 refine Wk ?_
 exact RW (d) (zy l j)
end Go.Proofs.YtglmjglbobhbbaaGreatDoor
