/- Texts U5, joined. -/
import Derived.Test.YtglmjglbobhbbaaGreatDoorM23
namespace Go.Proofs.YtglmjglbobhbbaaGreatDoor
open _root_.Go.Proofs.Tryz
open Go.Ab
attribute [local irreducible] Go.Ab.tyAV Go.Ab.aw Go.Ab.aops Go.Ab.kReg Go.Ab.aThen Go.Ab.aBlk Go.Ab.acond Go.Ab.aguard Go.Ab.astep Go.Ab.AStepX Go.Ab.aRet
attribute [local irreducible] yE
def zaZ (p:Pr):List UInt8 × Nat:=if yc p=true then (xH p,0) else ([],5)
theorem zgo (p:Pr):(zaZ p).1.length≤40:=by
 unfold zaZ
 split
 ·rename_i h;exact (yS p h).2
 ·simp
theorem zna (p:Pr) (hp0:PrOk p) (k:Nat):ACall prog 192 [zU p] k [] (zbu (zaZ p)) []:=by
 unfold zaZ zbu
 cases h:yc p with
 | false=>exact (zqj p hp0 h k).result (AV.sub_tup (.cons AV.le_nils0 (.cons (AV.le_refl _) .nil)))
 | true=>exact jX p hp0 h k
def vy (t:List UInt8):List UInt8:=[103,114,97,110,116]++t
def xw (t:List UInt8):List UInt8:=[115,101,97,108]++t
def qy (p:Pr):List UInt8:=[99,111,110,100,105,116,105,111,110]++(zaZ p).1
def y8 (leaf:Tg) (g n:Nat):List UInt8:=[98,105,110,100]++(leaf.1++(leb g++leb n))
def kI (g n:Nat):List UInt8:=[114,101,113,117,101,115,116]++(leb g++leb n)
theorem ziU (p:Pr):(qy p).length≤49:=by have:=zgo p;simp [qy];omega
theorem zbc (leaf:Tg) {g n:Nat} (hg:g≤281474976710656) (hn:n≤281474976710656):(y8 leaf g n).length≤60:=by
 have h1:=zh g 7 oo
 have h2:=zh n 7 oo
 simp [y8,leaf.2];omega
theorem zcP {g n:Nat} (hg:g≤281474976710656) (hn:n≤281474976710656):(kI g n).length≤60:=by
 have h1:=zh g 7 oo
 have h2:=zh n 7 oo
 simp [kI];omega
theorem zkA (t:List UInt8) (ht:t.length≤1000000) (k:Nat):
  ACall prog 138 [.slice none (t.map za)] k [] (.slice none ((vy t).map za)) []:=by
 have c2:=vX [103,114,97,110,116] t (by decide) ht
 unfold vy
 obtain ⟨M,hM⟩:∃ M,[103,114,97,110,116]++t=M:=⟨_,rfl⟩
 rw [hM] at c2 ⊢
 clear hM
 refine Bd func138 ntmps138 fun σ N hp hpn hk hkn hfree=>?_
 have hcs:=And.intro c2 True.intro
 clear c2
 exact W0
theorem zlX (t:List UInt8) (ht:t.length≤1000000) (k:Nat):
  ACall prog 133 [.slice none (t.map za)] k [] (.slice none ((xw t).map za)) []:=by
 have c2:=vX [115,101,97,108] t (by decide) ht
 unfold xw
 obtain ⟨M,hM⟩:∃ M,[115,101,97,108]++t=M:=⟨_,rfl⟩
 rw [hM] at c2 ⊢
 clear hM
 refine Bd func133 ntmps133 fun σ N hp hpn hk hkn hfree=>?_
 have hcs:=And.intro c2 True.intro
 clear c2
 exact W0
theorem zlS (p:Pr) (hp0:PrOk p) (k:Nat):
  ACall prog 140 [zU p] k [] (.slice none ((qy p).map za)) []:=by
 have c1:=zna p hp0
 have hl:=zgo p
 have c2:=vX [99,111,110,100,105,116,105,111,110] (zaZ p).1 (by decide) oo
 unfold zbu at c1
 unfold qy
 generalize zaZ p=X at *
 obtain ⟨lb,e⟩:=X
 simp only at c1 c2 hl ⊢
 obtain ⟨M,hM⟩:∃ M,[99,111,110,100,105,116,105,111,110]++lb=M:=⟨_,rfl⟩
 rw [hM] at c2 ⊢
 clear hM
 refine Bd func140 ntmps140 fun σ N hp hpn hk hkn hfree=>?_
 have hcs:=And.intro c1 (And.intro c2 True.intro)
 clear c1 c2
 exact W0
def rqB (r:Rq):Bool:=decide (0≤r.gate) && decide (r.gate < 8) && decide (1≤r.nonce) && decide (r.nonce≤281474976710656)
theorem rqB_iff {r:Rq}:rqB r=true↔(0≤r.gate∧r.gate < 8)∧1≤r.nonce∧r.nonce≤281474976710656:=by
 unfold rqB;simp [Bool.and_eq_true,and_assoc]
section
variable [W:W32]
def wD (a:Alg) (d:Di) (p:Pr):Alg × Di × Nat:=
 if yc p=false then (wZ,di0,5) else if p.kind=7 then (wZ,di0,6) else if 8≤d.conds.length then (wZ,di0,2) else
 if (yJ a d.tag (qy p)).2.2=0 then ((yJ a d.tag (qy p)).1,⟨d.ticket,d.conds++[p],(yJ a d.tag (qy p)).2.1⟩,0) else (wZ,di0,(yJ a d.tag (qy p)).2.2)
def zmf (r:Alg × Di × Nat):AV:=.tup [zA r.1,zw r.2.1,.lit (.int .i64 (r.2.2:Nat))]
theorem zdm {a:Alg} {m:Nat} (h:AlgIn a m) (d:Di) (p:Pr):AlgIn (wD a d p).1 (m+1):=by
 unfold wD
 split
 ·exact xE _
 ·split
  ·exact xE _
  ·split
   ·exact xE _
   ·split
    ·exact yN h _ _
    ·exact xE _
set_option maxHeartbeats 1000000 in
theorem zgV (a:Alg) (m:Nat) (ha:AlgIn a m) (hm:m≤900000) (d:Di) (hdl:d.conds.length≤10000) (p:Pr) (hp0:PrOk p) (k:Nat):
  ACall prog 75 [zA a,zw d,zU p] k [] (zmf (wD a d p)) []:=by
 have c1:=vU p hp0
 have c2:=zlS p hp0
 have c3:=qQ a d.tag (qy p) (by have:=ha.ml;omega) ha.mm
 unfold wD
 obtain ⟨ti,L,tg⟩:=d
 simp only at hdl c3 ⊢
 generalize yJ a tg (qy p)=X at *
 obtain ⟨a1,t1,e1'⟩:=X
 generalize qy p=M at *
 unfold zha at c3
 simp only at c3 ⊢
 have hpp:zU p=.agg [.lit (.int .i64 p.kind),.lit (.int .u64 p.mask),.lit (.int .i64 p.frm),.lit (.int .i64 p.to),.lit (.string ⟨p.name.toArray⟩),.lit (.int .i64 p.num)]:=rfl
 clear ha
 have hdA:zw ⟨ti,L,tg⟩=.agg [.slice none (ti.map za),.slice none (L.map zU),zd tg]:=rfl
 rw [hdA]
 clear hdA
 cases hpv:yc p with
 | false=>
  rw [if_pos rfl]
  rw [hpv] at c1
  unfold zmf
  simp only [zZ,zdP]
  clear c2 c3 hpp
  refine Bd func75 ntmps75 fun σ N hp hpn hk hkn hfree=>?_
  have hcs:=And.intro c1 True.intro
  clear c1
  refine Wk ?_
  exact WD
 | true=>
  rw [if_neg (by simp)]
  rw [hpv] at c1
  by_cases h7:p.kind=7
  ·rw [if_pos h7]
   unfold zmf
   simp only [zZ,zdP]
   clear c2 c3
   rw [h7] at hpp
   refine Bd func75 ntmps75 fun σ N hp hpn hk hkn hfree=>?_
   have hcs:=And.intro c1 True.intro
   clear c1
   refine Wk ?_
   exact WD
  ·rw [if_neg h7]
   have h7b:(p.kind == 7)=false:=by rw [beq_eq_false_iff_ne];exact h7
   by_cases h8:8≤L.length
   ·rw [if_pos h8]
    have h8i:(8:Int)≤(L.length:Int):=by omega
    unfold zmf
    simp only [zZ,zdP]
    clear c2 c3
    refine Bd func75 ntmps75 fun σ N hp hpn hk hkn hfree=>?_
    have hcs:=And.intro c1 True.intro
    clear c1
    refine Wk ?_
    exact WD
   ·rw [if_neg h8]
    have h8i:¬ (8:Int)≤(L.length:Int):=by omega
    have hb:(L.length+1) * 56≤140737488355328:=by omega
    have hb0:L.length * 56≤140737488355328:=by omega
    have hb1:L.length≤140737488355327:=by omega
    by_cases he:e1'=0
    ·subst he
     rw [if_pos rfl]
     unfold zmf zw
     simp only [List.map_append,List.map_cons,List.map_nil]
     refine Bd func75 ntmps75 fun σ N hp hpn hk hkn hfree=>?_
     have hcs:=And.intro c1 (And.intro c2 (And.intro c3 True.intro))
     clear c1 c2 c3
     refine Wk ?_
     exact WD
    ·rw [if_neg he]
     have h1i:((e1':Int) != 0)=true:=by simp;omega
     unfold zmf
     simp only [zZ,zdP]
     refine Bd func75 ntmps75 fun σ N hp hpn hk hkn hfree=>?_
     have hcs:=And.intro c1 (And.intro c2 (And.intro c3 True.intro))
     clear c1 c2 c3
     refine Wk ?_
     exact WD
def vJ (a:Alg) (d:Di) (leaf:Tg) (r:Rq):Alg × Bo × Nat:=
 if rqB r=false then (wZ,bo0,1) else
 if (yJ a d.tag (y8 leaf r.gate.toNat r.nonce.toNat)).2.2=0 then ((yJ a d.tag (y8 leaf r.gate.toNat r.nonce.toNat)).1,⟨d.ticket,d.conds,(yJ a d.tag (y8 leaf r.gate.toNat r.nonce.toNat)).2.1⟩,0) else (wZ,bo0,(yJ a d.tag (y8 leaf r.gate.toNat r.nonce.toNat)).2.2)
theorem jk {a:Alg} {m:Nat} (h:AlgIn a m) (d:Di) (leaf:Tg) (r:Rq):AlgIn (vJ a d leaf r).1 (m+1):=by
 unfold vJ
 split
 ·exact xE _
 ·split
  ·exact yN h _ _
  ·exact xE _
end
end Go.Proofs.YtglmjglbobhbbaaGreatDoor
