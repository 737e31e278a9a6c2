/- The statement WalletMakes, from the contract of the law. -/
import Derived.Test.YtglmjglbobhbbaaGreatDoorMD3
import Derived.Test.YtglmjglbobhbbaaGreatDoorRows
import Derived.LaidMore
import Derived.Stop.Joined
import Derived.Test.YtglmjglbobhbbaaGreatDoorCards
import Derived.Test.YtglmjglbobhbbaaGreatDoorTie
import Derived.SevenTiedAt
import Derived.ProofKit
import Derived.OpenShut
import Derived.ShutString
import Derived.ChangeOld
import Derived.Below
import Derived.KernelRfl
namespace Go.Proofs.YtglmjglbobhbbaaGreatDoor.walletMakesDone
open Go.ChangeShapes Go.WideShapes Go.ChangeAt Go.RowKit Go.Ab
theorem own:ownKnob Tryz.prog.godebug=none:=by kernel_rfl
theorem laidOut:laidOutB Tryz.prog=true:=by kernel_rfl
theorem gVar1 : Tryz.prog.globalNamed "macaroon/sha.k" = some 1 := by kernel_rfl
theorem gVar2 : Tryz.prog.globalNamed "macaroon/predicate.bits" = some 0 := by kernel_rfl
theorem door_met (os:Os) (args:Array Value):laidMetH Tryz.prog Rows.walletMakesRow.laid ((World.doorLaid Tryz.prog 400 os).forCall (fun _ _=>0) ⟨#[],args,[]⟩).memory:=
  laidMetH_of_parts3 (fuel:=8) (laidMet_of_run' 8 (by kernel_rfl) (by kernel_rfl)) (by kernel_rfl) (by kernel_rfl)
theorem laid_tail {P:Program} {W:World} {x:String × DataW Unit} {r:List (String × DataW Unit)} (h:laidMet P (x::r) W):laidMet P r W:=by
  obtain ⟨n,d⟩:=x
  obtain ⟨ps,⟨g,t,cs,fuel,p,q,_,_,_,_,hq,rfl⟩,hnd,hc⟩:=h
  exact ⟨q,hq,(List.nodup_append.1 hnd).2.1,fun b off hm=>hc b off (List.mem_append_right _ hm)⟩
theorem of_laid1 {W:World} (h:laidMetH Tryz.prog Rows.walletMakesRow.laid W):Rep (g0 W) (.view (.agg shaL)) (.pointer (some ⟨1,0,none⟩)):=by
  rw [MakeChecks.laidMetH_plain _ _ _ (by kernel_rfl)] at h
  have h' : laidMet Tryz.prog (("macaroon/sha.k", Lib.tabData .u32 shaZ) :: ("macaroon/predicate.bits", Lib.tabData .i64 bitsZ) :: []) W := by with_unfolding_all exact h
  obtain ⟨t,n,e,ht,hu,he,hc1,hc2⟩:∃ t n e,(Tryz.prog.globals[1]?).map (·.type)=some t∧Tryz.prog.underlying t=some (.array n e)∧Tryz.prog.underlying e=some (.int .u32)∧Tryz.prog.cellsOf e=1∧Tryz.prog.cellsOf t=n:=⟨315,64,296,by kernel_rfl,by kernel_rfl,by kernel_rfl,by kernel_rfl,by kernel_rfl⟩
  have hT:=Lib.tabIs_of_head gVar1 ht hu he hc1 hc2 h'
  with_unfolding_all exact zbB (zs:=shaZ) (by with_unfolding_all decide) (fun i hi=>hT.cell gVar1 i hi)
theorem of_laid2 {W:World} (h:laidMetH Tryz.prog Rows.walletMakesRow.laid W):Rep (g0 W) (.view (.agg bitsL)) (.pointer (some ⟨0,0,none⟩)):=by
  rw [MakeChecks.laidMetH_plain _ _ _ (by kernel_rfl)] at h
  have h' : laidMet Tryz.prog (("macaroon/sha.k", Lib.tabData .u32 shaZ) :: ("macaroon/predicate.bits", Lib.tabData .i64 bitsZ) :: []) W := by with_unfolding_all exact h
  replace h':=laid_tail h'
  obtain ⟨t,n,e,ht,hu,he,hc1,hc2⟩:∃ t n e,(Tryz.prog.globals[0]?).map (·.type)=some t∧Tryz.prog.underlying t=some (.array n e)∧Tryz.prog.underlying e=some (.int .i64)∧Tryz.prog.cellsOf e=1∧Tryz.prog.cellsOf t=n:=⟨321,8,3,by kernel_rfl,by kernel_rfl,by kernel_rfl,by kernel_rfl,by kernel_rfl⟩
  have hT:=Lib.tabIs_of_head gVar2 ht hu he hc1 hc2 h'
  with_unfolding_all exact zbB (zs:=bitsZ) (by with_unfolding_all decide) (fun i hi=>hT.cell gVar2 i hi)
set_option maxRecDepth 100000 in
theorem lifted (os : Os) (started : os.Started) (H : Type) (enc : TypeId × Value → H) :
    ReturnsInHanded {} Tryz.checked os 6 .any (fun w args=>(Rows.walletMakesSpec.pre enc Tryz.prog Tryz.f6 Rows.walletMakesRow.domain false w args∧laidMetH Tryz.prog Rows.walletMakesRow.laid w)∧sizedMet enc Tryz.prog Tryz.f6 (OpenSpec.ofChange Rows.walletMakesSpec) false w args) (Rows.walletMakesSpec.post enc Tryz.prog Tryz.f6 false true false false):=by
  refine returnsInHanded_of_change_and (C:=Tryz.checked) (X:=fun w _=>laidMetH Tryz.prog Rows.walletMakesRow.laid w) (fun _ _ _ hh h=>h.of_heap hh) own started (by kernel_rfl) Tryz.func6
    (ChangeSpec.witness_shaped (enc:=enc) (C:=Tryz.checked) (os:=os) (X:=fun w _=>laidMetH Tryz.prog Rows.walletMakesRow.laid w) false (World.doorLaid Tryz.prog 400 os) #[.slice none 0 0,.int .i64 0,.slice none 0 0,.agg #[.int .i64 0,.int .u8 0,.int .u8 0,.int .u8 0,.int .u8 0,.int .u8 0,.int .u8 0,.int .u8 0,.int .u8 0,.int .u8 0,.int .u8 0,.int .u8 0,.int .u8 0,.int .u8 0,.int .u8 0,.int .u8 0,.int .u8 0,.int .u8 0,.int .u8 0,.int .u8 0,.int .u8 0,.int .u8 0,.int .u8 0,.int .u8 0,.int .u8 0,.int .u8 0,.int .u8 0,.int .u8 0,.int .u8 0,.int .u8 0,.int .u8 0,.int .u8 0,.int .u8 0,.slice none 0 0],.agg #[.int .i64 0,.int .i64 0],.int .u8 0] 8 rfl (World.shaped_of_RefB (by kernel_rfl) (by kernel_rfl)) (by kernel_rfl) (by kernel_rfl) (by kernel_rfl) (door_met os _)) ?_
  intro W base args ds gs before hval0 hW _ hsz0 hL _
  have hX1:=of_laid1 hL
  have hX2:=of_laid2 hL
  have hval:∀ (j:Nat) t v,Tryz.f6.params[j]?=some t→args[j]?=some v→Value.okWide Tryz.prog W .any base t v:=hval0
  have hW':=hW
  obtain ⟨p,q,hA0,hV,rfl,hfz,hnd⟩:=hW
  have hA:DataW.TrodAll enc Tryz.prog W 0 (fun _=>true) true Tryz.f6.params.toList args.toList ds p:=hA0
  rw [Tryz.params6] at hA hval
  have hsz:=hsz0
  rw [Tryz.params6] at hsz
  clear hsz0
  obtain ⟨v0,vs0,d0,ds0,p0,q0,hargs,rfl,rfl,h0,r0⟩:=trodAll_cons hA
  obtain ⟨v1,vs1,d1,ds1,p1,q1,rfl,rfl,rfl,h1,r1⟩:=trodAll_cons r0
  obtain ⟨v2,vs2,d2,ds2,p2,q2,rfl,rfl,rfl,h2,r2⟩:=trodAll_cons r1
  obtain ⟨v3,vs3,d3,ds3,p3,q3,rfl,rfl,rfl,h3,r3⟩:=trodAll_cons r2
  obtain ⟨v4,vs4,d4,ds4,p4,q4,rfl,rfl,rfl,h4,r4⟩:=trodAll_cons r3
  obtain ⟨v5,vs5,d5,ds5,p5,q5,rfl,rfl,rfl,h5,r5⟩:=trodAll_cons r4
  obtain ⟨rfl,rfl,rfl⟩:=trodAll_nil r5
  obtain rfl:args=#[v0,v1,v2,v3,v4,v5]:=by cases args;simp_all
  obtain ⟨rfl,rfl⟩:=trodVars_none hV
  obtain ⟨a0,len0,cap0,rfl⟩:=okWide_slice Tryz.underlying35 (hval 0 35 v0 rfl rfl)
  have k0:=h0
  have lt0:∀ x∈p0,x.block < W.heap.size:=by obtain ⟨m,hm⟩:=k0;exact DataW.trod_lt m _ _ _ hm
  obtain ⟨z0,w0,y0⟩:∃ zs:List Int,((a0=none∧len0=0∧cap0=0∧zs=[])∨∃ x,a0=some x∧len0≤cap0∧cap0≤maxLen∧zs.length=cap0∧∀ i,i < zs.length→W.cell? (x.add i)=some (.int .i64 (zs.getD i 0)))∧∀ n∈zs,(Lit.int .i64 n).wf=true:=by
    obtain ⟨fuel,hf⟩:=h0
    rcases open_ints Tryz.underlying35 Tryz.underlying3 (by kernel_rfl) hf with ⟨hcs,_⟩ | ⟨x,l,c,zs,hcs,_,hl,hm,hz,_,hcell,hwz⟩
    · simp [Value.cells] at hcs
      obtain ⟨rfl,rfl,rfl⟩:=hcs
      exact ⟨[],.inl ⟨rfl,rfl,rfl,rfl⟩,fun n hn=>by cases hn⟩
    · simp [Value.cells] at hcs
      obtain ⟨rfl,rfl,rfl⟩:=hcs
      exact ⟨zs,.inr ⟨_,rfl,hl,hm,by simpa using hz,hcell⟩,hwz⟩
  have rp0:=ze1 w0
  obtain ⟨a1,rfl,rfl,rfl,w1⟩:=open_int Tryz.underlying3 (hval 1 3 v1 rfl rfl) h1
  have hw2:∀ n∈d2.weights Tryz.prog 32,n≤140737488351232:=fun n hn=>of_decide_eq_true (List.all_eq_true.1 hsz n (DataW.weights_mem_each (j:=2) (t:=32) (d:=d2) rfl rfl n hn))
  obtain ⟨x2,rp2,ty2⟩:=q8 (m:=8) (by kernel_rfl) (hval 2 32 v2 rfl rfl) h2 hw2
  obtain ⟨a2,pa2,rfl⟩:=zjJ ty2
  have k2:=h2
  have lt2:∀ x∈p2,x.block < W.heap.size:=by obtain ⟨m,hm⟩:=k2;exact DataW.trod_lt m _ _ _ hm
  have hw3:∀ n∈d3.weights Tryz.prog 96,n≤140737488351232:=fun n hn=>of_decide_eq_true (List.all_eq_true.1 hsz n (DataW.weights_mem_each (j:=3) (t:=96) (d:=d3) rfl rfl n hn))
  obtain ⟨x3,rp3,ty3⟩:=q8 (m:=8) (by kernel_rfl) (hval 3 96 v3 rfl rfl) h3 hw3
  obtain ⟨a3,pa3,rfl⟩:=zqN ty3
  have k3:=h3
  have lt3:∀ x∈p3,x.block < W.heap.size:=by obtain ⟨m,hm⟩:=k3;exact DataW.trod_lt m _ _ _ hm
  have hw4:∀ n∈d4.weights Tryz.prog 49,n≤140737488351232:=fun n hn=>of_decide_eq_true (List.all_eq_true.1 hsz n (DataW.weights_mem_each (j:=4) (t:=49) (d:=d4) rfl rfl n hn))
  obtain ⟨x4,rp4,ty4⟩:=q8 (m:=8) (by kernel_rfl) (hval 4 49 v4 rfl rfl) h4 hw4
  obtain ⟨a4,pa4,rfl⟩:=zoE ty4
  have k4:=h4
  have lt4:∀ x∈p4,x.block < W.heap.size:=by obtain ⟨m,hm⟩:=k4;exact DataW.trod_lt m _ _ _ hm
  obtain ⟨a5,rfl,rfl,rfl,w5⟩:=open_int Tryz.underlying5 (hval 5 5 v5 rfl rfl) h5
  clear hA0 hval0
  have hcall:=(zic (z0.take len0) (fun n hn=>y0 n (List.mem_of_mem_take hn)) (zhP w0) a1 a2 pa2 a3 pa3 a4 pa4 a5 w5 1 2 (by decide) 0).walksG2 W hX1 hX2 (vals:=[.slice a0 len0 cap0,.int .i64 a1,v2,v3,v4,.int .u8 a5]) (.cons rp0 (.cons (.lit _ rfl) (.cons rp2 (.cons rp3 (.cons rp4 (.cons (.lit _ rfl) .nil))))))
  refine hcall.mono fun e W' ⟨he,bel⟩=>?_
  subst he
  exact ⟨_,rfl,_,_,_,[],_,[],hW',trodAll_mk1 (shut_bool Tryz.underlying4 _),(trodAll_cons_mk (Below.trod laidOut (by kernel_rfl) (of_decide_eq_true (by kernel_rfl)) k0 bel lt0) (trodAll_cons_mk (shut_int Tryz.underlying3 w1) (trodAll_cons_mk (Below.trod laidOut (by kernel_rfl) (of_decide_eq_true (by kernel_rfl)) k2 bel lt2) (trodAll_cons_mk (Below.trod laidOut (by kernel_rfl) (of_decide_eq_true (by kernel_rfl)) k3 bel lt3) (trodAll_cons_mk (Below.trod laidOut (by kernel_rfl) (of_decide_eq_true (by kernel_rfl)) k4 bel lt4) (trodAll_cons_mk (shut_int Tryz.underlying5 w5) trodAll_mk0)))))),rfl,bel.frame _,fun h=>by cases h⟩
set_option maxHeartbeats 4000000 in
theorem over:Rows.walletMakesRow.holds Tryz.pinned (OpenSpec.ofChange Rows.walletMakesSpec):=
  OpenClaim.holds_of_wide 6 Tryz.f6 rfl rfl rfl rfl rfl rfl rfl ⟨rfl,rfl,rfl,rfl,rfl⟩ rfl rfl rfl rfl rfl (by as_aux_lemma=>kernel_rfl) Tryz.func6 (by as_aux_lemma=>kernel_rfl)
    (of_decide_eq_true (by as_aux_lemma=>kernel_rfl)) (by unfold Func.isWrapper;first | (rw [if_pos (by decide +kernel)];kernel_rfl) | (rw [if_neg (by decide +kernel)];exact ⟨rfl,rfl⟩))
    (fun os started H enc _=>lifted os started H enc)
theorem proved:Rows.WalletMakesCardSaid:=
  Claim7.holds_tied_plain_at .later [] [.data, .data] true (true, "6c00cf291ec34f4bd82620a62150857964474c294eacc9f8f158c7c79e568430") true over (fun _ h => by cases h) (by kernel_rfl) (fun _ h => by cases h) walletMakes_row_tie rfl ⟨rfl, rfl⟩ (by kernel_rfl) rfl
    (fun f fn hf hfn=>by
      obtain rfl : f = 6 := Option.some.inj ((show Tryz.prog.funcNamed "macaroon/macaroonlaw30.WalletMakes" = some 6 by kernel_rfl).symm.trans hf) |>.symm
      obtain rfl:fn=Tryz.f6:=(Option.some.inj (Tryz.func6.symm.trans hfn)).symm
      exact ⟨by kernel_rfl,fun j t ht=>by
        rw [Tryz.params6] at ht
        have hm:t∈[35,3,32,96,49,5]:=by
          have this:t∈[35,3,32,96,49,5]:=Array.mem_toList_iff.2 (Array.mem_of_getElem? ht)
          simp only [List.mem_cons,List.not_mem_nil,or_false] at this
          rcases this with rfl | rfl | rfl | rfl | rfl | rfl
          all_goals simp
        have hall:([35,3,32,96,49,5].all fun u=>!Tryz.prog.wantsStandIn u)=true:=by kernel_rfl
        exact (show Tryz.prog.wantsStandIn t=false by simpa using List.all_eq_true.1 hall t hm)⟩)
    (by kernel_rfl)
end Go.Proofs.YtglmjglbobhbbaaGreatDoor.walletMakesDone
