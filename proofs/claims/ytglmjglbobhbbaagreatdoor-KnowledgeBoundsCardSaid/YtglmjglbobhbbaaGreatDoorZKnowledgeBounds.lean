/- The statement KnowledgeBounds, from the contract of the law. -/
import Derived.Test.YtglmjglbobhbbaaGreatDoorMG3
import Derived.Test.YtglmjglbobhbbaaGreatDoorRows
import Derived.LaidMore
import Derived.Stop.Joined
import Derived.Test.YtglmjglbobhbbaaGreatDoorCards
import Derived.Test.YtglmjglbobhbbaaGreatDoorTie
import Derived.SevenTiedAt
import Derived.ProofKit
import Derived.OpenShut
import Derived.ShutString
import Derived.ChangeOld
import Derived.Below
import Derived.KernelRfl
namespace Go.Proofs.YtglmjglbobhbbaaGreatDoor.knowledgeBoundsDone
open Go.ChangeShapes Go.WideShapes Go.ChangeAt Go.RowKit Go.Ab
theorem own:ownKnob Tryz.prog.godebug=none:=by kernel_rfl
theorem laidOut:laidOutB Tryz.prog=true:=by kernel_rfl
theorem gVar1 : Tryz.prog.globalNamed "macaroon/sha.k" = some 1 := by kernel_rfl
theorem gVar2 : Tryz.prog.globalNamed "macaroon/predicate.bits" = some 0 := by kernel_rfl
theorem door_met (os:Os) (args:Array Value):laidMetH Tryz.prog Rows.knowledgeBoundsRow.laid ((World.doorLaid Tryz.prog 400 os).forCall (fun _ _=>0) ⟨#[],args,[]⟩).memory:=
  laidMetH_of_parts3 (fuel:=8) (laidMet_of_run' 8 (by kernel_rfl) (by kernel_rfl)) (by kernel_rfl) (by kernel_rfl)
theorem laid_tail {P:Program} {W:World} {x:String × DataW Unit} {r:List (String × DataW Unit)} (h:laidMet P (x::r) W):laidMet P r W:=by
  obtain ⟨n,d⟩:=x
  obtain ⟨ps,⟨g,t,cs,fuel,p,q,_,_,_,_,hq,rfl⟩,hnd,hc⟩:=h
  exact ⟨q,hq,(List.nodup_append.1 hnd).2.1,fun b off hm=>hc b off (List.mem_append_right _ hm)⟩
theorem of_laid1 {W:World} (h:laidMetH Tryz.prog Rows.knowledgeBoundsRow.laid W):Rep (g0 W) (.view (.agg shaL)) (.pointer (some ⟨1,0,none⟩)):=by
  rw [MakeChecks.laidMetH_plain _ _ _ (by kernel_rfl)] at h
  have h' : laidMet Tryz.prog (("macaroon/sha.k", Lib.tabData .u32 shaZ) :: ("macaroon/predicate.bits", Lib.tabData .i64 bitsZ) :: []) W := by with_unfolding_all exact h
  obtain ⟨t,n,e,ht,hu,he,hc1,hc2⟩:∃ t n e,(Tryz.prog.globals[1]?).map (·.type)=some t∧Tryz.prog.underlying t=some (.array n e)∧Tryz.prog.underlying e=some (.int .u32)∧Tryz.prog.cellsOf e=1∧Tryz.prog.cellsOf t=n:=⟨315,64,296,by kernel_rfl,by kernel_rfl,by kernel_rfl,by kernel_rfl,by kernel_rfl⟩
  have hT:=Lib.tabIs_of_head gVar1 ht hu he hc1 hc2 h'
  with_unfolding_all exact zbB (zs:=shaZ) (by with_unfolding_all decide) (fun i hi=>hT.cell gVar1 i hi)
theorem of_laid2 {W:World} (h:laidMetH Tryz.prog Rows.knowledgeBoundsRow.laid W):Rep (g0 W) (.view (.agg bitsL)) (.pointer (some ⟨0,0,none⟩)):=by
  rw [MakeChecks.laidMetH_plain _ _ _ (by kernel_rfl)] at h
  have h' : laidMet Tryz.prog (("macaroon/sha.k", Lib.tabData .u32 shaZ) :: ("macaroon/predicate.bits", Lib.tabData .i64 bitsZ) :: []) W := by with_unfolding_all exact h
  replace h':=laid_tail h'
  obtain ⟨t,n,e,ht,hu,he,hc1,hc2⟩:∃ t n e,(Tryz.prog.globals[0]?).map (·.type)=some t∧Tryz.prog.underlying t=some (.array n e)∧Tryz.prog.underlying e=some (.int .i64)∧Tryz.prog.cellsOf e=1∧Tryz.prog.cellsOf t=n:=⟨321,8,3,by kernel_rfl,by kernel_rfl,by kernel_rfl,by kernel_rfl,by kernel_rfl⟩
  have hT:=Lib.tabIs_of_head gVar2 ht hu he hc1 hc2 h'
  with_unfolding_all exact zbB (zs:=bitsZ) (by with_unfolding_all decide) (fun i hi=>hT.cell gVar2 i hi)
set_option maxRecDepth 100000 in
theorem lifted (os : Os) (started : os.Started) (H : Type) (enc : TypeId × Value → H) :
    ReturnsInHanded {} Tryz.checked os 7 .any (fun w args=>(Rows.knowledgeBoundsSpec.pre enc Tryz.prog Tryz.f7 Rows.knowledgeBoundsRow.domain false w args∧laidMetH Tryz.prog Rows.knowledgeBoundsRow.laid w)∧sizedMet enc Tryz.prog Tryz.f7 (OpenSpec.ofChange Rows.knowledgeBoundsSpec) false w args) (Rows.knowledgeBoundsSpec.post enc Tryz.prog Tryz.f7 false true false false):=by
  refine returnsInHanded_of_change_and (C:=Tryz.checked) (X:=fun w _=>laidMetH Tryz.prog Rows.knowledgeBoundsRow.laid w) (fun _ _ _ hh h=>h.of_heap hh) own started (by kernel_rfl) Tryz.func7
    (ChangeSpec.witness_shaped (enc:=enc) (C:=Tryz.checked) (os:=os) (X:=fun w _=>laidMetH Tryz.prog Rows.knowledgeBoundsRow.laid w) false (World.doorLaid Tryz.prog 400 os) #[.slice none 0 0,.slice none 0 0] 8 rfl (World.shaped_of_RefB (by kernel_rfl) (by kernel_rfl)) (by kernel_rfl) (by kernel_rfl) (by kernel_rfl) (door_met os _)) ?_
  intro W base args ds gs before hval0 hW _ hsz0 hL _
  have hX1:=of_laid1 hL
  have hX2:=of_laid2 hL
  have hval:∀ (j:Nat) t v,Tryz.f7.params[j]?=some t→args[j]?=some v→Value.okWide Tryz.prog W .any base t v:=hval0
  have hW':=hW
  obtain ⟨p,q,hA0,hV,rfl,hfz,hnd⟩:=hW
  have hA:DataW.TrodAll enc Tryz.prog W 0 (fun _=>true) true Tryz.f7.params.toList args.toList ds p:=hA0
  rw [Tryz.params7] at hA hval
  have hsz:=hsz0
  rw [Tryz.params7] at hsz
  clear hsz0
  obtain ⟨v0,vs0,d0,ds0,p0,q0,hargs,rfl,rfl,h0,r0⟩:=trodAll_cons hA
  obtain ⟨v1,vs1,d1,ds1,p1,q1,rfl,rfl,rfl,h1,r1⟩:=trodAll_cons r0
  obtain ⟨rfl,rfl,rfl⟩:=trodAll_nil r1
  obtain rfl:args=#[v0,v1]:=by cases args;simp_all
  obtain ⟨rfl,rfl⟩:=trodVars_none hV
  obtain ⟨a0,len0,cap0,rfl⟩:=okWide_slice Tryz.underlying35 (hval 0 35 v0 rfl rfl)
  have k0:=h0
  have lt0:∀ x∈p0,x.block < W.heap.size:=by obtain ⟨m,hm⟩:=k0;exact DataW.trod_lt m _ _ _ hm
  obtain ⟨z0,w0,y0⟩:∃ zs:List Int,((a0=none∧len0=0∧cap0=0∧zs=[])∨∃ x,a0=some x∧len0≤cap0∧cap0≤maxLen∧zs.length=cap0∧∀ i,i < zs.length→W.cell? (x.add i)=some (.int .i64 (zs.getD i 0)))∧∀ n∈zs,(Lit.int .i64 n).wf=true:=by
    obtain ⟨fuel,hf⟩:=h0
    rcases open_ints Tryz.underlying35 Tryz.underlying3 (by kernel_rfl) hf with ⟨hcs,_⟩ | ⟨x,l,c,zs,hcs,_,hl,hm,hz,_,hcell,hwz⟩
    · simp [Value.cells] at hcs
      obtain ⟨rfl,rfl,rfl⟩:=hcs
      exact ⟨[],.inl ⟨rfl,rfl,rfl,rfl⟩,fun n hn=>by cases hn⟩
    · simp [Value.cells] at hcs
      obtain ⟨rfl,rfl,rfl⟩:=hcs
      exact ⟨zs,.inr ⟨_,rfl,hl,hm,by simpa using hz,hcell⟩,hwz⟩
  have rp0:=ze1 w0
  have hw1:∀ n∈d1.weights Tryz.prog 32,n≤140737488351232:=fun n hn=>of_decide_eq_true (List.all_eq_true.1 hsz n (DataW.weights_mem_each (j:=1) (t:=32) (d:=d1) rfl rfl n hn))
  obtain ⟨x1,rp1,ty1⟩:=q8 (m:=8) (by kernel_rfl) (hval 1 32 v1 rfl rfl) h1 hw1
  obtain ⟨a1,pa1,rfl⟩:=zjJ ty1
  have k1:=h1
  have lt1:∀ x∈p1,x.block < W.heap.size:=by obtain ⟨m,hm⟩:=k1;exact DataW.trod_lt m _ _ _ hm
  clear hA0 hval0
  have hcall:=(ze8 (z0.take len0) (fun n hn=>y0 n (List.mem_of_mem_take hn)) (zhP w0) a1 pa1 1 2 (by decide) 0).walksG2 W hX1 hX2 (vals:=[.slice a0 len0 cap0,v1]) (.cons rp0 (.cons rp1 .nil))
  refine hcall.mono fun e W' ⟨he,bel⟩=>?_
  subst he
  exact ⟨_,rfl,_,_,_,[],_,[],hW',trodAll_mk1 (shut_bool Tryz.underlying4 _),(trodAll_cons_mk (Below.trod laidOut (by kernel_rfl) (of_decide_eq_true (by kernel_rfl)) k0 bel lt0) (trodAll_cons_mk (Below.trod laidOut (by kernel_rfl) (of_decide_eq_true (by kernel_rfl)) k1 bel lt1) trodAll_mk0)),rfl,bel.frame _,fun h=>by cases h⟩
set_option maxHeartbeats 4000000 in
theorem over:Rows.knowledgeBoundsRow.holds Tryz.pinned (OpenSpec.ofChange Rows.knowledgeBoundsSpec):=
  OpenClaim.holds_of_wide 7 Tryz.f7 rfl rfl rfl rfl rfl rfl rfl ⟨rfl,rfl,rfl,rfl,rfl⟩ rfl rfl rfl rfl rfl (by as_aux_lemma=>kernel_rfl) Tryz.func7 (by as_aux_lemma=>kernel_rfl)
    (of_decide_eq_true (by as_aux_lemma=>kernel_rfl)) (by unfold Func.isWrapper;first | (rw [if_pos (by decide +kernel)];kernel_rfl) | (rw [if_neg (by decide +kernel)];exact ⟨rfl,rfl⟩))
    (fun os started H enc _=>lifted os started H enc)
theorem proved:Rows.KnowledgeBoundsCardSaid:=
  Claim7.holds_tied_plain_at .later [] [.data, .data] true (true, "6c00cf291ec34f4bd82620a62150857964474c294eacc9f8f158c7c79e568430") true over (fun _ h => by cases h) (by kernel_rfl) (fun _ h => by cases h) knowledgeBounds_row_tie rfl ⟨rfl, rfl⟩ (by kernel_rfl) rfl
    (fun f fn hf hfn=>by
      obtain rfl : f = 7 := Option.some.inj ((show Tryz.prog.funcNamed "macaroon/macaroonlaw31.KnowledgeBounds" = some 7 by kernel_rfl).symm.trans hf) |>.symm
      obtain rfl:fn=Tryz.f7:=(Option.some.inj (Tryz.func7.symm.trans hfn)).symm
      exact ⟨by kernel_rfl,fun j t ht=>by
        rw [Tryz.params7] at ht
        have hm:t∈[35,32]:=by
          have this:t∈[35,32]:=Array.mem_toList_iff.2 (Array.mem_of_getElem? ht)
          simp only [List.mem_cons,List.not_mem_nil,or_false] at this
          rcases this with rfl | rfl
          all_goals simp
        have hall:([35,32].all fun u=>!Tryz.prog.wantsStandIn u)=true:=by kernel_rfl
        exact (show Tryz.prog.wantsStandIn t=false by simpa using List.all_eq_true.1 hall t hm)⟩)
    (by kernel_rfl)
end Go.Proofs.YtglmjglbobhbbaaGreatDoor.knowledgeBoundsDone
