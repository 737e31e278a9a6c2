/- Texts C1p, C5p, C11p, Fp, N1p, M10p, K7p, K19p, U1p, D9p, U14p, P1, joined. -/
import Derived.Test.YtdmjpolnbmoehaaGreatDoorM10

namespace Go.Ab
open Go.RowKit
theorem go_view {P : Program} {N : Nat} {b : Code} {Q : AExit → Cfg → Prop} {s : Slots} {σ : Nat → Ent} {n : Nat} (t : Tmp) {id : Nat} {bt : TypeId} {x : AV} (hσ : σ id = .box bt x) (ht : s t = .ptr id [] 0)
  (h : aw P N b Q ⟨upd s t (.view x), upd σ id (.fbox bt x), n⟩) : aw P N b Q ⟨s, σ, n⟩ := by
 refine go_ghost (fun W0 g a w hS => ?_) h
 have hr := hS.at_eq ht
 have key : ∀ v, Rep g (.ptr id [] 0) v → ∃ g', g.le g' ∧ Sim W0 g' (upd σ id (.fbox bt x)) n w ∧ Rep g' (.view x) v := by
  intro v hv
  cases hv with
  | ptr _ _ _ b0 hb =>
   obtain ⟨g', h1, h2, v', h3, h4⟩ := hS.sim.freeze hσ hb
   exact ⟨g', h1, h2, .view x v' b0 0 h3 fun j u hu => by rw [Nat.zero_add, h4, ← Array.getElem?_toList]; exact hu⟩
 obtain ⟨g', h1, h2, h3⟩ := key _ hr
 exact ⟨g', h1, hS.turnSlot h1 h2 h3⟩
theorem byte_of_wf {a : Int} (h : (Lit.int .u8 a).wf = true) : ∃ b : UInt8, AV.lit (.int .u8 a) = byteAV b ∧ a = (b.toNat : Int) := by
 have hw : IntKind.u8.min ≤ a ∧ a ≤ IntKind.u8.max := by simpa [Lit.wf] using h
 have e1 : IntKind.u8.min = 0 := by decide
 have e2 : IntKind.u8.max = 255 := by decide
 obtain ⟨n, rfl⟩ := Int.eq_ofNat_of_zero_le (show 0 ≤ a by omega)
 refine ⟨UInt8.ofNat n, ?_, ?_⟩
 ·simp only [byteAV]
  rw [UInt8.toNat_ofNat', Nat.mod_eq_of_lt (by omega)]
 ·rw [UInt8.toNat_ofNat', Nat.mod_eq_of_lt (by omega)]

theorem i64_of_wf {a : Int} (h : (Lit.int .i64 a).wf = true) : -9223372036854775808 ≤ a ∧ a ≤ 9223372036854775807 := by
 have hw : IntKind.i64.min ≤ a ∧ a ≤ IntKind.i64.max := by simpa [Lit.wf] using h
 have e1 : IntKind.i64.min = -9223372036854775808 := by decide
 have e2 : IntKind.i64.max = 9223372036854775807 := by decide
 omega

section
variable {W0 : World} {g : Ghost} {σ : Nat → Ent} {n : Nat} {w : World}
theorem Sim.newMark (h : Sim W0 g σ n w) {k : Nat} (hk : σ k = .none) (hn : k < n) :
  ∃ g', g.le g' ∧ Sim W0 g' (upd σ k .mark) n (w.alloc (.deferred (some []))) ∧ g'.loc k = some w.heap.size ∧ g'.row k ≠ none := by
 have h0 := h.alloc (.deferred (some []))
 obtain ⟨hl, hrw, ho, hm⟩ := h.free k hk
 let g' : Ghost := { g with loc := upd g.loc k (some w.heap.size), row := upd g.row k (some (.bool true)) }
 have hle : g.le g' := ⟨fun _ _ _ h => h, (Ghost.le_loc hl w.heap.size).loc, fun id u' hu' => by
  have hne : id ≠ k := by rintro rfl; rw [hrw] at hu'; cases hu'
  exact ⟨u', by show upd g.row k _ id = some u'; rw [upd_ne _ _ _ _ hne]; exact hu', .inl rfl⟩, fun _ u h => ⟨u, h, .inl rfl⟩⟩
 have hlk : g'.loc k = some w.heap.size := upd_same _ _ _
 have hrk : g'.row k = some (.bool true) := upd_same _ _ _
 have hbk : g'.blk k = some w.heap.size := Ghost.blk_loc hlk
 refine ⟨g', hle, h0.change hn hle h0.below h0.imm (fun id hid => ⟨upd_ne _ _ _ _ hid, upd_ne _ _ _ _ hid, rfl, rfl⟩) (fun id hid b hb => ⟨⟨rfl, fun _ => rfl⟩, ?_⟩)
  ⟨ho, hm, w.heap.size, .bool true, hlk, hrk, heap_alloc_new w _, h.G_new⟩ (fun b hb => ?_) (Nat.le_refl _), hlk, by rw [hrk]; simp⟩
 ·rw [hbk]; intro e; injection e with e; exact h.blk_new id (e ▸ hb)
 ·rw [hbk] at hb; injection hb with hb; subst hb; exact ⟨h.below.size, by simp⟩
theorem Sim.newLoop (h : Sim W0 g σ n w) {k N : Nat} {r : Loop} {s : Slots} {T : Array Value} (hk : σ k = .none) (hn : k < n) (hT : T.size = N) (hs : ∀ t, Rep g (s t) (T.getD t undef)) :
  ∃ g', g.le g' ∧ Sim W0 g' (upd σ k (.loop w.heap.size N r s)) n (w.alloc (.loop { r with tmps := T })) := by
 have h0 := h.alloc (.loop { r with tmps := T })
 obtain ⟨hl, hrw, ho, hm⟩ := h.free k hk
 let g' : Ghost := { g with loc := upd g.loc k (some w.heap.size), mr := upd g.mr k (some (0, .bool true)) }
 have hle : g.le g' := ⟨fun _ _ _ h => h, (Ghost.le_loc hl w.heap.size).loc, fun _ u h => ⟨u, h, .inl rfl⟩, fun id u' hu' => by
  have hne : id ≠ k := by rintro rfl; rw [hm] at hu'; cases hu'
  exact ⟨u', by show upd g.mr k _ id = some u'; rw [upd_ne _ _ _ _ hne]; exact hu', .inl rfl⟩⟩
 have hlk : g'.loc k = some w.heap.size := upd_same _ _ _
 have hmk : g'.mr k = some (0, .bool true) := upd_same _ _ _
 have hbk : g'.blk k = some w.heap.size := Ghost.blk_loc hlk
 refine ⟨g', hle, h0.change hn hle h0.below h0.imm (fun id hid => ⟨upd_ne _ _ _ _ hid, rfl, rfl, upd_ne _ _ _ _ hid⟩) (fun id hid b hb => ⟨⟨rfl, fun _ => rfl⟩, ?_⟩)
  ⟨ho, hrw, ⟨_, hmk⟩, hlk, ⟨T, hT, fun t => (hs t).mono hle, heap_alloc_new w _⟩, h.G_new⟩ (fun b hb => ?_) (Nat.le_refl _)⟩
 ·rw [hbk]; intro e; injection e with e; exact h.blk_new id (e ▸ hb)
 ·rw [hbk] at hb; injection hb with hb; subst hb; exact ⟨h.below.size, by simp⟩
end
theorem go_rangeFunc {P : Program} {N : Nat} {Q : AExit → Cfg → Prop} {x : Operand} {ps : Array Tmp} {A B : Code} {s : Slots} {σ : Nat → Ent} {n : Nat} {f : FuncId} {caps : List AV} {pre post : Foot} {res : AV} (jump : AExit)
  (hx : aeval s x = .fn f caps) (hp : ∀ p ∈ pre, σ p.1 = p.2) (hpn : ∀ p ∈ pre, p.1 < n) (hpost : ∀ q ∈ post, q.1 < n)
  (hcall : ∀ (l : Nat) (r : Loop), r.state = .ready → r.pending = none → r.params = ps → r.assign = A → r.body = B →
   ∃ st, st ≠ .busy ∧ ACall P f (.lit (.func (.yield l) #[] #[]) :: caps) (n + 2) ((n + 1, .loop l N r s) :: pre) res ((n + 1, .loop l N { r with state := st, pending := jumpOf jump } s) :: post))
  (h : ∀ (l : Nat) (r : Loop), Q jump ⟨s, wr (upd (upd σ n .mark) (n + 1) (.loop l N r s)) post, n + 3⟩) : aw P N (.rangeFunc x ps A B) Q ⟨s, σ, n⟩ := by
 intro hok hmix ro hro W0 g a w hS
 have hro' : ro = none := by
  rcases hro with hro | hro
  ·exact hro
  ·cases hro
 subst hro'
 simp only [codeOK, Bool.and_eq_true] at hok
 refine wpIn_rangeFunc fun fn _ => ?_
 have hsn : σ n = .none := hS.sim.bound n (Nat.le_refl _)
 have hsn1 : σ (n + 1) = .none := hS.sim.bound (n + 1) (Nat.le_succ _)
 have hsn2 : σ (n + 2) = .none := hS.sim.bound (n + 2) (by show n ≤ n + 2; omega)
 obtain ⟨g1, hle1, hS1, hloc1, hrow1⟩ := (hS.sim.more (n' := n + 3) (by show n ≤ n + 3; omega)).newMark hsn (by omega)
 obtain ⟨g2, hle2, hS2⟩ := hS1.newLoop (k := n + 1) (N := N) (r := { state := .ready, pending := none, fn := fn, tmps := a.tmps, params := ps, assign := A, body := B, defers := w.heap.size }) (s := s) (T := a.tmps) (by rw [upd_ne _ _ _ _ (by omega)]; exact hsn1) (by omega) hS.size (fun t => (hS.slots t).mono hle1)
 have hsz : (w.alloc (.deferred (some []))).heap.size = w.heap.size + 1 := by simp
 rw [hsz] at hS2
 generalize hL : ({ state := .ready, pending := none, fn := fn, tmps := a.tmps, params := ps, assign := A, body := B, defers := w.heap.size } : Loop) = r at hS2
 obtain ⟨st, hst, hc, hpre', hpost', hrun⟩ := hcall (w.heap.size + 1) r (by rw [← hL]) (by rw [← hL]) (by rw [← hL]) (by rw [← hL]) (by rw [← hL])
 have henter := run_enterLoop_outer (P := P) (w := w) fn a.tmps ps A B
 rw [hL] at henter
 have hre := hS.eval hok.1.1
 rw [show aeval (Cfg.mk s σ n).s x = .fn f caps from hx] at hre
 generalize hv : a.eval x = v at hre
 cases hre with
 | fn _ _ vs hvl hvr =>
  generalize hw1 : (w.alloc (.deferred (some []))).alloc (.loop r) = w1 at hS2 henter
  have hres : (resolve a.eval (rangeCall x (w.heap.size + 1)) 0).run P w1 = .ok { target := .fn (.func f) vs.toArray, args := #[.func (.yield (w.heap.size + 1)) #[] #[]] } w1 := by
   simp only [resolve, List.map_toArray, List.map_cons, List.map_nil, hv, Deferred.ofValue, Sem.run_pure]
   simp [Act.eval]
  have hinv : (invoke (.fn (.func f) vs.toArray) #[.func (.yield (w.heap.size + 1)) #[] #[]]).run P w1 = .ok (.enter f (.func (.yield (w.heap.size + 1)) #[] #[] :: vs).toArray) w1 := by
   simp only [invoke]
   rw [run_callFunc hc]
   simp
  refine ⟨_, _, _, _, _, f, _, _, henter, hres, fun _ _ => trivial, hinv, fun hd => (by cases hd), ?_⟩
  have hne : ∀ q ∈ post, q.1 ≠ n + 1 := fun q hq => by have := hpost q hq; omega
  have hcalls := hrun W0 g2 _ (n + 3) w1 (.func (.yield (w.heap.size + 1)) #[] #[] :: vs) hS2 (by simp [hvl]) (fun i y u hy hu => by
   cases i with
   | zero => simp at hy hu; subst hy; subst hu; exact .lit _ rfl
   | succ i => exact (hvr i y u (by simpa using hy) (by simpa using hu)).mono (hle1.trans hle2))
   (by rw [upd_ne _ _ _ _ (by omega), upd_ne _ _ _ _ (by omega)]; exact hsn2) (by omega) (fun p hpm => by
    rcases List.mem_cons.1 hpm with rfl | hpm
    ·exact upd_same _ _ _
    ·have := hpn p hpm
     rw [upd_ne _ _ _ _ (by omega), upd_ne _ _ _ _ (by omega)]; exact hp p hpm)
  refine CallsIn.mono ((callsIn_wide (n := 0 - 1)).2 hcalls) fun e w3 hq => ?_
  obtain ⟨u, rfl, g3, hle3, hS3, _⟩ := hq
  have hj3 : wr (upd (upd σ n .mark) (n + 1) (.loop (w.heap.size + 1) N r s)) ((n + 1, .loop (w.heap.size + 1) N { r with state := st, pending := jumpOf jump } s) :: post) (n + 1) = .loop (w.heap.size + 1) N { r with state := st, pending := jumpOf jump } s := by
   rw [wr_cons, wr_other _ _ _ hne, upd_same]
  obtain ⟨T3, hT3, hTs3, hheap3, hset3⟩ := hS3.setLoop hj3
  have hend := run_endLoop (P := P) hheap3 hst
  have hS4 := hset3 { r with state := .exhausted, pending := jumpOf jump }
  have hσ : upd (wr (upd (upd σ n .mark) (n + 1) (.loop (w.heap.size + 1) N r s)) ((n + 1, .loop (w.heap.size + 1) N { r with state := st, pending := jumpOf jump } s) :: post)) (n + 1) (.loop (w.heap.size + 1) N { r with state := .exhausted, pending := jumpOf jump } s) =
    wr (upd (upd σ n .mark) (n + 1) (.loop (w.heap.size + 1) N { r with state := .exhausted, pending := jumpOf jump } s)) post := by
   rw [wr_cons, wr_upd_comm _ _ _ _ hne, wr_upd_comm _ _ _ _ hne, wr_upd_comm _ _ _ _ hne, upd_upd, upd_upd]
  rw [hσ] at hS4
  have hfin : ∀ e : Exit, (match e with
    | .normal => jump = .normal
    | .exit id => jump = .exit id
    | .ret => jump = .ret
    | _ => False) → LQ W0 g N a.defers Q e { a with defers := [({ target := .collected w.heap.size, args := #[] } : Deferred)] ++ a.defers } (w3.putObj (w.heap.size + 1) (.loop { { r with state := .exhausted, pending := jumpOf jump } with tmps := T3 })) := by
   intro e he
   have hQ := h (w.heap.size + 1) { r with state := .exhausted, pending := jumpOf jump }
   have hle := (hle1.trans hle2).trans hle3
   refine ⟨⟨s, _, n + 3⟩, g3, hle, ⟨hS4, hS.size, fun t => (hS.slots t).mono hle⟩, ⟨[(n, w.heap.size)], rfl, by simp, fun p hpm => ?_⟩, ?_⟩
   ·simp at hpm; subst hpm
    obtain ⟨f1, f2, _, f3⟩ := hS.sim.free n hsn
    refine ⟨fun hh => ?_, (hle2.trans hle3).loc _ _ hloc1, (hle2.trans hle3).row_ne hrow1⟩
    rcases hh with hh | hh | hh
    ·exact hh f1
    ·exact hh f2
    ·exact hh f3
   ·cases e with
    | normal => simp only at he; subst he; exact hQ
    | exit id => simp only at he; subst he; exact hQ
    | ret => simp only at he; subst he; exact hQ
    | goto => exact he.elim
    | panic => exact he.elim
    | outgrown => exact he.elim
  refine ⟨_, _, hend, ?_⟩
  cases jump with
  | normal => exact hfin .normal rfl
  | exit id => exact wpIn_exit (hfin (.exit id) rfl)
  | ret => exact wpIn_ret (hfin .ret rfl)
theorem endRec_normal {r : Loop} (h1 : r.state = .ready) (h2 : r.pending = none) : endRec r .normal = r := by
 cases r; simp only at h1 h2; subst h1; subst h2; rfl
theorem ren_upd {s : Slots} {f : Nat → Option Nat} (t : Nat) (v : AV) (h : (fun t => (s t).ren f) = s) (hv : v.ren f = v) : (fun t' => (upd s t v t').ren f) = upd s t v := by
 funext t'
 by_cases ht : t' = t
 ·subst ht; simp only [upd_same]; exact hv
 ·simp only [upd_ne _ _ _ _ ht]; exact congrFun h t'
theorem ren_init {args : List AV} {f : Nat → Option Nat} (h : AV.renl f args = args) : (fun t => (initS args t).ren f) = initS args := by
 funext t
 show (args.getD t (.tup [])).ren f = args.getD t (.tup [])
 by_cases ht : t < args.length
 ·have e1 : args.getD t (.tup []) = args[t] := by simp [List.getD, List.getElem?_eq_getElem ht]
  rw [e1]
  have h2 : (AV.renl f args)[t]? = some (args[t].ren f) := by rw [AV.renl_map, List.getElem?_map, List.getElem?_eq_getElem ht]; rfl
  rw [h, List.getElem?_eq_getElem ht] at h2
  injection h2 with h2
  exact h2.symm
 ·have e1 : args.getD t (.tup []) = .tup [] := by simp [List.getD, List.getElem?_eq_none (Nat.not_lt.1 ht)]
  rw [e1]; rfl
end Go.Ab

namespace Go.Proofs.YtdmjpolnbmoehaaGreatDoor
open Go.Ab
@[go_sem] theorem zt209 : ztree Tryz.prog 209 = some (.lit .nilFunc) := by kernel_rfl
@[go_sem] theorem tq209 : tyInfo Tryz.prog 209 = some (false, 1) ∧ byteTy Tryz.prog 209 = false ∧ Program.concrete Tryz.prog 209 = true ∧ strTy Tryz.prog 209 = false ∧ nilKind Tryz.prog 209 = 3 := by and_intros <;> kernel_rfl
@[go_sem] theorem zt219 : ztree Tryz.prog 219 = some (.lit .nilFunc) := by kernel_rfl
@[go_sem] theorem tq219 : tyInfo Tryz.prog 219 = some (false, 1) ∧ byteTy Tryz.prog 219 = false ∧ Program.concrete Tryz.prog 219 = true ∧ strTy Tryz.prog 219 = false ∧ nilKind Tryz.prog 219 = 3 := by and_intros <;> kernel_rfl
@[go_sem] theorem zt240 : ztree Tryz.prog 240 = some (.lit .nilFunc) := by kernel_rfl
@[go_sem] theorem tq240 : tyInfo Tryz.prog 240 = some (false, 1) ∧ byteTy Tryz.prog 240 = false ∧ Program.concrete Tryz.prog 240 = true ∧ strTy Tryz.prog 240 = false ∧ nilKind Tryz.prog 240 = 3 := by and_intros <;> kernel_rfl
@[go_sem] theorem zt241 : ztree Tryz.prog 241 = some (.lit .nilFunc) := by kernel_rfl
@[go_sem] theorem tq241 : tyInfo Tryz.prog 241 = some (false, 1) ∧ byteTy Tryz.prog 241 = false ∧ Program.concrete Tryz.prog 241 = true ∧ strTy Tryz.prog 241 = false ∧ nilKind Tryz.prog 241 = 3 := by and_intros <;> kernel_rfl
@[go_sem] theorem eq248 : eqTop Tryz.prog 248 = some (.agg []) := by kernel_rfl
@[go_sem] theorem zt248 : ztree Tryz.prog 248 = some (.agg []) := by kernel_rfl
@[go_sem] theorem tq248 : tyInfo Tryz.prog 248 = some (true, 0) ∧ byteTy Tryz.prog 248 = false ∧ Program.concrete Tryz.prog 248 = true ∧ strTy Tryz.prog 248 = false ∧ splaces Tryz.prog 248 = some [] := by and_intros <;> kernel_rfl
@[go_sem] theorem zt257 : ztree Tryz.prog 257 = some (.lit .nilFunc) := by kernel_rfl
@[go_sem] theorem tq257 : tyInfo Tryz.prog 257 = some (false, 1) ∧ byteTy Tryz.prog 257 = false ∧ Program.concrete Tryz.prog 257 = true ∧ strTy Tryz.prog 257 = false ∧ nilKind Tryz.prog 257 = 3 := by and_intros <;> kernel_rfl
end Go.Proofs.YtdmjpolnbmoehaaGreatDoor

namespace Go.Proofs.YtdmjpolnbmoehaaGreatDoor
open Go.Ab
attribute [local irreducible] Go.Ab.tyAV Go.Ab.aw Go.Ab.aops Go.Ab.kReg Go.Ab.aThen Go.Ab.aBlk Go.Ab.acond Go.Ab.aguard Go.Ab.astep Go.Ab.AStepX Go.Ab.aRet
theorem Append_bad (bs : List UInt8) (n : Int) (h : n < 0 ∨ 281474976710656 < n) (k : Nat) : ACall Tryz.prog 158 [.slice none (bs.map byteAV), .lit (.int .i64 n)] k [] (.tup [.nils, .lit (.int .i64 1)]) [] := by
 by_cases h1 : n < 0
 ·refine Bd Tryz.func158 Tryz.ntmps158 fun σ N hp hpn hk hkn hfree => ?_
  exact W0
 ·have h2 : 281474976710656 < n := by omega
  refine Bd Tryz.func158 Tryz.ntmps158 fun σ N hp hpn hk hkn hfree => ?_
  exact W0
end Go.Proofs.YtdmjpolnbmoehaaGreatDoor

namespace Go.Proofs.YtdmjpolnbmoehaaGreatDoor
open Go.Ab
attribute [local irreducible] Go.Ab.tyAV Go.Ab.aw Go.Ab.aops Go.Ab.kReg Go.Ab.aThen Go.Ab.aBlk Go.Ab.acond Go.Ab.aguard Go.Ab.astep Go.Ab.AStepX Go.Ab.aRet
attribute [local irreducible] shaG
section
variable [W : W32]
theorem refLook_spec (a : Alg) (key : Tg) (msg : List UInt8) (hl : a.macs.length ≤ 1000000) (hm : ∀ e ∈ a.macs, e.msg.length ≤ 100000) (k : Nat) :
  ACall Tryz.prog 94 [algAV a, tagAV key, .slice none (msg.map byteAV)] k [] (entAV (lookO a key msg)) [] := by
 have c1 := entry_spec a key msg hl hm
 obtain ⟨fr, sd, fs, L, B⟩ := a
 simp only at hl hm c1
 unfold lookO
 cases fr with
 | true =>
  simp only [if_true]
  generalize entL key msg L = R at *
  unfold entAV at *
  simp only [algAV] at *
  clear hm
  refine Bd Tryz.func94 Tryz.ntmps94 fun σ N hp hpn hk hkn hfree => ?_
  have hcs := And.intro c1 True.intro
  clear c1
  exact W0
 | false =>
  simp only [Bool.false_eq_true, if_false]
  clear c1 hm
  by_cases h1 : 4096 < msg.length
  ·rw [if_pos h1]
   have h1i : (4096 : Int) < (msg.length : Int) := by omega
   unfold entAV
   simp only [Option.getD_none, Option.isSome_none, algAV]
   refine Bd Tryz.func94 Tryz.ntmps94 fun σ N hp hpn hk hkn hfree => ?_
   exact W0
  ·rw [if_neg h1]
   have h1i : ¬ (4096 : Int) < (msg.length : Int) := by omega
   have c2 := Hmac_spec key.1 msg (by rw [key.2]; decide) (by omega)
   generalize hmacT key.1 msg = t at *
   have hs1 := tagAV_sz key
   have hs2 := tagAV_cell key
   obtain ⟨K, hK⟩ := key
   have hkA : tagAV ⟨K, hK⟩ = .agg (K.map byteAV) := rfl
   simp only [hkA] at hs1 hs2 c2 ⊢
   clear hkA
   have hs3 : AV.celll (K.map byteAV) = true := celll_bytes K
   have htk : (K.map byteAV).take 32 = K.map byteAV := List.take_of_length_le (by rw [List.length_map]; omega)
   unfold entAV
   simp only [Option.getD_some, Option.isSome_some, algAV]
   refine Bd Tryz.func94 Tryz.ntmps94 fun σ N hp hpn hk hkn hfree => ?_
   have hcs := And.intro c2 True.intro
   clear c2
   exact W0
end
end Go.Proofs.YtdmjpolnbmoehaaGreatDoor

namespace Go.Proofs.YtdmjpolnbmoehaaGreatDoor
open Go.Ab
attribute [local irreducible] Go.Ab.tyAV Go.Ab.aw Go.Ab.aops Go.Ab.kReg Go.Ab.aThen Go.Ab.aBlk Go.Ab.acond Go.Ab.aguard Go.Ab.astep Go.Ab.AStepX Go.Ab.aRet
theorem Enc_bad (p : Pr) (hp0 : PrOk p) (h : predB p = false) (d k : Nat) :
  ACall Tryz.prog 96 [prAV p] k [(d, bitsG)] (.tup [.nils, .lit (.int .i64 5)]) [] := by
 have c1 := predValid_spec p hp0 d
 rw [h] at c1
 refine Bd Tryz.func96 Tryz.ntmps96 fun σ N hp hpn hk hkn hfree => ?_
 obtain ⟨hd, hdn⟩ := HD0 hp hpn; clear hp hpn
 have hcs := And.intro c1 True.intro
 clear c1
 exact W0
end Go.Proofs.YtdmjpolnbmoehaaGreatDoor

namespace Go.Proofs.YtdmjpolnbmoehaaGreatDoor
open Go.Ab
set_option maxHeartbeats 2000000 in
theorem eight_be8 (L : List UInt8) (h : L.length = 8) : eightB (be8 L : Int) = L := by
 obtain ⟨a, b, c, d, e, f, g, i, rfl⟩ : ∃ a b c d e f g i, L = [a, b, c, d, e, f, g, i] := by
  match L, h with
  | [a, b, c, d, e, f, g, i], _ => exact ⟨a, b, c, d, e, f, g, i, rfl⟩
 have ha := a.toNat_lt
 have hb := b.toNat_lt
 have hc := c.toNat_lt
 have hd := d.toNat_lt
 have he := e.toNat_lt
 have hf := f.toNat_lt
 have hg := g.toNat_lt
 have hi := i.toNat_lt
 obtain ⟨m, hm⟩ : ∃ m : Int, ((be8 [a, b, c, d, e, f, g, i] : Nat) : Int) = m := ⟨_, rfl⟩
 rw [hm]
 simp only [be8, List.foldl_cons, List.foldl_nil] at hm
 have d7 : m / 72057594037927936 % 256 = a.toNat := by omega
 have d6 : m / 281474976710656 % 256 = b.toNat := by omega
 have d5 : m / 1099511627776 % 256 = c.toNat := by omega
 have d4 : m / 4294967296 % 256 = d.toNat := by omega
 have d3 : m / 16777216 % 256 = e.toNat := by omega
 have d2 : m / 65536 % 256 = f.toNat := by omega
 have d1 : m / 256 % 256 = g.toNat := by omega
 have d0 : m % 256 = i.toNat := by omega
 have e7 := sh8_toNat m 56
 have e6 := sh8_toNat m 48
 have e5 := sh8_toNat m 40
 have e4 := sh8_toNat m 32
 have e3 := sh8_toNat m 24
 have e2 := sh8_toNat m 16
 have e1 := sh8_toNat m 8
 have e0 := sh8_toNat m 0
 simp only [Int.reducePow, Int.pow_zero, Int.ediv_one] at e7 e6 e5 e4 e3 e2 e1 e0
 rw [d7] at e7
 rw [d6] at e6
 rw [d5] at e5
 rw [d4] at e4
 rw [d3] at e3
 rw [d2] at e2
 rw [d1] at e1
 rw [d0] at e0
 have key : ∀ x y : UInt8, (x.toNat : Int) = (y.toNat : Int) → x = y := fun x y h => UInt8.toNat_inj.1 (by exact_mod_cast h)
 unfold eightB
 rw [key (sh8 m 56) a e7, key (sh8 m 48) b e6, key (sh8 m 40) c e5, key (sh8 m 32) d e4, key (sh8 m 24) e e3, key (sh8 m 16) f e2, key (sh8 m 8) g e1, key (sh8 m 0) i e0]
end Go.Proofs.YtdmjpolnbmoehaaGreatDoor

namespace Go.Proofs.YtdmjpolnbmoehaaGreatDoor
open Go.Ab
attribute [local irreducible] Go.Ab.tyAV Go.Ab.aw Go.Ab.aops Go.Ab.kReg Go.Ab.aThen Go.Ab.aBlk Go.Ab.acond Go.Ab.aguard Go.Ab.astep Go.Ab.AStepX Go.Ab.aRet
attribute [local irreducible] shaG
section
variable [W : W32]
theorem look_mac {a : Alg} (ok : AlgOk a) {key : Tg} {msg : List UInt8} (h : (macS a key msg).2.2 = 0) : lookO (macS a key msg).1 key msg = some (macS a key msg).2.1 := by
 by_cases h1 : 4096 < msg.length
 ·rw [macS_long h1] at h; cases h
 ·cases he : entL key msg a.macs with
  | some t =>
   rw [macS_found h1 he]
   unfold lookO
   cases hfr : a.free with
   | true => rw [if_pos rfl]; exact he
   | false =>
    rw [if_neg (by simp), if_neg h1]
    obtain ⟨e, hm, e1, e2, e3⟩ := entL_mem he
    rw [← e3, ok.mn hfr e hm, e1, e2]
  | none =>
   by_cases hf : 65536 ≤ a.macs.length
   ·rw [macS_full h1 he hf] at h; cases h
   ·rw [macS_new h1 he hf]
    unfold lookO
    simp only
    cases hfr : a.free with
    | true => rw [if_pos rfl, entL_app, he]; simp
    | false => rw [if_neg (by simp), if_neg h1]; simp
theorem look_mono {a : Alg} {key : Tg} {msg : List UInt8} (h : (macS a key msg).2.2 = 0) {k : Tg} {m : List UInt8} {t : Tg} (hk : lookO a k m = some t) : lookO (macS a key msg).1 k m = some t := by
 by_cases h1 : 4096 < msg.length
 ·rw [macS_long h1] at h; cases h
 ·cases he : entL key msg a.macs with
  | some t => rw [macS_found h1 he]; exact hk
  | none =>
   by_cases hf : 65536 ≤ a.macs.length
   ·rw [macS_full h1 he hf] at h; cases h
   ·rw [macS_new h1 he hf]
    unfold lookO at hk ⊢
    simp only
    cases hfr : a.free with
    | true =>
     rw [hfr, if_pos rfl] at hk
     rw [if_pos rfl, entL_app, hk]
    | false => rw [hfr, if_neg (by simp)] at hk; rw [if_neg (by simp)]; exact hk
end
end Go.Proofs.YtdmjpolnbmoehaaGreatDoor

namespace Go.Proofs.YtdmjpolnbmoehaaGreatDoor
open Go.Ab
attribute [local irreducible] Go.Ab.tyAV Go.Ab.aw Go.Ab.aops Go.Ab.kReg Go.Ab.aThen Go.Ab.aBlk Go.Ab.acond Go.Ab.aguard Go.Ab.astep Go.Ab.AStepX Go.Ab.aRet
theorem age_A (n : List UInt8) (b m : Int) (h : (decide (0 ≤ m) && decide (m ≤ 67108864)) = false) (k : Nat) :
  ACall Tryz.prog 70 [persAV ⟨n, b⟩, .lit (.int .i64 m)] k [] (.lit (.int .i64 0)) [] := by
 have c1 := minutes_spec m
 rw [h] at c1
 clear h
 refine Bd Tryz.func70 Tryz.ntmps70 fun σ N hp hpn hk hkn hfree => ?_
 have hcs := And.intro c1 True.intro
 exact W0
theorem age_C (n : List UInt8) (b m w x : Int) (h : (decide (0 ≤ m) && decide (m ≤ 67108864)) = true) (hw : IntKind.i64.wrap (-b) = w) (hx : (if b < w then w else b) = x) (h2 : (decide (0 ≤ x) && decide (x ≤ 67108864)) = true) (h3 : m < b) (k : Nat) :
  ACall Tryz.prog 70 [persAV ⟨n, b⟩, .lit (.int .i64 m)] k [] (.lit (.int .i64 0)) [] := by
 have c1 := minutes_spec m
 rw [h] at c1
 have c2 := minutes_spec x
 rw [h2] at c2
 clear h h2
 refine Bd Tryz.func70 Tryz.ntmps70 fun σ N hp hpn hk hkn hfree => ?_
 have hcs := And.intro c1 (And.intro c2 True.intro)
 exact W0
theorem age_D (n : List UInt8) (b m w x r : Int) (h : (decide (0 ≤ m) && decide (m ≤ 67108864)) = true) (hw : IntKind.i64.wrap (-b) = w) (hx : (if b < w then w else b) = x) (h2 : (decide (0 ≤ x) && decide (x ≤ 67108864)) = true) (h3 : ¬ m < b) (h4 : -67108864 ≤ b) (h5 : m ≤ 67108864)
  (hr : (if (150 : Int) < (m - b).tdiv 525600 then (150 : Int) else (m - b).tdiv 525600) = r) (k : Nat) :
  ACall Tryz.prog 70 [persAV ⟨n, b⟩, .lit (.int .i64 m)] k [] (.lit (.int .i64 r)) [] := by
 have c1 := minutes_spec m
 rw [h] at c1
 have c2 := minutes_spec x
 rw [h2] at c2
 have hwr : IntKind.i64.wrap (m - b) = m - b := wrap_i64 (by omega) (by omega)
 have hq : (m - b).tdiv 525600 = (m - b) / 525600 := Int.tdiv_eq_ediv_of_nonneg (by omega)
 rw [hq] at hr
 clear h h2
 refine Bd Tryz.func70 Tryz.ntmps70 fun σ N hp hpn hk hkn hfree => ?_
 have hcs := And.intro c1 (And.intro c2 True.intro)
 exact W0
theorem Age_spec (n : List UInt8) (b m : Int) (w : (Lit.int .i64 b).wf = true) (k : Nat) :
  ACall Tryz.prog 70 [persAV ⟨n, b⟩, .lit (.int .i64 m)] k [] (.lit (.int .i64 (ageS b m))) [] := by
 have wb : -9223372036854775808 ≤ b ∧ b ≤ 9223372036854775807 := i64_of_wf w
 unfold ageS
 by_cases h1 : m < 0 ∨ 67108864 < m
 ·rw [if_pos (by unfold ageBad; omega)]
  refine age_A n b m ?_ k
  rw [Bool.and_eq_false_iff, decide_eq_false_iff_not, decide_eq_false_iff_not]; omega
 ·have hm : (decide (0 ≤ m) && decide (m ≤ 67108864)) = true := by
   rw [Bool.and_eq_true, decide_eq_true_iff, decide_eq_true_iff]; omega
  by_cases h2 : b < -67108864 ∨ 67108864 < b
  ·rw [if_pos (by unfold ageBad; omega)]
   by_cases h3 : b = -9223372036854775808
   ·subst h3
    refine age_B n _ m (-9223372036854775808) (-9223372036854775808) hm (by decide +kernel) (by decide +kernel) (by decide +kernel) k
   ·refine age_B n b m (-b) (if b < -b then -b else b) hm (wrap_i64 (by omega) (by omega)) rfl ?_ k
    rw [Bool.and_eq_false_iff, decide_eq_false_iff_not, decide_eq_false_iff_not]; split <;> omega
  ·have hx : (decide (0 ≤ (if b < -b then -b else b)) && decide ((if b < -b then -b else b) ≤ 67108864)) = true := by
    rw [Bool.and_eq_true, decide_eq_true_iff, decide_eq_true_iff]; split <;> omega
   by_cases h3 : m < b
   ·rw [if_pos (by unfold ageBad; omega)]
    exact age_C n b m (-b) _ hm (wrap_i64 (by omega) (by omega)) rfl hx h3 k
   ·rw [if_neg (by unfold ageBad; omega)]
    refine age_D n b m (-b) _ _ hm (wrap_i64 (by omega) (by omega)) rfl hx h3 (by omega) (by omega) ?_ k
    rw [Int.tdiv_eq_ediv_of_nonneg (by omega)]
    split <;> split <;> omega
theorem Find_spec (p : Int) (t : Tg) (l : List Pe) (nm : List UInt8) (hl : l.length ≤ 1000000) (k : Nat) :
  ACall Tryz.prog 125 [concAV ⟨p, t, l⟩, strAV nm] k [] (.tup [persAV (findP l nm).1, .lit (.bool (findP l nm).2)]) [] := by
 have hnmv : strAV nm = .lit (.string ⟨nm.toArray⟩) := rfl
 refine Bd Tryz.func125 Tryz.ntmps125 fun σ N hp hpn hk hkn hfree => ?_
 refine Wk ?_
 refine go_loop (aloop mixed (by kernel_rfl) (fun c => ∃ (u : Nat), c.s 1 = strAV nm ∧ c.s 9 = .slice none (l.map persAV) ∧ c.s 10 = .lit (.int .i64 l.length) ∧ c.s 4 = .ptr (N + 1) [] 0 ∧ c.σ (N + 1) = .box 130 (persAV ⟨[], 0⟩) ∧ c.s 11 = .lit (.int .i64 u) ∧ u ≤ l.length ∧ N + 1 < c.n ∧ (∀ id, id < N → c.σ id = σ id) ∧ ∀ y ∈ l.take u, ¬ y.name = nm)
  (fun c => match c.s 11 with | .lit (.int _ m) => l.length - m.toNat | _ => 0) ⟨0, by simp (disch := omega) [go_sem, *, -List.reduceReplicate], by simp (disch := omega) [go_sem, *, -List.reduceReplicate], by simp (disch := omega) [go_sem, *, -List.reduceReplicate], by simp (disch := omega) [go_sem, *, -List.reduceReplicate], by simp (disch := omega) [go_sem, *, -List.reduceReplicate]; try rfl, by simp (disch := omega) [go_sem, *, -List.reduceReplicate], by omega, by simp only; omega, (fun id hid => by simp (disch := omega) only [upd_ne]; try exact hlow id hid), by simp⟩ ?_)
 rintro ⟨s, σ', n'⟩ ⟨u, h1, h9, h10, h4, hN1, h6, hu, hn', hlow, hno⟩
 simp only at h1 h9 h10 h4 hN1 h6 hn' hlow
 by_cases hul : u = l.length
 ·rw [findP_none (by rw [hul, List.take_length] at hno; exact hno)]
  clear hno
  exact W0
 ·have hu2 : u < l.length := by omega
  obtain ⟨x, hx⟩ : ∃ x, l[u] = x := ⟨_, rfl⟩
  by_cases hm : x.name = nm
  ·rw [findP_at hu2 hx hm hno]
   clear hno
   obtain ⟨xn, xb⟩ := x
   simp only at hm
   subst hm
   exact W0
  ·have hno2 := pno_succ hu2 hx hm hno
   clear hno
   obtain ⟨xn, xb⟩ := x
   simp only at hm
   refine Wk ?_
   refine ⟨⟨u + 1, by simp (disch := omega) [go_sem, *, -List.reduceReplicate], by simp (disch := omega) [go_sem, *, -List.reduceReplicate], by simp (disch := omega) [go_sem, *, -List.reduceReplicate], by simp (disch := omega) [go_sem, *, -List.reduceReplicate], by simp (disch := omega) [go_sem, *, -List.reduceReplicate], by simp (disch := omega) [go_sem, *, -List.reduceReplicate], by omega, by simp only; omega, (fun id hid => by simp (disch := omega) only [upd_ne]; try exact hlow id hid), hno2⟩, ?_⟩
   simp (disch := omega) [go_sem, *, -List.reduceReplicate]
   omega
end Go.Proofs.YtdmjpolnbmoehaaGreatDoor

namespace Go.Proofs.YtdmjpolnbmoehaaGreatDoor
open Go.Ab
attribute [local irreducible] Go.Ab.tyAV Go.Ab.aw Go.Ab.aops Go.Ab.kReg Go.Ab.aThen Go.Ab.aBlk Go.Ab.acond Go.Ab.aguard Go.Ab.astep Go.Ab.AStepX Go.Ab.aRet
attribute [local irreducible] shaG
section
variable [W : W32]
theorem grantS_conds {a : Alg} {c : Co} {t holder : List UInt8} {mi : Int} : (grantS a c t holder mi).2.1.conds.length ≤ 1 := by
 unfold grantS
 repeat' split
 all_goals first | (simp [di0]; done) | skip
 unfold restrS
 repeat' split
 all_goals simp [di0]
theorem restrS_conds {a : Alg} {d : Di} {p : Pr} : (restrS a d p).2.1.conds.length ≤ d.conds.length + 1 := by
 unfold restrS
 repeat' split
 all_goals simp [di0]
end

def w3P : Pr := ⟨4, 0, 0, 3000, [], 0⟩
def WID (l : List Int) (j : Nat) (L : List Pr) (j1 : Nat) : Prop := L.length ≤ 1 ∧ (∀ p ∈ L, PrOk p) ∧ Dk l j1 ∧ ∀ d k, ACall Tryz.prog 75 [.ptr d [] 0, .lit (.int .i64 1), .lit (.string ⟨#[97, 110, 110]⟩)] k [(d, deckBox l j)] (.slice none (L.map prAV)) [(d, deckBox l j1)]
section
variable [W : W32]
theorem AlgOk.node0 {a : Alg} (h : AlgOk a) (key : Tg) (msg : List UInt8) : AlgOk (nodeS a key msg).1 := by
 unfold nodeS
 split
 ·split
  ·exact (h.mac _ _).mac _ _
  ·exact AlgOk.zero
 ·exact AlgOk.zero
theorem AlgOk.att {a : Alg} (h : AlgOk a) (p : Pa) (c : Ca) : AlgOk (attS a p c).1 := by
 unfold attS
 split
 ·exact AlgOk.zero
 ·split
  ·exact AlgOk.zero
  ·split
   ·exact h.node0 _ _
   ·exact AlgOk.zero
theorem AlgOk.nar : ∀ {l : List Pr} {a : Alg} (_ : AlgOk a) (p : Pa), AlgOk (narS a p l).1
 | [], _, h, _ => h
 | x :: r, a, h, p => by
  unfold narS
  split
  ·exact AlgOk.nar (l := r) (h.att _ _) _
  ·exact AlgOk.zero
theorem AlgOk.restr {a : Alg} (h : AlgOk a) (d : Di) (p : Pr) : AlgOk (restrS a d p).1 := by
 unfold restrS
 split
 ·exact AlgOk.zero
 ·split
  ·exact AlgOk.zero
  ·split
   ·exact AlgOk.zero
   ·split
    ·exact h.mac _ _
    ·exact AlgOk.zero
theorem AlgOk.blank {a : Alg} (h : AlgOk a) (c : Co) (t : Te) : AlgOk (blankS a c t).1 := by
 unfold blankS
 split
 ·exact AlgOk.zero
 ·split
  ·split
   ·exact h.key.sealed _ _ _
   ·exact AlgOk.zero
  ·exact AlgOk.zero
theorem AlgOk.addT {a : Alg} (h : AlgOk a) (p : Pa) (b : Bl) : AlgOk (addS a p b).1 := by
 unfold addS
 split
 ·split
  ·exact ((h.mac _ _).sealed _ _ _).att _ _
  ·exact AlgOk.zero
 ·exact AlgOk.zero
theorem AlgOk.grant {a : Alg} (h : AlgOk a) (c : Co) (t holder : List UInt8) (mi : Int) : AlgOk (grantS a c t holder mi).1 := by
 unfold grantS
 split
 ·exact AlgOk.zero
 ·split
  ·exact AlgOk.zero
  ·split
   ·exact AlgOk.zero
   ·split
    ·exact AlgOk.zero
    ·split
     ·exact AlgOk.zero
     ·split
      ·exact (h.mac _ _).restr _ _
      ·exact AlgOk.zero
theorem narS_in : ∀ {l : List Pr} {a : Alg} {m : Nat} (_ : AlgIn a m) (p : Pa), AlgIn (narS a p l).1 (m + 2 * l.length)
 | [], _, _, h, _ => h
 | x :: r, a, m, h, p => by
  unfold narS
  split
  ·have := narS_in (l := r) (attS_in h p (firC x)) (attS a p (firC x)).2.1
   rw [show m + 2 * (x :: r).length = m + 2 + 2 * r.length by simp; omega]
   exact this
  ·exact alg0_in _
theorem narS_len : ∀ {l : List Pr} {a : Alg} (p : Pa), (narS a p l).2.1.cavs.length ≤ p.cavs.length + l.length
 | [], _, _ => Nat.le_refl _
 | x :: r, a, p => by
  unfold narS
  split
  ·have := narS_len (l := r) (a := (attS a p (firC x)).1) (attS a p (firC x)).2.1
   have h2 := attS_len (a := a) (p := p) (c := firC x)
   rw [List.length_cons]
   omega
  ·simp [pa0]
theorem addS_cavs {a : Alg} {p : Pa} {b : Bl} : (addS a p b).2.1.cavs.length ≤ p.cavs.length + 1 := by
 unfold addS
 split
 ·split
  ·exact attS_len
  ·simp [pa0]
 ·simp [pa0]
structure SoW (S : Ss) (n m : Nat) : Prop where
 ain : AlgIn S.A m
 ok : AlgOk S.A
 cl : S.p.cavs.length ≤ n
 gl : S.gs.length ≤ n
def rRunW (l : List Int) : Nat → Nat → Alg → Di → (Alg × Di × Nat) → Prop
 | 0, j, A, g, R => R = (A, g, j)
 | f + 1, j, A, g, R => ∃ p j1, PRD l j false p j1 ∧ rRunW l f j1 (restrS A g w3P).1 (restrS A g w3P).2.1 R
theorem rRunW_ex {l : List Int} : ∀ (f j : Nat) (A : Alg) (g : Di), Dk l j → ∃ R, rRunW l f j A g R
 | 0, j, A, g, _ => ⟨_, rfl⟩
 | f + 1, j, A, g, h => by
  obtain ⟨p, j1, hp⟩ := PRD_ex h false
  obtain ⟨R, hR⟩ := rRunW_ex f j1 (restrS A g w3P).1 (restrS A g w3P).2.1 hp.2.2.2.1
  exact ⟨R, p, j1, hp, hR⟩
theorem rRunW_ok {l : List Int} : ∀ (f j : Nat) (A : Alg) (g : Di) (R : Alg × Di × Nat) (m : Nat), rRunW l f j A g R → Dk l j → AlgIn A m → AlgOk A → Dk l R.2.2 ∧ AlgIn R.1 (m + f) ∧ AlgOk R.1
 | 0, j, A, g, R, m, hR, h, ha, ok => by
  have hR : R = (A, g, j) := hR
  subst hR
  exact ⟨h, ha, ok⟩
 | f + 1, j, A, g, R, m, hR, h, ha, ok => by
  obtain ⟨p, j1, hp, hR⟩ := hR
  have := rRunW_ok f j1 _ _ R (m + 1) hR hp.2.2.2.1 (restrS_in ha g w3P) (ok.restr g w3P)
  rw [show m + (f + 1) = m + 1 + f by omega]
  exact this
def wRun (l : List Int) (con : Co) (mi : Int) : Nat → Nat → Ss → (Ss × Nat) → Prop
 | 0, j, S, R => R = (S, j)
 | f + 1, j, S, R => ((nextD l j 4).1 ≠ 0 → ∃ p j1 L j2, PRD l (nextD l j 4).2 true p j1 ∧ WID l j1 L j2 ∧ wRun l con mi f j2 ⟨(narS S.A S.p L).1, (narS S.A S.p L).2.1, S.gs⟩ R) ∧
  ((nextD l j 4).1 = 0 → ∃ R2, rRunW l (nextD l (nextD l j 4).2 3).1 (nextD l (nextD l j 4).2 3).2 (GR S con mi).1 (GR S con mi).2.1 R2 ∧ wRun l con mi f R2.2.2 ⟨R2.1, (AD S con).2.1, S.gs ++ [R2.2.1]⟩ R)
theorem SoW.thd {con : Co} {mi : Int} {S : Ss} {n m : Nat} (h : SoW S n m) {l : List Int} {f j : Nat} (hj : Dk l j) (hf2 : f ≤ 2) {R2 : Alg × Di × Nat} (hR : rRunW l f j (GR S con mi).1 (GR S con mi).2.1 R2) : Dk l R2.2.2 ∧ SoW ⟨R2.1, (AD S con).2.1, S.gs ++ [R2.2.1]⟩ (n + 1) (m + 12) := by
 have iB : AlgIn (BL S con).1 (m + 2) := blankS_in h.ain con ⟨0, 150⟩
 have iA : AlgIn (AD S con).1 (m + 6) := addS_in iB S.p (BL S con).2.1
 have iG : AlgIn (GR S con mi).1 (m + 8) := grantS_in iA con (BL S con).2.1.ticket ann mi
 have oB : AlgOk (BL S con).1 := h.ok.blank con ⟨0, 150⟩
 have oA : AlgOk (AD S con).1 := oB.addT S.p (BL S con).2.1
 have oG : AlgOk (GR S con mi).1 := oA.grant con (BL S con).2.1.ticket ann mi
 obtain ⟨h1, h2, h3⟩ := rRunW_ok f j _ _ R2 _ hR hj iG oG
 have hc : (AD S con).2.1.cavs.length ≤ S.p.cavs.length + 1 := addS_cavs
 have := h.cl
 have := h.gl
 exact ⟨h1, h2.more (by omega), h3, by simp only; omega, by simp; omega⟩
theorem SoW.nar {S : Ss} {n m : Nat} (h : SoW S n m) {L : List Pr} (hL : L.length ≤ 1) : SoW ⟨(narS S.A S.p L).1, (narS S.A S.p L).2.1, S.gs⟩ (n + 1) (m + 12) := by
 have h1 := narS_len (l := L) (a := S.A) S.p
 have := h.cl
 have := h.gl
 exact ⟨(narS_in (l := L) h.ain S.p).more (by omega), h.ok.nar S.p, by simp only; omega, by simp only; omega⟩
theorem wRun_ex {l : List Int} {con : Co} {mi : Int} (hw : ∀ j, Dk l j → ∃ L j1, WID l j L j1) : ∀ (f j n m : Nat) (S : Ss), Dk l j → SoW S n m → ∃ R, wRun l con mi f j S R ∧ SoW R.1 (n + f) (m + 12 * f) ∧ Dk l R.2
 | 0, j, n, m, S, hj, hS => ⟨_, rfl, hS, hj⟩
 | f + 1, j, n, m, S, hj, hS => by
  have d1 := nextD_dk 4 hj
  by_cases hx : (nextD l j 4).1 = 0
  ·have d2 := nextD_dk 3 d1
   have b2 := nextD_lt l (nextD l j 4).2 3 (by omega)
   obtain ⟨R2, hR2⟩ := rRunW_ex (nextD l (nextD l j 4).2 3).1 (nextD l (nextD l j 4).2 3).2 (GR S con mi).1 (GR S con mi).2.1 d2
   obtain ⟨hd, hg⟩ := hS.thd d2 (by omega) hR2
   obtain ⟨R, hR, hG, hD⟩ := wRun_ex hw f R2.2.2 (n + 1) (m + 12) _ hd hg
   refine ⟨R, ⟨fun h => absurd hx h, fun _ => ⟨R2, hR2, hR⟩⟩, ?_, hD⟩
   rw [show n + (f + 1) = n + 1 + f by omega, show m + 12 * (f + 1) = m + 12 + 12 * f by omega]
   exact hG
  ·obtain ⟨p, j1, hp⟩ := PRD_ex d1 true
   obtain ⟨L, j2, hL⟩ := hw j1 hp.2.2.2.1
   have hg := hS.nar hL.1
   obtain ⟨R, hR, hG, hD⟩ := wRun_ex hw f j2 (n + 1) (m + 12) _ hL.2.2.1 hg
   refine ⟨R, ⟨fun _ => ⟨p, j1, L, j2, hp, hL, hR⟩, fun h => absurd h hx⟩, ?_, hD⟩
   rw [show n + (f + 1) = n + 1 + f by omega, show m + 12 * (f + 1) = m + 12 + 12 * f by omega]
   exact hG
end
end Go.Proofs.YtdmjpolnbmoehaaGreatDoor
