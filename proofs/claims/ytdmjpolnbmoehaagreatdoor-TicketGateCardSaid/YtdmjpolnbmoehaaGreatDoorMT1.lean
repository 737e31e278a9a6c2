/- Texts C1p, C11p, Fp, C14, C15, X1, V1p, X2, Q5, X3, X4, K19p, joined. -/
import Derived.Test.YtdmjpolnbmoehaaGreatDoorMS1
import Derived.RecoverIn
import Derived.RangeFuncLeaves

namespace Go.Ab
open Go.RowKit
theorem go_view {P : Program} {N : Nat} {b : Code} {Q : AExit → Cfg → Prop} {s : Slots} {σ : Nat → Ent} {n : Nat} (t : Tmp) {id : Nat} {bt : TypeId} {x : AV} (hσ : σ id = .box bt x) (ht : s t = .ptr id [] 0)
  (h : aw P N b Q ⟨upd s t (.view x), upd σ id (.fbox bt x), n⟩) : aw P N b Q ⟨s, σ, n⟩ := by
 refine go_ghost (fun W0 g a w hS => ?_) h
 have hr := hS.at_eq ht
 have key : ∀ v, Rep g (.ptr id [] 0) v → ∃ g', g.le g' ∧ Sim W0 g' (upd σ id (.fbox bt x)) n w ∧ Rep g' (.view x) v := by
  intro v hv
  cases hv with
  | ptr _ _ _ b0 hb =>
   obtain ⟨g', h1, h2, v', h3, h4⟩ := hS.sim.freeze hσ hb
   exact ⟨g', h1, h2, .view x v' b0 0 h3 fun j u hu => by rw [Nat.zero_add, h4, ← Array.getElem?_toList]; exact hu⟩
 obtain ⟨g', h1, h2, h3⟩ := key _ hr
 exact ⟨g', h1, hS.turnSlot h1 h2 h3⟩

section
variable {W0 : World} {g : Ghost} {σ : Nat → Ent} {n : Nat} {w : World}
theorem Sim.newMark (h : Sim W0 g σ n w) {k : Nat} (hk : σ k = .none) (hn : k < n) :
  ∃ g', g.le g' ∧ Sim W0 g' (upd σ k .mark) n (w.alloc (.deferred (some []))) ∧ g'.loc k = some w.heap.size ∧ g'.row k ≠ none := by
 have h0 := h.alloc (.deferred (some []))
 obtain ⟨hl, hrw, ho, hm⟩ := h.free k hk
 let g' : Ghost := { g with loc := upd g.loc k (some w.heap.size), row := upd g.row k (some (.bool true)) }
 have hle : g.le g' := ⟨fun _ _ _ h => h, (Ghost.le_loc hl w.heap.size).loc, fun id u' hu' => by
  have hne : id ≠ k := by rintro rfl; rw [hrw] at hu'; cases hu'
  exact ⟨u', by show upd g.row k _ id = some u'; rw [upd_ne _ _ _ _ hne]; exact hu', .inl rfl⟩, fun _ u h => ⟨u, h, .inl rfl⟩⟩
 have hlk : g'.loc k = some w.heap.size := upd_same _ _ _
 have hrk : g'.row k = some (.bool true) := upd_same _ _ _
 have hbk : g'.blk k = some w.heap.size := Ghost.blk_loc hlk
 refine ⟨g', hle, h0.change hn hle h0.below h0.imm (fun id hid => ⟨upd_ne _ _ _ _ hid, upd_ne _ _ _ _ hid, rfl, rfl⟩) (fun id hid b hb => ⟨⟨rfl, fun _ => rfl⟩, ?_⟩)
  ⟨ho, hm, w.heap.size, .bool true, hlk, hrk, heap_alloc_new w _, h.G_new⟩ (fun b hb => ?_) (Nat.le_refl _), hlk, by rw [hrk]; simp⟩
 ·rw [hbk]; intro e; injection e with e; exact h.blk_new id (e ▸ hb)
 ·rw [hbk] at hb; injection hb with hb; subst hb; exact ⟨h.below.size, by simp⟩
theorem Sim.newLoop (h : Sim W0 g σ n w) {k N : Nat} {r : Loop} {s : Slots} {T : Array Value} (hk : σ k = .none) (hn : k < n) (hT : T.size = N) (hs : ∀ t, Rep g (s t) (T.getD t undef)) :
  ∃ g', g.le g' ∧ Sim W0 g' (upd σ k (.loop w.heap.size N r s)) n (w.alloc (.loop { r with tmps := T })) := by
 have h0 := h.alloc (.loop { r with tmps := T })
 obtain ⟨hl, hrw, ho, hm⟩ := h.free k hk
 let g' : Ghost := { g with loc := upd g.loc k (some w.heap.size), mr := upd g.mr k (some (0, .bool true)) }
 have hle : g.le g' := ⟨fun _ _ _ h => h, (Ghost.le_loc hl w.heap.size).loc, fun _ u h => ⟨u, h, .inl rfl⟩, fun id u' hu' => by
  have hne : id ≠ k := by rintro rfl; rw [hm] at hu'; cases hu'
  exact ⟨u', by show upd g.mr k _ id = some u'; rw [upd_ne _ _ _ _ hne]; exact hu', .inl rfl⟩⟩
 have hlk : g'.loc k = some w.heap.size := upd_same _ _ _
 have hmk : g'.mr k = some (0, .bool true) := upd_same _ _ _
 have hbk : g'.blk k = some w.heap.size := Ghost.blk_loc hlk
 refine ⟨g', hle, h0.change hn hle h0.below h0.imm (fun id hid => ⟨upd_ne _ _ _ _ hid, rfl, rfl, upd_ne _ _ _ _ hid⟩) (fun id hid b hb => ⟨⟨rfl, fun _ => rfl⟩, ?_⟩)
  ⟨ho, hrw, ⟨_, hmk⟩, hlk, ⟨T, hT, fun t => (hs t).mono hle, heap_alloc_new w _⟩, h.G_new⟩ (fun b hb => ?_) (Nat.le_refl _)⟩
 ·rw [hbk]; intro e; injection e with e; exact h.blk_new id (e ▸ hb)
 ·rw [hbk] at hb; injection hb with hb; subst hb; exact ⟨h.below.size, by simp⟩
end
theorem go_rangeFunc {P : Program} {N : Nat} {Q : AExit → Cfg → Prop} {x : Operand} {ps : Array Tmp} {A B : Code} {s : Slots} {σ : Nat → Ent} {n : Nat} {f : FuncId} {caps : List AV} {pre post : Foot} {res : AV} (jump : AExit)
  (hx : aeval s x = .fn f caps) (hp : ∀ p ∈ pre, σ p.1 = p.2) (hpn : ∀ p ∈ pre, p.1 < n) (hpost : ∀ q ∈ post, q.1 < n)
  (hcall : ∀ (l : Nat) (r : Loop), r.state = .ready → r.pending = none → r.params = ps → r.assign = A → r.body = B →
   ∃ st, st ≠ .busy ∧ ACall P f (.lit (.func (.yield l) #[] #[]) :: caps) (n + 2) ((n + 1, .loop l N r s) :: pre) res ((n + 1, .loop l N { r with state := st, pending := jumpOf jump } s) :: post))
  (h : ∀ (l : Nat) (r : Loop), Q jump ⟨s, wr (upd (upd σ n .mark) (n + 1) (.loop l N r s)) post, n + 3⟩) : aw P N (.rangeFunc x ps A B) Q ⟨s, σ, n⟩ := by
 intro hok hmix ro hro W0 g a w hS
 have hro' : ro = none := by
  rcases hro with hro | hro
  ·exact hro
  ·cases hro
 subst hro'
 simp only [codeOK, Bool.and_eq_true] at hok
 refine wpIn_rangeFunc fun fn _ => ?_
 have hsn : σ n = .none := hS.sim.bound n (Nat.le_refl _)
 have hsn1 : σ (n + 1) = .none := hS.sim.bound (n + 1) (Nat.le_succ _)
 have hsn2 : σ (n + 2) = .none := hS.sim.bound (n + 2) (by show n ≤ n + 2; omega)
 obtain ⟨g1, hle1, hS1, hloc1, hrow1⟩ := (hS.sim.more (n' := n + 3) (by show n ≤ n + 3; omega)).newMark hsn (by omega)
 obtain ⟨g2, hle2, hS2⟩ := hS1.newLoop (k := n + 1) (N := N) (r := { state := .ready, pending := none, fn := fn, tmps := a.tmps, params := ps, assign := A, body := B, defers := w.heap.size }) (s := s) (T := a.tmps) (by rw [upd_ne _ _ _ _ (by omega)]; exact hsn1) (by omega) hS.size (fun t => (hS.slots t).mono hle1)
 have hsz : (w.alloc (.deferred (some []))).heap.size = w.heap.size + 1 := by simp
 rw [hsz] at hS2
 generalize hL : ({ state := .ready, pending := none, fn := fn, tmps := a.tmps, params := ps, assign := A, body := B, defers := w.heap.size } : Loop) = r at hS2
 obtain ⟨st, hst, hc, hpre', hpost', hrun⟩ := hcall (w.heap.size + 1) r (by rw [← hL]) (by rw [← hL]) (by rw [← hL]) (by rw [← hL]) (by rw [← hL])
 have henter := run_enterLoop_outer (P := P) (w := w) fn a.tmps ps A B
 rw [hL] at henter
 have hre := hS.eval hok.1.1
 rw [show aeval (Cfg.mk s σ n).s x = .fn f caps from hx] at hre
 generalize hv : a.eval x = v at hre
 cases hre with
 | fn _ _ vs hvl hvr =>
  generalize hw1 : (w.alloc (.deferred (some []))).alloc (.loop r) = w1 at hS2 henter
  have hres : (resolve a.eval (rangeCall x (w.heap.size + 1)) 0).run P w1 = .ok { target := .fn (.func f) vs.toArray, args := #[.func (.yield (w.heap.size + 1)) #[] #[]] } w1 := by
   simp only [resolve, List.map_toArray, List.map_cons, List.map_nil, hv, Deferred.ofValue, Sem.run_pure]
   simp [Act.eval]
  have hinv : (invoke (.fn (.func f) vs.toArray) #[.func (.yield (w.heap.size + 1)) #[] #[]]).run P w1 = .ok (.enter f (.func (.yield (w.heap.size + 1)) #[] #[] :: vs).toArray) w1 := by
   simp only [invoke]
   rw [run_callFunc hc]
   simp
  refine ⟨_, _, _, _, _, f, _, _, henter, hres, fun _ _ => trivial, hinv, fun hd => (by cases hd), ?_⟩
  have hne : ∀ q ∈ post, q.1 ≠ n + 1 := fun q hq => by have := hpost q hq; omega
  have hcalls := hrun W0 g2 _ (n + 3) w1 (.func (.yield (w.heap.size + 1)) #[] #[] :: vs) hS2 (by simp [hvl]) (fun i y u hy hu => by
   cases i with
   | zero => simp at hy hu; subst hy; subst hu; exact .lit _ rfl
   | succ i => exact (hvr i y u (by simpa using hy) (by simpa using hu)).mono (hle1.trans hle2))
   (by rw [upd_ne _ _ _ _ (by omega), upd_ne _ _ _ _ (by omega)]; exact hsn2) (by omega) (fun p hpm => by
    rcases List.mem_cons.1 hpm with rfl | hpm
    ·exact upd_same _ _ _
    ·have := hpn p hpm
     rw [upd_ne _ _ _ _ (by omega), upd_ne _ _ _ _ (by omega)]; exact hp p hpm)
  refine CallsIn.mono ((callsIn_wide (n := 0 - 1)).2 hcalls) fun e w3 hq => ?_
  obtain ⟨u, rfl, g3, hle3, hS3, _⟩ := hq
  have hj3 : wr (upd (upd σ n .mark) (n + 1) (.loop (w.heap.size + 1) N r s)) ((n + 1, .loop (w.heap.size + 1) N { r with state := st, pending := jumpOf jump } s) :: post) (n + 1) = .loop (w.heap.size + 1) N { r with state := st, pending := jumpOf jump } s := by
   rw [wr_cons, wr_other _ _ _ hne, upd_same]
  obtain ⟨T3, hT3, hTs3, hheap3, hset3⟩ := hS3.setLoop hj3
  have hend := run_endLoop (P := P) hheap3 hst
  have hS4 := hset3 { r with state := .exhausted, pending := jumpOf jump }
  have hσ : upd (wr (upd (upd σ n .mark) (n + 1) (.loop (w.heap.size + 1) N r s)) ((n + 1, .loop (w.heap.size + 1) N { r with state := st, pending := jumpOf jump } s) :: post)) (n + 1) (.loop (w.heap.size + 1) N { r with state := .exhausted, pending := jumpOf jump } s) =
    wr (upd (upd σ n .mark) (n + 1) (.loop (w.heap.size + 1) N { r with state := .exhausted, pending := jumpOf jump } s)) post := by
   rw [wr_cons, wr_upd_comm _ _ _ _ hne, wr_upd_comm _ _ _ _ hne, wr_upd_comm _ _ _ _ hne, upd_upd, upd_upd]
  rw [hσ] at hS4
  have hfin : ∀ e : Exit, (match e with
    | .normal => jump = .normal
    | .exit id => jump = .exit id
    | .ret => jump = .ret
    | _ => False) → LQ W0 g N a.defers Q e { a with defers := [({ target := .collected w.heap.size, args := #[] } : Deferred)] ++ a.defers } (w3.putObj (w.heap.size + 1) (.loop { { r with state := .exhausted, pending := jumpOf jump } with tmps := T3 })) := by
   intro e he
   have hQ := h (w.heap.size + 1) { r with state := .exhausted, pending := jumpOf jump }
   have hle := (hle1.trans hle2).trans hle3
   refine ⟨⟨s, _, n + 3⟩, g3, hle, ⟨hS4, hS.size, fun t => (hS.slots t).mono hle⟩, ⟨[(n, w.heap.size)], rfl, by simp, fun p hpm => ?_⟩, ?_⟩
   ·simp at hpm; subst hpm
    obtain ⟨f1, f2, _, f3⟩ := hS.sim.free n hsn
    refine ⟨fun hh => ?_, (hle2.trans hle3).loc _ _ hloc1, (hle2.trans hle3).row_ne hrow1⟩
    rcases hh with hh | hh | hh
    ·exact hh f1
    ·exact hh f2
    ·exact hh f3
   ·cases e with
    | normal => simp only at he; subst he; exact hQ
    | exit id => simp only at he; subst he; exact hQ
    | ret => simp only at he; subst he; exact hQ
    | goto => exact he.elim
    | panic => exact he.elim
    | outgrown => exact he.elim
  refine ⟨_, _, hend, ?_⟩
  cases jump with
  | normal => exact hfin .normal rfl
  | exit id => exact wpIn_exit (hfin (.exit id) rfl)
  | ret => exact wpIn_ret (hfin .ret rfl)
theorem endRec_normal {r : Loop} (h1 : r.state = .ready) (h2 : r.pending = none) : endRec r .normal = r := by
 cases r; simp only at h1 h2; subst h1; subst h2; rfl
theorem ren_upd {s : Slots} {f : Nat → Option Nat} (t : Nat) (v : AV) (h : (fun t => (s t).ren f) = s) (hv : v.ren f = v) : (fun t' => (upd s t v t').ren f) = upd s t v := by
 funext t'
 by_cases ht : t' = t
 ·subst ht; simp only [upd_same]; exact hv
 ·simp only [upd_ne _ _ _ _ ht]; exact congrFun h t'
theorem ren_init {args : List AV} {f : Nat → Option Nat} (h : AV.renl f args = args) : (fun t => (initS args t).ren f) = initS args := by
 funext t
 show (args.getD t (.tup [])).ren f = args.getD t (.tup [])
 by_cases ht : t < args.length
 ·have e1 : args.getD t (.tup []) = args[t] := by simp [List.getD, List.getElem?_eq_getElem ht]
  rw [e1]
  have h2 : (AV.renl f args)[t]? = some (args[t].ren f) := by rw [AV.renl_map, List.getElem?_map, List.getElem?_eq_getElem ht]; rfl
  rw [h, List.getElem?_eq_getElem ht] at h2
  injection h2 with h2
  exact h2.symm
 ·have e1 : args.getD t (.tup []) = .tup [] := by simp [List.getD, List.getElem?_eq_none (Nat.not_lt.1 ht)]
  rw [e1]; rfl
end Go.Ab

namespace Go.Proofs.YtdmjpolnbmoehaaGreatDoor
open Go.Ab
@[go_sem] theorem zt209 : ztree Tryz.prog 209 = some (.lit .nilFunc) := by kernel_rfl
@[go_sem] theorem tq209 : tyInfo Tryz.prog 209 = some (false, 1) ∧ byteTy Tryz.prog 209 = false ∧ Program.concrete Tryz.prog 209 = true ∧ strTy Tryz.prog 209 = false ∧ nilKind Tryz.prog 209 = 3 := by and_intros <;> kernel_rfl
@[go_sem] theorem zt215 : ztree Tryz.prog 215 = some (.lit .nilFunc) := by kernel_rfl
@[go_sem] theorem tq215 : tyInfo Tryz.prog 215 = some (false, 1) ∧ byteTy Tryz.prog 215 = false ∧ Program.concrete Tryz.prog 215 = true ∧ strTy Tryz.prog 215 = false ∧ nilKind Tryz.prog 215 = 3 := by and_intros <;> kernel_rfl
@[go_sem] theorem zt219 : ztree Tryz.prog 219 = some (.lit .nilFunc) := by kernel_rfl
@[go_sem] theorem tq219 : tyInfo Tryz.prog 219 = some (false, 1) ∧ byteTy Tryz.prog 219 = false ∧ Program.concrete Tryz.prog 219 = true ∧ strTy Tryz.prog 219 = false ∧ nilKind Tryz.prog 219 = 3 := by and_intros <;> kernel_rfl
@[go_sem] theorem zt228 : ztree Tryz.prog 228 = some (.lit .nilFunc) := by kernel_rfl
@[go_sem] theorem tq228 : tyInfo Tryz.prog 228 = some (false, 1) ∧ byteTy Tryz.prog 228 = false ∧ Program.concrete Tryz.prog 228 = true ∧ strTy Tryz.prog 228 = false ∧ nilKind Tryz.prog 228 = 3 := by and_intros <;> kernel_rfl
@[go_sem] theorem zt240 : ztree Tryz.prog 240 = some (.lit .nilFunc) := by kernel_rfl
@[go_sem] theorem tq240 : tyInfo Tryz.prog 240 = some (false, 1) ∧ byteTy Tryz.prog 240 = false ∧ Program.concrete Tryz.prog 240 = true ∧ strTy Tryz.prog 240 = false ∧ nilKind Tryz.prog 240 = 3 := by and_intros <;> kernel_rfl
@[go_sem] theorem zt241 : ztree Tryz.prog 241 = some (.lit .nilFunc) := by kernel_rfl
@[go_sem] theorem tq241 : tyInfo Tryz.prog 241 = some (false, 1) ∧ byteTy Tryz.prog 241 = false ∧ Program.concrete Tryz.prog 241 = true ∧ strTy Tryz.prog 241 = false ∧ nilKind Tryz.prog 241 = 3 := by and_intros <;> kernel_rfl
@[go_sem] theorem eq248 : eqTop Tryz.prog 248 = some (.agg []) := by kernel_rfl
@[go_sem] theorem zt248 : ztree Tryz.prog 248 = some (.agg []) := by kernel_rfl
@[go_sem] theorem tq248 : tyInfo Tryz.prog 248 = some (true, 0) ∧ byteTy Tryz.prog 248 = false ∧ Program.concrete Tryz.prog 248 = true ∧ strTy Tryz.prog 248 = false ∧ splaces Tryz.prog 248 = some [] := by and_intros <;> kernel_rfl
@[go_sem] theorem zt254 : ztree Tryz.prog 254 = some (.lit .nilFunc) := by kernel_rfl
@[go_sem] theorem tq254 : tyInfo Tryz.prog 254 = some (false, 1) ∧ byteTy Tryz.prog 254 = false ∧ Program.concrete Tryz.prog 254 = true ∧ strTy Tryz.prog 254 = false ∧ nilKind Tryz.prog 254 = 3 := by and_intros <;> kernel_rfl
@[go_sem] theorem zt257 : ztree Tryz.prog 257 = some (.lit .nilFunc) := by kernel_rfl
@[go_sem] theorem tq257 : tyInfo Tryz.prog 257 = some (false, 1) ∧ byteTy Tryz.prog 257 = false ∧ Program.concrete Tryz.prog 257 = true ∧ strTy Tryz.prog 257 = false ∧ nilKind Tryz.prog 257 = 3 := by and_intros <;> kernel_rfl
end Go.Proofs.YtdmjpolnbmoehaaGreatDoor

namespace Go.Ab
end Go.Ab

namespace Go.Ab
open Go.RowKit
section
variable {W0 : World} {N : Nat} {P : Program} {ops : Array Oper} {m : Nat} {out : Nat → Step}
theorem lexA_prefix {Q : Cfg → Prop} {Q' : Exit → Act → World → Prop} {ro : Option Nat} {D : List Deferred} {tl : List Nat} (g0 : Ghost) (hN : shapeOK N ops = true) (e0 : Nat)
  (hQ : ∀ c g a w, g0.le g → SimA W0 g N c a w → a.defers = D → m + ops.size ≤ c.n → (∀ j, e0 ≤ j → j < ops.size → c.σ (m + j) = .none) → Q c → wpOpsIn (wideAt ro) 0 P ops Q' tl a w) :
  ∀ (l : List Oper) (k : Nat) (c : Cfg) (g : Ghost) (a : Act) (w : World), (∀ j, j < l.length → l[j]? = ops[k + j]?) → k + l.length = e0 → e0 ≤ ops.size → g0.le g → SimA W0 g N c a w → a.defers = D → m + ops.size ≤ c.n → (∀ j, k ≤ j → j < ops.size → c.σ (m + j) = .none) →
   lexA P ops m out Q l k c → wpOpsIn (wideAt ro) 0 P ops Q' (List.range' k l.length ++ tl) a w
 | [], k, c, g, a, w, _, he, _, hg, hS, hD, hn, hf, h => by
  simp only [List.length_nil, Nat.add_zero] at he
  subst he
  simpa using hQ c g a w hg hS hD hn hf h
 | o :: l, k, c, g, a, w, hl, hk, hke, hg, hS, hD, hn, hf, h => by
  have h0 : ops[k]? = some o := by simpa using (hl 0 (by simp)).symm
  simp only [List.length_cons] at hk ⊢
  rw [List.range'_succ, List.cons_append, wpOpsIn_cons]
  refine h.1.run h0 hN hS (hf k (Nat.le_refl _) (by omega)) (by omega) fun g' a' w' hle hS' hD' => ?_
  refine lexA_prefix g0 hN e0 hQ l (k + 1) _ g' a' w' (fun j hj => by have := hl (j + 1) (by simp; omega); simpa [Nat.add_assoc, Nat.add_comm 1 j] using this) (by omega) hke (hg.trans hle) hS' (hD'.trans hD) hn (fun j hj hjs => ?_) h.2
  have hnone := hf j (by omega) hjs
  show wr c.σ (out k).post (m + j) = .none
  rw [wr_other]
  ·exact hnone
  ·intro q hq he
   rcases h.1.post_ids q hq with h1 | h1
   ·omega
   ·rw [he] at h1; exact h1 hnone
end
end Go.Ab

namespace Go.Proofs.YtdmjpolnbmoehaaGreatDoor
open Go.Ab
attribute [local irreducible] Go.Ab.tyAV Go.Ab.aw Go.Ab.aops Go.Ab.kReg Go.Ab.aThen Go.Ab.aBlk Go.Ab.acond Go.Ab.aguard Go.Ab.astep Go.Ab.AStepX Go.Ab.aRet
attribute [local irreducible] shaG
theorem bNumber_row (m : Int) (k : Nat) :
  ACall Tryz.prog 186 [.lit (.int .i64 m)] k [] (.slice (some k) ((eightB m).map byteAV)) [(k, .row 5 1 8)] := by
 have e7 := sh8_wrap m 56
 have e6 := sh8_wrap m 48
 have e5 := sh8_wrap m 40
 have e4 := sh8_wrap m 32
 have e3 := sh8_wrap m 24
 have e2 := sh8_wrap m 16
 have e1 := sh8_wrap m 8
 have e0 := sh8_wrap m 0
 simp only [Int.reducePow, Int.pow_zero, Int.fdiv_one] at e7 e6 e5 e4 e3 e2 e1 e0
 unfold eightB
 generalize sh8 m 56 = b7 at *
 generalize sh8 m 48 = b6 at *
 generalize sh8 m 40 = b5 at *
 generalize sh8 m 32 = b4 at *
 generalize sh8 m 24 = b3 at *
 generalize sh8 m 16 = b2 at *
 generalize sh8 m 8 = b1 at *
 generalize sh8 m 0 = b0 at *
 refine Bd Tryz.func186 Tryz.ntmps186 fun σ N hp hpn hk hkn hfree => ?_
 refine Wk ?_
 refine ALoop.nilrow 3 5 1 (by simp (disch := omega) [go_sem, *, -List.reduceReplicate]) ?_
 refine go_loopB (N) mixed (by kernel_rfl) [3, 4, 5, 6, 7, 8, 9, 10, 11, 12, 13, 14, 15] [] (fun m_ s_ σ_ n_ => ∃ (u : Nat) (q : Nat) (acc : List UInt8), m_ = 8 - u ∧ s_ 4 = .lit (.int .i64 (56 - 8 * (u : Int))) ∧ s_ 3 = .slice (some q) (acc.map byteAV) ∧ σ_ (q) = .row 5 1 acc.length ∧ (u ≤ 8) ∧ (N ≤ q) ∧ (q < n_) ∧ (acc = [b7, b6, b5, b4, b3, b2, b1, b0].take u)) ⟨_, 0, _, [], rfl, WF, WF, WF, WC, WC, WC, WC⟩ ?_
 intro m_1 s_1 σ_1 n_1 hs_1 hf_1 hn_1 hI_1
 obtain ⟨u, q, acc, hm_1, h1_4, h1_3, e1_0, hu, hq, hqn, hacc⟩ := hI_1
 have h1_0 := KS hs_1 0
 have h1_2 := KS hs_1 2
 have hlow := KL (N := N) (σ := σ) hf_1
 have hb7 : byteAV b7 = .lit (.int .u8 b7.toNat) := rfl
 have hb6 : byteAV b6 = .lit (.int .u8 b6.toNat) := rfl
 have hb5 : byteAV b5 = .lit (.int .u8 b5.toNat) := rfl
 have hb4 : byteAV b4 = .lit (.int .u8 b4.toNat) := rfl
 have hb3 : byteAV b3 = .lit (.int .u8 b3.toNat) := rfl
 have hb2 : byteAV b2 = .lit (.int .u8 b2.toNat) := rfl
 have hb1 : byteAV b1 = .lit (.int .u8 b1.toNat) := rfl
 have hb0 : byteAV b0 = .lit (.int .u8 b0.toNat) := rfl
 have hcase : u = 0 ∨ u = 1 ∨ u = 2 ∨ u = 3 ∨ u = 4 ∨ u = 5 ∨ u = 6 ∨ u = 7 ∨ u = 8 := by omega
 rcases hcase with rfl | hcase
 ·simp only [List.take_zero] at hacc
  subst hacc
  refine Wk ?_
  exact ⟨WS, WG, WN, _, (show 8 - (1) < m_1 by omega), 1, q, [b7], rfl, WF, WF, WF, WC, WC, WC, WC⟩
 rcases hcase with rfl | hcase
 ·simp only [List.take_succ_cons, List.take_zero] at hacc
  subst hacc
  refine Wk ?_
  exact ⟨WS, WG, WN, _, (show 8 - (2) < m_1 by omega), 2, q, [b7, b6], rfl, WF, WF, WF, WC, WC, WC, WC⟩
 rcases hcase with rfl | hcase
 ·simp only [List.take_succ_cons, List.take_zero] at hacc
  subst hacc
  refine Wk ?_
  exact ⟨WS, WG, WN, _, (show 8 - (3) < m_1 by omega), 3, q, [b7, b6, b5], rfl, WF, WF, WF, WC, WC, WC, WC⟩
 rcases hcase with rfl | hcase
 ·simp only [List.take_succ_cons, List.take_zero] at hacc
  subst hacc
  refine Wk ?_
  exact ⟨WS, WG, WN, _, (show 8 - (4) < m_1 by omega), 4, q, [b7, b6, b5, b4], rfl, WF, WF, WF, WC, WC, WC, WC⟩
 rcases hcase with rfl | hcase
 ·simp only [List.take_succ_cons, List.take_zero] at hacc
  subst hacc
  refine Wk ?_
  exact ⟨WS, WG, WN, _, (show 8 - (5) < m_1 by omega), 5, q, [b7, b6, b5, b4, b3], rfl, WF, WF, WF, WC, WC, WC, WC⟩
 rcases hcase with rfl | hcase
 ·simp only [List.take_succ_cons, List.take_zero] at hacc
  subst hacc
  refine Wk ?_
  exact ⟨WS, WG, WN, _, (show 8 - (6) < m_1 by omega), 6, q, [b7, b6, b5, b4, b3, b2], rfl, WF, WF, WF, WC, WC, WC, WC⟩
 rcases hcase with rfl | hcase
 ·simp only [List.take_succ_cons, List.take_zero] at hacc
  subst hacc
  refine Wk ?_
  exact ⟨WS, WG, WN, _, (show 8 - (7) < m_1 by omega), 7, q, [b7, b6, b5, b4, b3, b2, b1], rfl, WF, WF, WF, WC, WC, WC, WC⟩
 rcases hcase with rfl | hcase
 ·simp only [List.take_succ_cons, List.take_zero] at hacc
  subst hacc
  refine Wk ?_
  exact ⟨WS, WG, WN, _, (show 8 - (8) < m_1 by omega), 8, q, [b7, b6, b5, b4, b3, b2, b1, b0], rfl, WF, WF, WF, WC, WC, WC, WC⟩
 subst hcase
 simp only [List.take_succ_cons, List.take_zero] at hacc
 subst hacc
 clear hb7 hb6 hb5 hb4 hb3 hb2 hb1 hb0
 refine Wk ?_
 refine go_result1 (r0 := q) (by simp (disch := omega) [go_sem, *, -List.reduceReplicate]; rfl) (by omega) (by simp (disch := omega) [go_sem]; try rfl) (fun id hid => by simp (disch := omega) only; try exact hlow id hid) (by simp (disch := omega) [go_sem, *, -List.reduceReplicate]; rfl) (by simp (disch := omega) [go_sem])
theorem label_fresh (k : Nat) : ACall Tryz.prog 216 [.lit (.string ⟨#[102, 114, 101, 115, 104]⟩)] k [] (.lit (.bool true)) [] := by
 refine Bd Tryz.func216 Tryz.ntmps216 fun σ N hp hpn hk hkn hfree => ?_
 refine Wk ?_
 refine go_loopF mixed (by kernel_rfl) [2, 3, 14, 15, 16, 17, 18, 19, 20, 21, 22, 23, 24, 25, 26, 27] [] (fun m_ s_ σ_ n_ => ∃ (u : Nat), m_ = 5 - u ∧ s_ 14 = .lit (.int .i64 u) ∧ s_ 13 = .lit (.int .i64 5) ∧ s_ 0 = .lit (.string ⟨#[102, 114, 101, 115, 104]⟩) ∧ (u ≤ 5)) ⟨_, 0, rfl, WF, WF, WF, WC⟩ ?_
 intro m_2 s_2 σ_2 n_2 hs_2 hf_2 hn_2 hI_2
 obtain ⟨u, hm_2, h2_14, h2_13, h2_0, hu⟩ := hI_2
 have h2_0 := KS hs_2 0
 have h2_13 := KS hs_2 13
 have hlow := KL (N := N) (σ := σ) hf_2
 have hcase : u = 0 ∨ u = 1 ∨ u = 2 ∨ u = 3 ∨ u = 4 ∨ u = 5 := by omega
 rcases hcase with rfl | rfl | rfl | rfl | rfl | rfl
 ·refine Wk ?_
  exact ⟨WS, WG, WN, _, (show 5 - (1) < m_2 by omega), 1, rfl, WF, WF, WF, WC⟩
 ·refine Wk ?_
  exact ⟨WS, WG, WN, _, (show 5 - (2) < m_2 by omega), 2, rfl, WF, WF, WF, WC⟩
 ·refine Wk ?_
  exact ⟨WS, WG, WN, _, (show 5 - (3) < m_2 by omega), 3, rfl, WF, WF, WF, WC⟩
 ·refine Wk ?_
  exact ⟨WS, WG, WN, _, (show 5 - (4) < m_2 by omega), 4, rfl, WF, WF, WF, WC⟩
 ·refine Wk ?_
  exact ⟨WS, WG, WN, _, (show 5 - (5) < m_2 by omega), 5, rfl, WF, WF, WF, WC⟩
 ·exact W0
section
variable [W : W32]
theorem bCheck_spec (key : Tg) (b : List UInt8) (hb : b.length ≤ 90000) (g k : Nat) :
  ACall Tryz.prog 143 [tagAV key, .slice none (b.map byteAV)] k [(g, shaG)] (tagAV (hmacT key.1 ([98, 111, 120] ++ b))) [] := by
 have c1 := hmacOf_spec key.1 ([98, 111, 120] ++ b) (by rw [key.2]; decide) (by simp) (by simp; omega) g
 generalize hmacT key.1 ([98, 111, 120] ++ b) = T at *
 have h98 : byteAV 98 = .lit (.int .u8 98) := rfl
 have h111 : byteAV 111 = .lit (.int .u8 111) := rfl
 have h120 : byteAV 120 = .lit (.int .u8 120) := rfl
 have hs1 := tagAV_sz key
 have hs2 := tagAV_cell key
 obtain ⟨K, hK⟩ := key
 have hkA : tagAV ⟨K, hK⟩ = .agg (K.map byteAV) := rfl
 simp only [hkA] at hs1 hs2 c1 ⊢
 clear hkA
 have htk : (K.map byteAV).take 32 = K.map byteAV := List.take_of_length_le (by rw [List.length_map]; omega)
 refine Bd Tryz.func143 Tryz.ntmps143 fun σ N hp hpn hk hkn hfree => ?_
 have M : Mut (N + 2 + 1) := ⟨⟩
 obtain ⟨hd, hdn⟩ := HD0 hp hpn; clear hp hpn
 have hcs := And.intro c1 True.intro
 clear c1
 exact W0
omit W in
theorem bStream_spec (key : Tg) (nonce : List UInt8) (k : Nat) :
  ACall Tryz.prog 195 [tagAV key, .slice none (nonce.map byteAV)] k [] (.fn 219 [.view (.slice none (nonce.map byteAV)), .view (tagAV key)]) [] := by
 refine Bd Tryz.func195 Tryz.ntmps195 fun σ N hp hpn hk hkn hfree => ?_
 refine Wm ?_
 refine Wz ?_
 refine go_view 2 (id := N) (bt := 29) (x := tagAV key) (by simp (disch := omega) [go_sem, *, -List.reduceReplicate]) (by simp (disch := omega) [go_sem, *, -List.reduceReplicate]) ?_
 refine go_view 3 (id := N + 1) (bt := 26) (x := .slice none (nonce.map byteAV)) (by simp (disch := omega) [go_sem, *, -List.reduceReplicate]) (by simp (disch := omega) [go_sem, *, -List.reduceReplicate]) ?_
 exact W0
set_option maxHeartbeats 1000000 in
theorem bStream1_spec (key : Tg) (nn : Int) (R : Nat) (hR : R ≤ 1000000) (l Nt : Nat) (r r' : Loop) (s : Slots) (E : Ent) (Rw : Nat → Ent) (g x q j k : Nat) (h1 : g < q) (h2 : q < x) (h3 : x < j)
  (hE0 : E ≠ .none) (hR0 : Rw 0 ≠ .none) (hRr : ∀ u n0 kk, j < n0 → (Rw u).ren (rn n0 kk none) = Rw u) (hsr : ∀ n0 kk, j < n0 → (fun t => (s t).ren (rn n0 kk none)) = s)
  (hY : ∀ u, u < R → ∀ kk, AYield Tryz.prog l [.lit (.int .i64 ((u : Int) * 32)), tagAV (kst key.1 nn u)] kk [(j, .loop l Nt r s), (x, E), (q, Rw u)] (.lit (.bool true)) [(j, .loop l Nt r s), (q, Rw (u + 1))])
  (hZ : ∀ kk, AYield Tryz.prog l [.lit (.int .i64 ((R : Int) * 32)), tagAV (kst key.1 nn R)] kk [(j, .loop l Nt r s), (x, E), (q, Rw R)] (.lit (.bool false)) [(j, .loop l Nt r' s), (q, Rw R)]) :
  ACall Tryz.prog 219 [.lit (.func (.yield l) #[] #[]), .view (.slice none ((eightB nn).map byteAV)), .view (tagAV key)] k [(j, .loop l Nt r s), (x, E), (q, Rw 0), (g, shaG)] (.tup []) [(j, .loop l Nt r' s), (q, Rw R)] := by
 have h115 : byteAV 115 = .lit (.int .u8 115) := rfl
 have h116 : byteAV 116 = .lit (.int .u8 116) := rfl
 have h114 : byteAV 114 = .lit (.int .u8 114) := rfl
 have h101 : byteAV 101 = .lit (.int .u8 101) := rfl
 have h97 : byteAV 97 = .lit (.int .u8 97) := rfl
 have h109 : byteAV 109 = .lit (.int .u8 109) := rfl
 obtain ⟨E1, hE1⟩ : ∃ e, eightB nn = e := ⟨_, rfl⟩
 have hE1l : E1.length = 8 := by rw [← hE1]; rfl
 have hst : ∀ u : Nat, kst key.1 nn u = hmacT key.1 ([115, 116, 114, 101, 97, 109] ++ (E1 ++ eightB (u : Int))) := fun u => by rw [← hE1]; rfl
 rw [hE1]
 have hs1 := tagAV_sz key
 have hs2 := tagAV_cell key
 obtain ⟨K, hK⟩ := key
 have hkA : tagAV ⟨K, hK⟩ = .agg (K.map byteAV) := rfl
 simp only [hkA] at hs1 hs2 ⊢
 simp only at hY hZ hst
 clear hkA hE1
 have htk : (K.map byteAV).take 32 = K.map byteAV := List.take_of_length_le (by rw [List.length_map]; omega)
 refine Bd (hpre := by simp [hE0, hR0]) Tryz.func219 Tryz.ntmps219 fun σ N hp hpn hk hkn hfree => ?_
 simp only [List.mem_cons, List.not_mem_nil, or_false, forall_eq_or_imp, forall_eq] at hp hpn
 obtain ⟨hd1, hd2, hd3, hd4⟩ := hp
 obtain ⟨hn1, hn2, hn3, hn4⟩ := hpn
 refine Wk ?_
 refine go_loopB (N) mixed (by kernel_rfl) [4, 5, 6, 7, 8, 9, 10, 11, 12, 13, 14, 15, 16, 17, 18, 19, 20, 21, 22] [j, q] (fun m_ s_ σ_ n_ => ∃ (u : Nat), m_ = R + 1 - u ∧ s_ 4 = .lit (.int .i64 u) ∧ σ_ (j) = .loop l Nt r s ∧ σ_ (q) = Rw u ∧ (u ≤ R)) ⟨_, 0, rfl, WF, WF, WF, WC⟩ ?_
 intro m_3 s_3 σ_3 n_3 hs_3 hf_3 hn_3 hI_3
 obtain ⟨u, hm_3, h3_4, e3_0, e3_1, hu⟩ := hI_3
 have h3_0 := KS hs_3 0
 have h3_1 := KS hs_3 1
 have h3_2 := KS hs_3 2
 have k3_0 := KE hf_3 (x)
 have k3_1 := KE hf_3 (g)
 have hlow : ∀ id, id < N → id ≠ j → id ≠ q → σ_3 id = σ id := fun id hid hdd0 hdd1 => (hf_3.at id (by omega) (by simp [hdd0, hdd1]; try omega)).trans (by simp (disch := omega) only; try first | exact hlow id hid hdd0 hdd1 | exact hlow id hid)
 have c1 := bNumber_row (u : Int)
 have c2 := hmacOf_spec K ([115, 116, 114, 101, 97, 109] ++ (E1 ++ eightB (u : Int))) (by omega) (by simp) (by rw [List.length_append, List.length_append, hE1l, eightB_len]; decide) g
 rw [← hst u] at c2
 have hE2l := eightB_len (u : Int)
 generalize eightB (u : Int) = E2 at *
 clear hst
 have M : Mut n_3 := ⟨⟩
 by_cases huR : u = R
 ·subst huR
  have c3 := hZ
  generalize kst K nn u = T at *
  have hcs := And.intro c1 (And.intro c2 (And.intro c3 True.intro))
  clear c1 c2 c3 hY hZ
  refine Wk ?_
  refine go_resultW [(j, .loop l Nt r' s), (q, Rw u)] (by simp (disch := omega) [go_sem, *, -List.reduceReplicate]; rfl) rfl (fun id hid => ?_) (by simp) (by simp only [renF, List.map_cons, List.map_nil, hRr _ _ _ hn1]; rw [show Ent.ren (rn N k none) (.loop l Nt r' s) = .loop l Nt r' (fun t => (s t).ren (rn N k none)) from rfl, hsr _ _ hn1])
  simp only [wr_cons, wr_nil]
  by_cases i1 : id = j
  ·subst i1; simp (disch := omega) [go_sem, *]
  by_cases i2 : id = q
  ·subst i2; simp (disch := omega) [go_sem, *]
  simp (disch := omega) only [upd_ne]
  exact hlow id hid i1 i2
 ·have c3 := hY u (by omega)
  generalize kst K nn u = T at *
  have hcs := And.intro c1 (And.intro c2 (And.intro c3 True.intro))
  clear c1 c2 c3 hY hZ
  refine Wk ?_
  exact ⟨WS, WG, WN, _, (show R + 1 - (u + 1) < m_3 by omega), u + 1, rfl, WF, WF, WF, WC⟩
end
end Go.Proofs.YtdmjpolnbmoehaaGreatDoor

namespace Go.Proofs.YtdmjpolnbmoehaaGreatDoor
open Go.Ab
attribute [local irreducible] Go.Ab.tyAV Go.Ab.aw Go.Ab.aops Go.Ab.kReg Go.Ab.aThen Go.Ab.aBlk Go.Ab.acond Go.Ab.aguard Go.Ab.astep Go.Ab.AStepX Go.Ab.aRet
theorem CloneM_spec (b : List UInt8) (hl : b.length ≤ 140737488351232) (k : Nat) :
  ACall Tryz.prog 133 [.slice none (b.map byteAV)] k [] (.ms k 1 1 0 b.length) [(k, .mrow 1 5 1 (b.map byteAV))] := by
 cases b with
 | cons x r => exact CloneM_cons (x :: r) rfl hl k
 | nil =>
  refine ACall.empty fun A c => ?_
  cases A with
  | none => exact ACall.nilM (by decide) (Clone_nil c k)
  | some A => exact CloneM_empty A c k
end Go.Proofs.YtdmjpolnbmoehaaGreatDoor

namespace Go.Proofs.YtdmjpolnbmoehaaGreatDoor
open Go.Ab
attribute [local irreducible] Go.Ab.tyAV Go.Ab.aw Go.Ab.aops Go.Ab.kReg Go.Ab.aThen Go.Ab.aBlk Go.Ab.acond Go.Ab.aguard Go.Ab.astep Go.Ab.AStepX Go.Ab.aRet
attribute [local irreducible] shaG
section
variable [W : W32]
theorem cry_at {key : Tg} {nn : Int} {b P : List UInt8} (hP : P.length = b.length) (hAt : ∀ i (hi : i < b.length), P[i]'(by omega) = x8 b[i] ((kst key.1 nn (i / 32)).1[i % 32]'(by rw [(kst key.1 nn (i / 32)).2]; omega))) {u : Nat} :
  ∀ i (hi : i < b.length), u * 32 ≤ i → i < u * 32 + 32 → ∃ y, (kst key.1 nn u).1[i - u * 32]? = some y ∧ P[i]? = some (x8 b[i] y) := fun i hi h1 h2 => by
 have hq : i / 32 = u := by omega
 have hr : i % 32 = i - u * 32 := by omega
 have h := hAt i hi
 simp only [hq, hr] at h
 exact ⟨_, List.getElem?_eq_getElem (by rw [(kst key.1 nn u).2]; omega), by rw [List.getElem?_eq_getElem (by omega), h]⟩
end
section
variable [W : W32]
def cryE (N L : Nat) : Ent := .box 26 (.ms (N + 2 + 1) 1 1 0 L)
def cryR (P b : List UInt8) (u : Nat) : Ent := .mrow 1 5 1 ((mixN P b (min b.length (u * 32))).map byteAV)
omit W in
theorem cryR_ren (P b : List UInt8) (u : Nat) (f : Nat → Option Nat) : (cryR P b u).ren f = cryR P b u := by
 simp only [cryR, ent_ren_mrow, renl_bytes]
omit W in
theorem cryE_ne (N L : Nat) : cryE N L ≠ .none := by simp [cryE]
omit W in
theorem cryR_ne (P b : List UInt8) (u : Nat) : cryR P b u ≠ .none := by simp [cryR]
def cryS (N f : Nat) (key : Tg) (E1 b : List UInt8) : Slots := upd (upd (upd (upd (upd (upd (upd (upd (initS [tagAV key, .slice none (E1.map byteAV), .slice none (b.map byteAV)]) 3 (.ptr N [] 0)) 6 .nils) 11 (.slice none (b.map byteAV))) 12 (.ms (N + 2 + (0 + 1)) 1 1 0 b.length)) 7 (.ptr (N + 2 + 2) [] 0)) 13 (tagAV key)) 14 (.slice none (E1.map byteAV))) 15 (.fn f [.view (.slice none (E1.map byteAV)), .view (tagAV key)])
omit W in
theorem cryS_ren (N f : Nat) (key : Tg) (E1 b : List UInt8) (n0 kk : Nat) (h : N + 9 < n0) : (fun t => (cryS N f key E1 b t).ren (rn n0 kk none)) = cryS N f key E1 b := by
 unfold cryS
 have r0 : rn n0 kk none N = some N := rn_lt (by omega)
 have r1 : rn n0 kk none (N + 2 + (0 + 1)) = some (N + 2 + (0 + 1)) := rn_lt (by omega)
 have r2 : rn n0 kk none (N + 2 + 2) = some (N + 2 + 2) := rn_lt (by omega)
 refine ren_upd _ _ (ren_upd _ _ (ren_upd _ _ (ren_upd _ _ (ren_upd _ _ (ren_upd _ _ (ren_upd _ _ (ren_upd _ _ (ren_init ?_) ?_) ?_) ?_) ?_) ?_) ?_) ?_) ?_
 ·simp only [AV.renl, AV.ren, renl_bytes, Option.bind_none, tagAV_ren]
 ·simp only [AV.ren, r0]
 ·rfl
 ·simp only [AV.ren, renl_bytes, Option.bind_none]
 ·simp only [AV.ren, r1]
 ·simp only [AV.ren, r2]
 ·simp only [tagAV_ren]
 ·simp only [AV.ren, renl_bytes, Option.bind_none]
 ·simp only [AV.ren, AV.renl, renl_bytes, Option.bind_none, tagAV_ren]
set_option maxHeartbeats 4000000 in
theorem bCrypt_spec (key : Tg) (nn : Int) (b : List UInt8) (hb : b.length ≤ 100000) (g k : Nat) :
  ACall Tryz.prog 145 [tagAV key, .slice none ((eightB nn).map byteAV), .slice none (b.map byteAV)] k [(g, shaG)] (.slice none ((strmB key.1 nn b).map byteAV)) [] := by
 have c1 := CloneM_spec b (by omega)
 have c2 := bStream_spec key (eightB nn)
 have hP := strmB_len key.1 nn b
 have hat := strmB_at key.1 nn b
 generalize hPP : strmB key.1 nn b = P at *
 have hAt : ∀ i (hi : i < b.length), P[i]'(by omega) = x8 b[i] ((kst key.1 nn (i / 32)).1[i % 32]'(by rw [(kst key.1 nn (i / 32)).2]; omega)) := fun i hi => hat i hi _ _
 clear hat hPP
 have hm0 : cryR P b 0 = .mrow 1 5 1 (b.map byteAV) := by simp [cryR, mixN_0]
 have hmR : cryR P b ((b.length + 31) / 32) = .mrow 1 5 1 (P.map byteAV) := by
  unfold cryR
  rw [Nat.min_eq_left (by omega), mixN_all hP]
 obtain ⟨R, hRd⟩ : ∃ R, (b.length + 31) / 32 = R := ⟨_, rfl⟩
 rw [hRd] at hmR
 refine Bd Tryz.func145 Tryz.ntmps145 fun σ N hp hpn hk hkn hfree => ?_
 obtain ⟨hd, hdn⟩ := HD0 hp hpn; clear hp hpn
 have hcs := And.intro c1 (And.intro c2 True.intro)
 clear c1 c2
 refine Wk ?_
 clear hcs
 change aw _ _ _ _ ⟨cryS N 219 key (eightB nn) b, _, _⟩
 refine go_rangeFunc (.exit 0) (f := 219) (caps := [.view (.slice none ((eightB nn).map byteAV)), .view (tagAV key)]) (pre := [(N + 2 + 2, cryE N b.length), (N + 2 + 1, cryR P b 0), (g, shaG)])
  (post := [(N + 2 + 1, cryR P b R)]) (res := .tup []) (by unfold cryS; simp (disch := omega) [go_sem, *, -List.reduceReplicate]) (by rw [hm0]; unfold cryE; intro p hp; simp at hp; rcases hp with rfl | rfl | rfl <;> (simp (disch := omega) [go_sem, *, -List.reduceReplicate])) (by simp; omega) (by simp) ?_ ?_
 ·intro l r hst hpe hps hA hB
  refine ⟨.done, by simp, ?_⟩
  refine bStream1_spec key nn R (by omega) l 47 r { r with state := .done, pending := jumpOf (.exit 0) } (cryS N 219 key (eightB nn) b) (cryE N b.length) (fun u => cryR P b u) g (N + 2 + 2) (N + 2 + 1) (N + 9 + 1) (N + 9 + 2) (by omega) (by omega) (by omega) (cryE_ne _ _) (cryR_ne _ _ _) (fun u n0 kk h => cryR_ren _ _ _ _) (fun n0 kk h => cryS_ren _ _ _ _ _ _ _ (by omega)) ?_ ?_
  ·intro u hu kk
   have hu32 : u * 32 < b.length := by omega
   have hyl := AYield.of_body (P := Tryz.prog) (l := l) (N := 47) (r := r) (s := cryS N 219 key (eightB nn) b) (j := N + 9 + 1) (k := kk) (args := [.lit (.int .i64 ((u : Int) * 32)), tagAV (kst key.1 nn u)]) (pre := [(N + 2 + 2, cryE N b.length), (N + 2 + 1, cryR P b u)]) (ws := [(N + 2 + 1, cryR P b (u + 1))]) (post := [(N + 2 + 1, cryR P b (u + 1))])
    .normal mixed hst (ps := [16, 17]) (by rw [hps]) hA hB rfl (by simp) (by kernel_rfl) (by kernel_rfl) (by kernel_rfl) (by kernel_rfl) (by simp [cryE_ne, cryR_ne]) (by simp) (by simp) (by simp) ?_
   ·rw [endRec_normal hst hpe] at hyl
    exact hyl
   ·clear hA hB hm0 hmR hd hdn hk hkn hfree
    obtain ⟨N0, hN0⟩ : ∃ N0, N0 = N := ⟨N, rfl⟩
    subst hN0
    intro σ N hp hpn hj hjn hk hkn hfree
    simp only [List.mem_cons, List.not_mem_nil, or_false, forall_eq_or_imp, forall_eq] at hp hpn
    obtain ⟨e1, e2⟩ := hp
    obtain ⟨n1, n2⟩ := hpn
    refine ⟨by simp only [renF, List.map_cons, List.map_nil, cryR_ren], ?_⟩
    have hT := cry_at hP hAt (u := u)
    have hTl := (kst key.1 nn u).2
    generalize kst key.1 nn u = T at *
    obtain ⟨T, hT32⟩ := T
    simp only at hT hTl
    have hTA : tagAV ⟨T, hT32⟩ = .agg (T.map byteAV) := rfl
    have hs1 := tagAV_sz ⟨T, hT32⟩
    have hs2 := tagAV_cell ⟨T, hT32⟩
    rw [hTA] at hs1 hs2 ⊢
    clear hTA hAt
    have ha : (u : Int) * 32 = ((u * 32 : Nat) : Int) := by omega
    rw [ha]
    clear ha
    unfold cryE cryR at *
    rw [Nat.min_eq_right (Nat.le_of_lt hu32)] at e2
    obtain ⟨e, he⟩ : ∃ e, min b.length ((u + 1) * 32) = e := ⟨_, rfl⟩
    rw [he]
    have he1 : u * 32 ≤ e := by omega
    have he2 : e ≤ b.length := by omega
    have he3 : e ≤ u * 32 + 32 := by omega
    have he4 : e < b.length → e = u * 32 + 32 := by omega
    clear he
    generalize u * 32 = a at *
    have hage : ¬ ((b.length : Int) ≤ (a : Int)) := by omega
    unfold cryS sputs sputs sputs at *
    refine Wk ?_
    refine ⟨rfl, by simp (disch := omega) [go_sem, *, -List.reduceReplicate], ?_⟩
    refine Wk ?_
    obtain ⟨C0, hC0⟩ : ∃ c, mixN P b a = c := ⟨_, rfl⟩
    rw [hC0] at e2
    refine go_loopB (N + 3) mixed (by kernel_rfl) [10, 23, 24, 25, 26, 27, 28, 29, 30, 31, 32, 33, 34, 35, 36, 37, 38, 39, 40, 41, 42, 43, 44, 45] [N0 + 2 + 1] (fun m_ s_ σ_ n_ => ∃ (i : Nat) (cur : List UInt8), m_ = e - i ∧ s_ 10 = .lit (.int .i64 i) ∧ σ_ (N0 + 2 + 1) = .mrow 1 5 1 (cur.map byteAV) ∧ (a ≤ i) ∧ (i ≤ e) ∧ (mixN P b i = cur)) ⟨_, a, C0, rfl, WF, WF, WC, WC, WC⟩ ?_
    intro m_1 s_1 σ_1 n_1 hs_1 hf_1 hn_1 hI_1
    obtain ⟨i, cur, hm_1, h1_10, e1_0, hi1, hi2, hc⟩ := hI_1
    have h1_6 := KS hs_1 6
    have h1_7 := KS hs_1 7
    have h1_8 := KS hs_1 8
    have h1_9 := KS hs_1 9
    have k1_0 := KE hf_1 (N0 + 2 + 2)
    have k1_1 := KE hf_1 (N0 + 9 + 1)
    have k1_2 := KE hf_1 (N + 1 + 0)
    have hlow : ∀ id, id < N → id ≠ N0 + 2 + 1 → id ≠ N0 + 9 + 1 → σ_1 id = σ id := fun id hid hdd0 hdd1 => (hf_1.at id (by omega) (by simp [hdd0]; try omega)).trans (by simp (disch := omega) only [upd_ne]; try first | exact hlow id hid hdd0 hdd1 | exact hlow id hid)
    by_cases hie : i = e
    ·subst hie
     rw [hc]
     have hend : (i : Int) < (b.length : Int) → ¬ ((i : Int) < (a : Int) + 32) := fun h => by have := he4 (by omega); omega
     by_cases hib : i = b.length
     ·have hib1 : ¬ ((i : Int) < (b.length : Int)) := by omega
      clear hT hend
      refine Wk ?_
      refine ⟨rfl, fun id hid => ?_⟩
      simp only [wr_cons, wr_nil]
      by_cases i1 : id = N0 + 2 + 1
      ·subst i1; simp (disch := omega) [go_sem, *]
      by_cases i2 : id = N0 + 9 + 1
      ·subst i2; simp (disch := omega) [go_sem, *]
      simp (disch := omega) only [upd_ne]
      exact hlow id hid i1 i2
     ·have hib1 : ((i : Int) < (b.length : Int)) := by omega
      have hib2 := hend hib1
      clear hT hend
      refine Wk ?_
      refine ⟨rfl, fun id hid => ?_⟩
      simp only [wr_cons, wr_nil]
      by_cases i1 : id = N0 + 2 + 1
      ·subst i1; simp (disch := omega) [go_sem, *]
      by_cases i2 : id = N0 + 9 + 1
      ·subst i2; simp (disch := omega) [go_sem, *]
      simp (disch := omega) only [upd_ne]
      exact hlow id hid i1 i2
    ·have hil : i < b.length := by omega
     have hib1 : ((i : Int) < (b.length : Int)) := by omega
     have hib2 : ((i : Int) < (a : Int) + 32) := by omega
     obtain ⟨y, hy, hPy⟩ := hT i hil hi1 (by omega)
     have hcl := mixN_len hP i (by omega)
     have ha0 := mixN_at hP i hil
     have hset0 := mixN_set hP i (by omega)
     rw [hc] at hcl ha0 hset0
     have hPi : P[i]'(by omega) = x8 b[i] y := by
      rw [List.getElem?_eq_getElem (by omega)] at hPy
      exact Option.some.inj hPy
     rw [hPi] at hset0
     obtain ⟨z, hz⟩ : ∃ z, b[i] = z := ⟨_, rfl⟩
     rw [List.getElem?_eq_getElem hil, hz] at ha0
     rw [hz] at hset0
     have hset := set_bytes cur i (x8 z y)
     rw [hset0] at hset
     have hx := x8_eq z y
     generalize x8 z y = v at *
     have hyb : byteAV y = .lit (.int .u8 y.toNat) := rfl
     have hzb : byteAV z = .lit (.int .u8 z.toNat) := rfl
     have hvb : byteAV v = .lit (.int .u8 v.toNat) := rfl
     rw [hvb] at hset
     generalize hc' : mixN P b (i + 1) = cn at *
     have hic : i < cur.length := by omega
     have hci : cur[i] = z := by rw [List.getElem?_eq_getElem hic] at ha0; exact Option.some.inj ha0
     obtain ⟨dd, hdd⟩ : ∃ dd : Nat, i - a = dd := ⟨_, rfl⟩
     rw [hdd] at hy
     have hsub : (i : Int) - (a : Int) = (dd : Int) := by omega
     have hdd32 : dd < 32 := by omega
     have hyT : T[dd]'(by omega) = y := by rw [List.getElem?_eq_getElem (by omega)] at hy; exact Option.some.inj hy
     clear hy ha0
     clear hT hPi hPy hdd hset0 hz hc
     refine Wk ?_
     exact ⟨WS, WG, WN, _, (show e - (i + 1) < m_1 by omega), i + 1, cn, rfl, WF, WF, WC, WC, WC⟩
  ·intro kk
   have hR32 : b.length ≤ R * 32 := by omega
   have hyl := AYield.of_body (P := Tryz.prog) (l := l) (N := 47) (r := r) (s := cryS N 219 key (eightB nn) b) (j := N + 9 + 1) (k := kk) (args := [.lit (.int .i64 ((R : Int) * 32)), tagAV (kst key.1 nn R)]) (pre := [(N + 2 + 2, cryE N b.length), (N + 2 + 1, cryR P b R)]) (ws := [(N + 2 + 1, cryR P b R)]) (post := [(N + 2 + 1, cryR P b R)])
    (.exit 0) mixed hst (ps := [16, 17]) (by rw [hps]) hA hB rfl (by simp) (by kernel_rfl) (by kernel_rfl) (by kernel_rfl) (by kernel_rfl) (by simp [cryE_ne, cryR_ne]) (by simp) (by simp) (by simp) ?_
   ·exact hyl
   ·clear hA hB hm0 hmR hd hdn hk hkn hfree
    obtain ⟨N0, hN0⟩ : ∃ N0, N0 = N := ⟨N, rfl⟩
    subst hN0
    intro σ N hp hpn hj hjn hk hkn hfree
    simp only [List.mem_cons, List.not_mem_nil, or_false, forall_eq_or_imp, forall_eq] at hp hpn
    obtain ⟨e1, e2⟩ := hp
    obtain ⟨n1, n2⟩ := hpn
    refine ⟨by simp only [renF, List.map_cons, List.map_nil, cryR_ren], ?_⟩
    generalize kst key.1 nn R = T at *
    have ha : (R : Int) * 32 = ((R * 32 : Nat) : Int) := by omega
    rw [ha]
    clear ha
    unfold cryE cryR at *
    rw [Nat.min_eq_left hR32] at e2 ⊢
    generalize R * 32 = a at *
    have hage : (b.length : Int) ≤ (a : Int) := by omega
    unfold cryS sputs sputs sputs at *
    refine Wk ?_
    refine ⟨rfl, by simp (disch := omega) [go_sem, *, -List.reduceReplicate], ?_⟩
    refine Wk ?_
    refine ⟨rfl, fun id hid => ?_⟩
    simp only [wr_cons, wr_nil]
    by_cases i1 : id = N0 + 2 + 1
    ·subst i1; simp (disch := omega) [go_sem, *]
    by_cases i2 : id = N0 + 9 + 1
    ·subst i2; simp (disch := omega) [go_sem, *]
    simp (disch := omega) only [upd_ne]
 ·intro l r
  rw [hmR]
  unfold cryS
  apply go_blk_here
  apply go_then
  refine go_freezeIn (N + 2 + 2) [] (r := N + 2 + 1) (ver := 1) (size := 1) (e := 5) (bt := 26) (c := .ms (N + 2 + 1) 1 1 0 b.length) (xs := P.map byteAV) (k := b.length) (by simp (disch := omega) [go_sem, *, -List.reduceReplicate]) (by simp (disch := omega) [go_sem, *, -List.reduceReplicate]) rfl (by rw [List.length_map, hP]) ?_
  exact WM
end

section
variable [W : W32]
theorem mNode_node (a : Alg) (key : Tg) (msg : List UInt8) : nodeS a key msg = if (mNode a 0 key msg).2.1 = 0 then ((mNode a 0 key msg).1, (mNode a 0 key msg).2.2, 0) else (alg0, zeroTag, (mNode a 0 key msg).2.1) := by
 by_cases h : (macS a key msg).2.2 = 0
 ·have h1 : mMac a 0 key msg = ((macS a key msg).1, 0, (macS a key msg).2.1) := by unfold mMac; rw [if_neg (by simp), if_pos h]
  by_cases h' : (macS (macS a key msg).1 (macS a key msg).2.1 nodeB).2.2 = 0
  ·have h2 : mNode a 0 key msg = ((macS (macS a key msg).1 (macS a key msg).2.1 nodeB).1, 0, (macS a key msg).2.1) := by unfold mNode; rw [h1]; simp only; unfold mMac; rw [if_neg (by simp), if_pos h']
   rw [nodeS_3 h h', h2]; simp
  ·have h2 : (mNode a 0 key msg).2.1 = (macS (macS a key msg).1 (macS a key msg).2.1 nodeB).2.2 := by unfold mNode; rw [h1]; simp only; unfold mMac; rw [if_neg (by simp), if_neg h']
   rw [nodeS_2 h h', h2, if_neg h']
 ·have h1 : mMac a 0 key msg = (a, (macS a key msg).2.2, zeroTag) := by unfold mMac; rw [if_neg (by simp), if_neg h]
  have h2 : mNode a 0 key msg = (a, (macS a key msg).2.2, zeroTag) := by unfold mNode; rw [h1]; simp only; rw [mMac_err h]
  rw [nodeS_1 h, h2, if_neg h]
end

section
variable [W : W32]
theorem hDerive_spec (seed : Tg) (n : Nat) (hn : n ≤ 1000000000) (g k : Nat) :
  ACall Tryz.prog 187 [tagAV seed, .lit (.string ⟨#[102, 114, 101, 115, 104]⟩), .lit (.int .i64 n)] k [(g, shaG)] (.tup [tagAV (derT seed n), .lit (.int .i64 0)]) [] := by
 have c1 := label_fresh
 have e7 := sh8_wrap (n : Int) 56
 have e6 := sh8_wrap (n : Int) 48
 have e5 := sh8_wrap (n : Int) 40
 have e4 := sh8_wrap (n : Int) 32
 have e3 := sh8_wrap (n : Int) 24
 have e2 := sh8_wrap (n : Int) 16
 have e1 := sh8_wrap (n : Int) 8
 have e0 := sh8_wrap (n : Int) 0
 simp only [Int.reducePow, Int.pow_zero, Int.fdiv_one] at e7 e6 e5 e4 e3 e2 e1 e0
 unfold derT
 have c2 := hmacOf_spec seed.1 ([102, 114, 101, 115, 104, 0] ++ eightB n) (by rw [seed.2]; decide) (by simp) (by simp [eightB]) g
 generalize hmacT seed.1 ([102, 114, 101, 115, 104, 0] ++ eightB n) = T at *
 have h0n : (0 : Int) ≤ (n : Int) := by omega
 have hnn : ¬ ((n : Int) < 0) := by omega
 have hnm : ¬ ((281474976710656 : Int) < (n : Int)) := by omega
 unfold eightB at c2
 generalize sh8 (n : Int) 56 = b7 at *
 generalize sh8 (n : Int) 48 = b6 at *
 generalize sh8 (n : Int) 40 = b5 at *
 generalize sh8 (n : Int) 32 = b4 at *
 generalize sh8 (n : Int) 24 = b3 at *
 generalize sh8 (n : Int) 16 = b2 at *
 generalize sh8 (n : Int) 8 = b1 at *
 generalize sh8 (n : Int) 0 = b0 at *
 have hs1 := tagAV_sz seed
 have hs2 := tagAV_cell seed
 obtain ⟨S, hS⟩ := seed
 have hkA : tagAV ⟨S, hS⟩ = .agg (S.map byteAV) := rfl
 simp only [hkA] at hs1 hs2 c2 ⊢
 clear hkA
 have htk : (S.map byteAV).take 32 = S.map byteAV := List.take_of_length_le (by rw [List.length_map]; omega)
 have h102 : byteAV 102 = .lit (.int .u8 102) := rfl
 have h114 : byteAV 114 = .lit (.int .u8 114) := rfl
 have h101 : byteAV 101 = .lit (.int .u8 101) := rfl
 have h115 : byteAV 115 = .lit (.int .u8 115) := rfl
 have h104 : byteAV 104 = .lit (.int .u8 104) := rfl
 have hz0 : byteAV 0 = .lit (.int .u8 0) := rfl
 have hb7 : byteAV b7 = .lit (.int .u8 b7.toNat) := rfl
 have hb6 : byteAV b6 = .lit (.int .u8 b6.toNat) := rfl
 have hb5 : byteAV b5 = .lit (.int .u8 b5.toNat) := rfl
 have hb4 : byteAV b4 = .lit (.int .u8 b4.toNat) := rfl
 have hb3 : byteAV b3 = .lit (.int .u8 b3.toNat) := rfl
 have hb2 : byteAV b2 = .lit (.int .u8 b2.toNat) := rfl
 have hb1 : byteAV b1 = .lit (.int .u8 b1.toNat) := rfl
 have hb0 : byteAV b0 = .lit (.int .u8 b0.toNat) := rfl
 refine Bd Tryz.func187 Tryz.ntmps187 fun σ N hp hpn hk hkn hfree => ?_
 obtain ⟨hd, hdn⟩ := HD0 hp hpn; clear hp hpn
 have hcs := And.intro c1 (And.intro c2 True.intro)
 clear c1 c2
 refine Wk ?_
 refine go_loopB (N + 2) mixed (by kernel_rfl) [8, 9, 25, 26, 27, 28, 29, 30, 31, 32, 33, 34, 35] [] (fun m_ s_ σ_ n_ => ∃ (u : Nat) (q : Nat) (acc : List UInt8), m_ = 8 - u ∧ s_ 9 = .lit (.int .i64 (56 - 8 * (u : Int))) ∧ s_ 8 = .slice (some q) (acc.map byteAV) ∧ σ_ (N) = .box 29 (.agg (S.map byteAV)) ∧ σ_ (N+1) = .box 29 (tagAV zeroTag) ∧ σ_ (q) = .row 5 1 acc.length ∧ (u ≤ 8) ∧ (N + 2 ≤ q) ∧ (q < n_) ∧ (acc = [102, 114, 101, 115, 104, 0] ++ [b7, b6, b5, b4, b3, b2, b1, b0].take u)) ⟨_, 0, _, [102, 114, 101, 115, 104, 0], rfl, WF, WF, WF, WF, WF, WC, WC, WC, WC⟩ ?_
 intro m_1 s_1 σ_1 n_1 hs_1 hf_1 hn_1 hI_1
 obtain ⟨u, q, acc, hm_1, h1_9, h1_8, e1_0, e1_1, e1_2, hu, hq, hqn, hacc⟩ := hI_1
 have h1_2 := KS hs_1 2
 have h1_3 := KS hs_1 3
 have h1_6 := KS hs_1 6
 have h1_7 := KS hs_1 7
 have k1_0 := KE hf_1 (g)
 have hlow := KL (N := N) (σ := σ) hf_1
 have hcase : u = 0 ∨ u = 1 ∨ u = 2 ∨ u = 3 ∨ u = 4 ∨ u = 5 ∨ u = 6 ∨ u = 7 ∨ u = 8 := by omega
 rcases hcase with rfl | hcase
 ·simp only [List.take_zero, List.append_nil] at hacc
  subst hacc
  refine Wk ?_
  exact ⟨WS, WG, WN, _, (show 8 - (1) < m_1 by omega), 1, q, [102, 114, 101, 115, 104, 0, b7], rfl, WF, WF, WF, WF, WF, WC, WC, WC, WC⟩
 rcases hcase with rfl | hcase
 ·simp only [List.take_succ_cons, List.take_zero, List.cons_append, List.nil_append] at hacc
  subst hacc
  refine Wk ?_
  exact ⟨WS, WG, WN, _, (show 8 - (2) < m_1 by omega), 2, q, [102, 114, 101, 115, 104, 0, b7, b6], rfl, WF, WF, WF, WF, WF, WC, WC, WC, WC⟩
 rcases hcase with rfl | hcase
 ·simp only [List.take_succ_cons, List.take_zero, List.cons_append, List.nil_append] at hacc
  subst hacc
  refine Wk ?_
  exact ⟨WS, WG, WN, _, (show 8 - (3) < m_1 by omega), 3, q, [102, 114, 101, 115, 104, 0, b7, b6, b5], rfl, WF, WF, WF, WF, WF, WC, WC, WC, WC⟩
 rcases hcase with rfl | hcase
 ·simp only [List.take_succ_cons, List.take_zero, List.cons_append, List.nil_append] at hacc
  subst hacc
  refine Wk ?_
  exact ⟨WS, WG, WN, _, (show 8 - (4) < m_1 by omega), 4, q, [102, 114, 101, 115, 104, 0, b7, b6, b5, b4], rfl, WF, WF, WF, WF, WF, WC, WC, WC, WC⟩
 rcases hcase with rfl | hcase
 ·simp only [List.take_succ_cons, List.take_zero, List.cons_append, List.nil_append] at hacc
  subst hacc
  refine Wk ?_
  exact ⟨WS, WG, WN, _, (show 8 - (5) < m_1 by omega), 5, q, [102, 114, 101, 115, 104, 0, b7, b6, b5, b4, b3], rfl, WF, WF, WF, WF, WF, WC, WC, WC, WC⟩
 rcases hcase with rfl | hcase
 ·simp only [List.take_succ_cons, List.take_zero, List.cons_append, List.nil_append] at hacc
  subst hacc
  refine Wk ?_
  exact ⟨WS, WG, WN, _, (show 8 - (6) < m_1 by omega), 6, q, [102, 114, 101, 115, 104, 0, b7, b6, b5, b4, b3, b2], rfl, WF, WF, WF, WF, WF, WC, WC, WC, WC⟩
 rcases hcase with rfl | hcase
 ·simp only [List.take_succ_cons, List.take_zero, List.cons_append, List.nil_append] at hacc
  subst hacc
  refine Wk ?_
  exact ⟨WS, WG, WN, _, (show 8 - (7) < m_1 by omega), 7, q, [102, 114, 101, 115, 104, 0, b7, b6, b5, b4, b3, b2, b1], rfl, WF, WF, WF, WF, WF, WC, WC, WC, WC⟩
 rcases hcase with rfl | hcase
 ·simp only [List.take_succ_cons, List.take_zero, List.cons_append, List.nil_append] at hacc
  subst hacc
  refine Wk ?_
  exact ⟨WS, WG, WN, _, (show 8 - (8) < m_1 by omega), 8, q, [102, 114, 101, 115, 104, 0, b7, b6, b5, b4, b3, b2, b1, b0], rfl, WF, WF, WF, WF, WF, WC, WC, WC, WC⟩
 subst hcase
 simp only [List.take_succ_cons, List.take_zero, List.cons_append, List.nil_append] at hacc
 subst hacc
 replace hcs := hcs.2
 exact W0
def mKey (a : Alg) (e : Nat) : Alg × Nat × Tg :=
 if e ≠ 0 then (a, e, zeroTag) else if (keyS a).2.2 = 0 then ((keyS a).1, 0, (keyS a).2.1) else (a, (keyS a).2.2, zeroTag)
end
def bI (key : Tg) (nonce : Int) (plain : List UInt8) : List BoxE → Nat → Int
 | [], _ => -1
 | e :: r, u => if e.key = key ∧ e.nonce = nonce ∧ e.plain = plain then u else bI key nonce plain r (u + 1)
theorem bI_none {key : Tg} {nonce : Int} {plain : List UInt8} : ∀ (L : List BoxE) (u : Nat), boxL key nonce plain L = none → bI key nonce plain L u = -1
 | [], _, _ => rfl
 | e :: r, u, h => by
  rw [boxL] at h
  split at h
  ·cases h
  ·rename_i hn
   rw [bI, if_neg hn]
   exact bI_none r _ h
theorem bI_some {key : Tg} {nonce : Int} {plain t : List UInt8} : ∀ (L : List BoxE) (u : Nat), boxL key nonce plain L = some t → ∃ (i : Nat) (h : i < L.length), bI key nonce plain L u = ((u + i : Nat) : Int) ∧ (L[i]).box = t
 | [], _, h => by cases h
 | e :: r, u, h => by
  rw [boxL] at h
  split at h
  ·rename_i hc
   injection h with h
   exact ⟨0, by simp, by rw [bI, if_pos hc, Nat.add_zero], h⟩
  ·rename_i hn
   obtain ⟨i, hi, h1, h2⟩ := bI_some r (u + 1) h
   exact ⟨i + 1, by simp; omega, by rw [bI, if_neg hn, h1]; congr 1; omega, h2⟩
theorem box1_spec (e : BoxE) (key : Tg) (nonce : Int) (plain : List UInt8) (he : e.plain.length ≤ 100000) (hm : plain.length ≤ 1000000) (k : Nat) :
  ACall Tryz.prog 215 [sealAV e, .view (tagAV key), .view (.lit (.int .i64 nonce)), .view (.slice none (plain.map byteAV))] k [] (.lit (.bool (decide (e.key = key ∧ e.nonce = nonce ∧ e.plain = plain)))) [] := by
 obtain ⟨zk, zn, zp, zb⟩ := e
 simp only at he ⊢
 have c1 := Equal_spec zp plain (by omega) (by omega)
 have hzd : sealAV ⟨zk, zn, zp, zb⟩ = .agg [tagAV zk, .lit (.int .i64 zn), bAV zp, bAV zb] := rfl
 have hzb := bAV_def zp
 by_cases h1 : zk = key
 ·have d1 : decide (zk = key) = true := decide_eq_true h1
  by_cases h3 : zn = nonce
  ·have d3 : decide (zn = nonce) = true := decide_eq_true h3
   have d3' : (zn == nonce) = true := by simp [h3]
   by_cases h2 : zp = plain
   ·have d2 : decide (zp = plain) = true := decide_eq_true h2
    rw [decide_eq_true (show zk = key ∧ zn = nonce ∧ zp = plain from ⟨h1, h3, h2⟩)]
    rw [d2] at c1
    refine Bd Tryz.func215 Tryz.ntmps215 fun σ N hp hpn hk hkn hfree => ?_
    have hcs := And.intro c1 True.intro
    clear c1 h1 h2 d2 h3
    exact W0
   ·have d2 : decide (zp = plain) = false := decide_eq_false h2
    rw [decide_eq_false (show ¬ (zk = key ∧ zn = nonce ∧ zp = plain) from fun h => h2 h.2.2)]
    rw [d2] at c1
    refine Bd Tryz.func215 Tryz.ntmps215 fun σ N hp hpn hk hkn hfree => ?_
    have hcs := And.intro c1 True.intro
    clear c1 h1 h2 d2 h3
    exact W0
  ·have d3 : decide (zn = nonce) = false := decide_eq_false h3
   have d3' : (zn == nonce) = false := by simp [h3]
   rw [decide_eq_false (show ¬ (zk = key ∧ zn = nonce ∧ zp = plain) from fun h => h3 h.2.1)]
   refine Bd Tryz.func215 Tryz.ntmps215 fun σ N hp hpn hk hkn hfree => ?_
   clear c1 h1 h3
   exact W0
 ·have d1 : decide (zk = key) = false := decide_eq_false h1
  rw [decide_eq_false (show ¬ (zk = key ∧ zn = nonce ∧ zp = plain) from fun h => h1 h.1)]
  refine Bd Tryz.func215 Tryz.ntmps215 fun σ N hp hpn hk hkn hfree => ?_
  clear c1 h1
  exact W0
theorem IndexB_spec (L : List BoxE) (key : Tg) (nonce : Int) (plain : List UInt8) (hl : L.length ≤ 1000000) (hm : ∀ e ∈ L, e.plain.length ≤ 100000 ∧ e.box.length ≤ 100000) (hp0 : plain.length ≤ 1000000) (k : Nat) :
  ACall Tryz.prog 214 [.slice none (L.map sealAV), .fn 215 [.view (tagAV key), .view (.lit (.int .i64 nonce)), .view (.slice none (plain.map byteAV))]] k [] (.lit (.int .i64 (bI key nonce plain L 0))) [] := by
 obtain ⟨R, hR⟩ : ∃ R, bI key nonce plain L 0 = R := ⟨_, rfl⟩
 rw [hR]
 have hdr : L.drop 0 = L := rfl
 refine Bd Tryz.func214 Tryz.ntmps214 fun σ N hp hpn hk hkn hfree => ?_
 refine Wk ?_
 refine go_loopF mixed (by kernel_rfl) [4, 5, 8, 9, 10, 11, 12, 13, 14, 15, 16, 17, 18] [] (fun m_ s_ σ_ n_ => ∃ (u : Nat), m_ = L.length - u ∧ s_ 8 = .lit (.int .i64 u) ∧ (u ≤ L.length) ∧ (bI key nonce plain (L.drop u) u = R)) ⟨_, 0, rfl, WF, WC, WC⟩ ?_
 intro m_2 s_2 σ_2 n_2 hs_2 hf_2 hn_2 hI_2
 obtain ⟨u, hm_2, h2_8, hu, hno⟩ := hI_2
 have h2_0 := KS hs_2 0
 have h2_1 := KS hs_2 1
 have h2_7 := KS hs_2 7
 have hlow := KL (N := N) (σ := σ) hf_2
 clear hR hdr
 by_cases hul : u = L.length
 ·subst hul
  rw [List.drop_length] at hno
  simp only [bI] at hno
  subst hno
  clear hm
  exact W0
 ·have hu1 : u < L.length := by omega
  rw [List.drop_eq_getElem_cons hu1, bI] at hno
  have hmz := (hm _ (List.getElem_mem hu1)).1
  obtain ⟨z, hz⟩ : ∃ z, L[u] = z := ⟨_, rfl⟩
  rw [hz] at hno hmz
  have c1 := box1_spec z key nonce plain hmz hp0
  by_cases hc : z.key = key ∧ z.nonce = nonce ∧ z.plain = plain
  ·rw [if_pos hc] at hno
   subst hno
   rw [decide_eq_true hc] at c1
   have hcs := And.intro c1 True.intro
   clear c1 hm hc hmz
   exact W0
  ·rw [if_neg hc] at hno
   rw [decide_eq_false hc] at c1
   have hcs := And.intro c1 True.intro
   clear c1 hm hc hmz
   refine Wk ?_
   exact ⟨WS, WG, WN, _, (show L.length - (u + 1) < m_2 by omega), u + 1, rfl, WF, WC, WC⟩
section
variable [W : W32]
theorem bInto1_spec (key : Tg) (nn : Int) (plain : List UInt8) (hp0 : plain.length ≤ 10000) (g k : Nat) :
  ACall Tryz.prog 185 [.view (.lit (.int .i64 nn)), .view (tagAV key), .view (.slice none (plain.map byteAV))] k [(g, shaG)] (.slice none ((sealB key.1 nn plain).map byteAV)) [] := by
 have c1 := bNumber_row nn
 have c2 := bCrypt_spec key nn plain (by omega) g
 have hE := eightB_len nn
 have hS := strmB_len key.1 nn plain
 have c3 := bCheck_spec key (eightB nn ++ strmB key.1 nn plain) (by rw [List.length_append, hE, hS]; omega) g
 unfold sealB
 generalize hmacT key.1 ([98, 111, 120] ++ (eightB nn ++ strmB key.1 nn plain)) = T at *
 generalize eightB nn = E at *
 generalize strmB key.1 nn plain = S at *
 have hbm : E.map byteAV ++ S.map byteAV = (E ++ S).map byteAV := by rw [List.map_append]
 have hbl : E.length + S.length = (E ++ S).length := by rw [List.length_append]
 have hbs : (E ++ S).length ≤ 20000 := by rw [List.length_append]; omega
 generalize E ++ S = b0 at *
 have ht1 := tagAV_sz T
 have ht2 := tagAV_cell T
 obtain ⟨T, hT⟩ := T
 have htA : tagAV ⟨T, hT⟩ = .agg (T.map byteAV) := rfl
 simp only [htA] at c3 ht1 ht2 ⊢
 clear htA
 have htk2 : (T.map byteAV).take 32 = T.map byteAV := List.take_of_length_le (by rw [List.length_map]; omega)
 have hbbm : b0.map byteAV ++ T.map byteAV = (b0 ++ T).map byteAV := by rw [List.map_append]
 generalize b0 ++ T = bb at *
 refine Bd Tryz.func185 Tryz.ntmps185 fun σ N hp hpn hk hkn hfree => ?_
 obtain ⟨hd, hdn⟩ := HD0 hp hpn; clear hp hpn
 have hcs := And.intro c1 (And.intro c2 (And.intro c3 True.intro))
 clear c1 c2 c3
 exact WM
end

section
variable [W : W32]
set_option maxHeartbeats 2000000 in
theorem mKey_spec (a : Alg) (e : Nat) (h0 : 0 ≤ a.fresh) (hlm : a.fresh ≤ 1000000) (d r1 r2 g k : Nat) :
  ACall Tryz.prog 136 [.ptr d [] 0] k (makE a e d r1 r2 ++ [(g, shaG)]) (tagAV (mKey a e).2.2) [(d, makB (mKey a e).1 (mKey a e).2.1 r1 r2)] := by
 obtain ⟨fr, sd, fs, L, B⟩ := a
 simp only at h0 hlm
 obtain ⟨n, rfl⟩ := Int.eq_ofNat_of_zero_le h0
 unfold makE
 simp only [List.cons_append, List.nil_append]
 have c1 := Fail_spec ⟨fr, sd, (n : Int), L, B⟩ e 2
 unfold makE at c1
 have e02 : ((2 : Nat) : Int) = 2 := rfl
 by_cases he0 : e = 0
 ·subst he0
  rw [if_pos rfl] at c1
  by_cases h1 : (65536 : Int) ≤ (n : Int)
  ·have hm : mKey ⟨fr, sd, (n : Int), L, B⟩ 0 = (⟨fr, sd, (n : Int), L, B⟩, 2, zeroTag) := by unfold mKey keyS; rw [if_pos h1]; rfl
   rw [hm]
   simp only [makAV_eq, rowM_eq, rowB_eq, e02] at *
   refine Bd Tryz.func136 Tryz.ntmps136 fun σ N hp hpn hk hkn hfree => ?_
   simp only [List.mem_cons, List.not_mem_nil, or_false, forall_eq_or_imp, forall_eq] at hp hpn; obtain ⟨hd1, hd2, hd3, hd4⟩ := hp; obtain ⟨hdn1, hdn2, hdn3, hdn4⟩ := hpn
   have hcs := And.intro (c1 d r1 r2) True.intro
   clear c1 hm
   refine Wk ?_
   exact RW (d) ((.box 203 (.agg [.agg [.lit (.bool fr), tagAV sd, .lit (.int .i64 n), .slice (some r1) (L.map macAV), .slice (some r2) (B.map sealAV)], .lit (.int .i64 2)])))
  ·have hm : mKey ⟨fr, sd, (n : Int), L, B⟩ 0 = (⟨fr, sd, (n : Int) + 1, L, B⟩, 0, if fr then symT 107 ((n : Int) + 1) else derT sd ((n : Int) + 1)) := by unfold mKey keyS; rw [if_neg h1]; rfl
   rw [hm]
   have hn1 : (n : Int) + 1 = ((n + 1 : Nat) : Int) := by omega
   cases fr with
   | true =>
    have c2 := pSymbol_spec 107 (n + 1) (by omega)
    have e107 : ((107 : UInt8).toNat : Int) = 107 := rfl
    rw [e107, ← hn1] at c2
    simp only [if_true]
    generalize symT 107 ((n : Int) + 1) = T at *
    clear c1 hm hn1 e107
    simp only [makAV_eq, rowM_eq, rowB_eq] at *
    refine Bd Tryz.func136 Tryz.ntmps136 fun σ N hp hpn hk hkn hfree => ?_
    simp only [List.mem_cons, List.not_mem_nil, or_false, forall_eq_or_imp, forall_eq] at hp hpn; obtain ⟨hd1, hd2, hd3, hd4⟩ := hp; obtain ⟨hdn1, hdn2, hdn3, hdn4⟩ := hpn
    have hcs := And.intro c2 True.intro
    clear c2
    refine Wk ?_
    exact RW (d) ((.box 203 (.agg [.agg [.lit (.bool true), tagAV sd, .lit (.int .i64 ((n : Int) + 1)), .slice (some r1) (L.map macAV), .slice (some r2) (B.map sealAV)], .lit (.int .i64 0)])))
   | false =>
    have c2 := hDerive_spec sd (n + 1) (by omega) g
    have cf := Fail_spec ⟨false, sd, (n : Int) + 1, L, B⟩ 0 0
    rw [if_pos rfl] at cf
    unfold makE at cf
    rw [← hn1] at c2
    simp only [Bool.false_eq_true, if_false]
    generalize derT sd ((n : Int) + 1) = T at *
    have e00 : ((0 : Nat) : Int) = 0 := rfl
    clear c1 hm hn1
    simp only [makAV_eq, rowM_eq, rowB_eq, e00] at *
    refine Bd Tryz.func136 Tryz.ntmps136 fun σ N hp hpn hk hkn hfree => ?_
    simp only [List.mem_cons, List.not_mem_nil, or_false, forall_eq_or_imp, forall_eq] at hp hpn; obtain ⟨hd1, hd2, hd3, hd4⟩ := hp; obtain ⟨hdn1, hdn2, hdn3, hdn4⟩ := hpn
    have hne : d ≠ r1 := by rintro rfl; rw [hd1] at hd2; cases hd2
    have hne3 : d ≠ r2 := by rintro rfl; rw [hd1] at hd3; cases hd3
    have hneg : g ≠ d := by rintro rfl; rw [hd4] at hd1; exact shaG_nbox hd1
    have hcs := And.intro c2 (And.intro (cf d r1 r2) True.intro)
    clear c2 cf
    refine Wk ?_
    exact RW (d) ((.box 203 (.agg [.agg [.lit (.bool false), tagAV sd, .lit (.int .i64 ((n : Int) + 1)), .slice (some r1) (L.map macAV), .slice (some r2) (B.map sealAV)], .lit (.int .i64 0)])))
 ·have hm : mKey ⟨fr, sd, (n : Int), L, B⟩ e = (⟨fr, sd, (n : Int), L, B⟩, e, zeroTag) := by unfold mKey; rw [if_pos he0]
  rw [hm]
  rw [if_neg he0] at c1
  have hei : ((e : Int) != 0) = true := by simp; omega
  by_cases h1 : (65536 : Int) ≤ (n : Int)
  ·simp only [makAV_eq, rowM_eq, rowB_eq] at *
   refine Bd Tryz.func136 Tryz.ntmps136 fun σ N hp hpn hk hkn hfree => ?_
   simp only [List.mem_cons, List.not_mem_nil, or_false, forall_eq_or_imp, forall_eq] at hp hpn; obtain ⟨hd1, hd2, hd3, hd4⟩ := hp; obtain ⟨hdn1, hdn2, hdn3, hdn4⟩ := hpn
   have hcs := And.intro (c1 d r1 r2) True.intro
   clear c1 hm
   refine Wk ?_
   exact RW (d) ((.box 203 (.agg [.agg [.lit (.bool fr), tagAV sd, .lit (.int .i64 n), .slice (some r1) (L.map macAV), .slice (some r2) (B.map sealAV)], .lit (.int .i64 e)])))
  ·simp only [makAV_eq, rowM_eq, rowB_eq] at *
   refine Bd Tryz.func136 Tryz.ntmps136 fun σ N hp hpn hk hkn hfree => ?_
   simp only [List.mem_cons, List.not_mem_nil, or_false, forall_eq_or_imp, forall_eq] at hp hpn; obtain ⟨hd1, hd2, hd3, hd4⟩ := hp; obtain ⟨hdn1, hdn2, hdn3, hdn4⟩ := hpn
   clear c1 hm
   refine Wk ?_
   exact RW (d) ((.box 203 (.agg [.agg [.lit (.bool fr), tagAV sd, .lit (.int .i64 n), .slice (some r1) (L.map macAV), .slice (some r2) (B.map sealAV)], .lit (.int .i64 e)])))
def mBox (a : Alg) (e : Nat) (key : Tg) (nn : Int) (plain : List UInt8) : Alg × Nat × List UInt8 :=
 if e ≠ 0 then (a, e, []) else match boxL key nn plain a.boxes with
  | some b => (a, 0, b)
  | none => if 65536 ≤ a.boxes.length then (a, 2, []) else ({ a with boxes := a.boxes ++ [⟨key, nn, plain, sealN a key nn plain⟩] }, 0, sealN a key nn plain)
set_option maxHeartbeats 4000000 in
theorem mBox_spec (a : Alg) (e : Nat) (key : Tg) (nn : Int) (plain : List UInt8) (hl : a.boxes.length ≤ 1000000) (hm : ∀ x ∈ a.boxes, x.plain.length ≤ 100000 ∧ x.box.length ≤ 100000) (hp0 : plain.length ≤ 10000) (d r1 r2 g k : Nat) :
  ACall Tryz.prog 184 [.ptr d [] 0, tagAV key, .lit (.int .i64 nn), .slice none (plain.map byteAV), .fn 185 [.view (.lit (.int .i64 nn)), .view (tagAV key), .view (.slice none (plain.map byteAV))]] k (makE a e d r1 r2 ++ [(g, shaG)])
   (.slice none ((mBox a e key nn plain).2.2.map byteAV)) [(d, makB (mBox a e key nn plain).1 (mBox a e key nn plain).2.1 r1 r2), (r2, rowB (mBox a e key nn plain).1.boxes.length)] := by
 obtain ⟨fr, sd, fs, L, B⟩ := a
 simp only at hl hm
 unfold makE
 simp only [List.cons_append, List.nil_append]
 by_cases he0 : e = 0
 ·subst he0
  have c2 := IndexB_spec B key nn plain hl hm (by omega)
  cases he : boxL key nn plain B with
  | some t =>
   have hmb : mBox ⟨fr, sd, fs, L, B⟩ 0 key nn plain = (⟨fr, sd, fs, L, B⟩, 0, t) := by unfold mBox; simp only [he]; rfl
   rw [hmb]
   obtain ⟨i, hi, hfi, hti⟩ := bI_some B 0 he
   rw [hfi, Nat.zero_add] at c2
   have hbt : t.length ≤ 100000 := by rw [← hti]; exact (hm _ (List.getElem_mem hi)).2
   obtain ⟨z, hz⟩ : ∃ z, B[i] = z := ⟨_, rfl⟩
   rw [hz] at hti
   have hzm : (B.map sealAV)[i]? = some (sealAV z) := by rw [List.getElem?_map, List.getElem?_eq_getElem hi, hz]; rfl
   obtain ⟨zk, zn, zp, zb⟩ := z
   simp only at hti
   subst hti
   have hzd : sealAV ⟨zk, zn, zp, zb⟩ = .agg [tagAV zk, .lit (.int .i64 zn), bAV zp, bAV zb] := rfl
   have hzb := bAV_def zb
   have c3 := Clone_spec zb (by omega)
   simp only [makAV_eq, rowM_eq, rowB_eq] at *
   refine Bd Tryz.func184 Tryz.ntmps184 fun σ N hp hpn hk hkn hfree => ?_
   simp only [List.mem_cons, List.not_mem_nil, or_false, forall_eq_or_imp, forall_eq] at hp hpn; obtain ⟨hd1, hd2, hd3, hd4⟩ := hp; obtain ⟨hdn1, hdn2, hdn3, hdn4⟩ := hpn
   have hne : d ≠ r1 := by rintro rfl; rw [hd1] at hd2; cases hd2
   have hne3 : d ≠ r2 := by rintro rfl; rw [hd1] at hd3; cases hd3
   have hneg : g ≠ d := by rintro rfl; rw [hd4] at hd1; exact shaG_nbox hd1
   have hneg1 : g ≠ r2 := by rintro rfl; rw [hd4] at hd3; exact shaG_nrow hd3
   refine Wm ?_
   refine Wz ?_
   refine go_view 6 (id := N) (bt := 29) (x := tagAV key) (by simp (disch := omega) [go_sem, *, -List.reduceReplicate]) (by simp (disch := omega) [go_sem, *, -List.reduceReplicate]) ?_
   refine go_view 7 (id := N + 1) (bt := 3) (x := .lit (.int .i64 nn)) (by simp (disch := omega) [go_sem, *, -List.reduceReplicate]) (by simp (disch := omega) [go_sem, *, -List.reduceReplicate]) ?_
   refine go_view 8 (id := N + 2) (bt := 26) (x := .slice none (plain.map byteAV)) (by simp (disch := omega) [go_sem, *, -List.reduceReplicate]) (by simp (disch := omega) [go_sem, *, -List.reduceReplicate]) ?_
   have hcs := And.intro c2 (And.intro c3 True.intro)
   clear c2 c3 hm he hfi hmb
   refine Wk ?_
   refine go_resultWI [(d, (.box 203 (.agg [.agg [.lit (.bool fr), tagAV sd, .lit (.int .i64 fs), .slice (some r1) (L.map macAV), .slice (some r2) (B.map sealAV)], .lit (.int .i64 0)]))), (r2, (.row 151 35 B.length))] (by simp (disch := omega) [go_sem, *, -List.reduceReplicate]; rfl) (by first | exact AV.le_refl _ | ((first | apply AV.le_slices | apply AV.le_nilsE | apply AV.le_clipE); first | rfl | (simp (disch := omega) [go_sem, *, -List.reduceReplicate]; done)) | (apply AV.sub_tup; repeat' first | exact ALe.nil | exact AV.le_refl _ | apply ALe.cons | ((first | apply AV.le_slices | apply AV.le_nilsE | apply AV.le_clipE); first | rfl | (simp (disch := omega) [go_sem, *, -List.reduceReplicate]; done)))) (by first | rfl | (simp (disch := omega) [go_sem]; done) | (simp (disch := omega) [go_sem, *]; done) | simp (disch := omega) [go_sem]) (fun id hid => by simp only [wr_cons, wr_nil]; (by_cases hdd : id = d; (· (subst hdd; simp (disch := omega) [go_sem, *])); (· (by_cases hdd2 : id = r2; (· (subst hdd2; simp (disch := omega) [go_sem, *])); (· (simp (disch := omega) only [upd_ne]; try (first | exact hlow id hid hdd hdd2 | exact hlow id hid))))))) (by simp) (by simp (disch := omega) [go_sem, *])
  | none =>
   rw [bI_none B 0 he] at c2
   have c3 := pSymbol_spec 98 (B.length + 1) (by omega)
   have e98 : ((98 : UInt8).toNat : Int) = 98 := rfl
   have hn1 : ((B.length + 1 : Nat) : Int) = (B.length : Int) + 1 := by omega
   rw [e98, hn1] at c3
   by_cases hf : 65536 ≤ B.length
   ·have hmb : mBox ⟨fr, sd, fs, L, B⟩ 0 key nn plain = (⟨fr, sd, fs, L, B⟩, 2, []) := by unfold mBox; simp only [he, if_pos hf]; rfl
    rw [hmb]
    have hfi : (65536 : Int) < (B.length : Int) + 1 := by omega
    have c1 := Fail_spec ⟨fr, sd, fs, L, B⟩ 0 2
    rw [if_pos rfl] at c1
    unfold makE at c1
    have e02 : ((2 : Nat) : Int) = 2 := rfl
    clear c3 e98 hn1
    simp only [makAV_eq, rowM_eq, rowB_eq, e02] at *
    refine Bd Tryz.func184 Tryz.ntmps184 fun σ N hp hpn hk hkn hfree => ?_
    simp only [List.mem_cons, List.not_mem_nil, or_false, forall_eq_or_imp, forall_eq] at hp hpn; obtain ⟨hd1, hd2, hd3, hd4⟩ := hp; obtain ⟨hdn1, hdn2, hdn3, hdn4⟩ := hpn
    have hne : d ≠ r1 := by rintro rfl; rw [hd1] at hd2; cases hd2
    have hne3 : d ≠ r2 := by rintro rfl; rw [hd1] at hd3; cases hd3
    have hneg : g ≠ d := by rintro rfl; rw [hd4] at hd1; exact shaG_nbox hd1
    have hneg1 : g ≠ r2 := by rintro rfl; rw [hd4] at hd3; exact shaG_nrow hd3
    refine Wm ?_
    refine Wz ?_
    refine go_view 6 (id := N) (bt := 29) (x := tagAV key) (by simp (disch := omega) [go_sem, *, -List.reduceReplicate]) (by simp (disch := omega) [go_sem, *, -List.reduceReplicate]) ?_
    refine go_view 7 (id := N + 1) (bt := 3) (x := .lit (.int .i64 nn)) (by simp (disch := omega) [go_sem, *, -List.reduceReplicate]) (by simp (disch := omega) [go_sem, *, -List.reduceReplicate]) ?_
    refine go_view 8 (id := N + 2) (bt := 26) (x := .slice none (plain.map byteAV)) (by simp (disch := omega) [go_sem, *, -List.reduceReplicate]) (by simp (disch := omega) [go_sem, *, -List.reduceReplicate]) ?_
    have hcs := And.intro c2 (And.intro (c1 d r1 r2) True.intro)
    clear c1 c2 hm he hmb
    refine Wk ?_
    refine go_resultWI [(d, (.box 203 (.agg [.agg [.lit (.bool fr), tagAV sd, .lit (.int .i64 fs), .slice (some r1) (L.map macAV), .slice (some r2) (B.map sealAV)], .lit (.int .i64 2)]))), (r2, (.row 151 35 B.length))] (by simp (disch := omega) [go_sem, *, -List.reduceReplicate]; rfl) (by first | exact AV.le_refl _ | ((first | apply AV.le_slices | apply AV.le_nilsE | apply AV.le_clipE); first | rfl | (simp (disch := omega) [go_sem, *, -List.reduceReplicate]; done)) | (apply AV.sub_tup; repeat' first | exact ALe.nil | exact AV.le_refl _ | apply ALe.cons | ((first | apply AV.le_slices | apply AV.le_nilsE | apply AV.le_clipE); first | rfl | (simp (disch := omega) [go_sem, *, -List.reduceReplicate]; done)))) (by first | rfl | (simp (disch := omega) [go_sem]; done) | (simp (disch := omega) [go_sem, *]; done) | simp (disch := omega) [go_sem]) (fun id hid => by simp only [wr_cons, wr_nil]; (by_cases hdd : id = d; (· (subst hdd; simp (disch := omega) [go_sem, *])); (· (by_cases hdd2 : id = r2; (· (subst hdd2; simp (disch := omega) [go_sem, *])); (· (simp (disch := omega) only [upd_ne]; try (first | exact hlow id hid hdd hdd2 | exact hlow id hid))))))) (by simp) (by simp (disch := omega) [go_sem, *])
   ·have hfi : ¬ (65536 : Int) < (B.length : Int) + 1 := by omega
    have hb : (B.length + 1) * 88 ≤ 140737488355328 := by omega
    have hb0 : B.length * 88 ≤ 140737488355328 := by omega
    have hb1 : B.length ≤ 140737488355327 := by omega
    have hsl := sealN_len ⟨fr, sd, fs, L, B⟩ key nn plain
    obtain ⟨bb, hbb⟩ : ∃ bb, sealN ⟨fr, sd, fs, L, B⟩ key nn plain = bb := ⟨_, rfl⟩
    have hmb : mBox ⟨fr, sd, fs, L, B⟩ 0 key nn plain = (⟨fr, sd, fs, L, B ++ [⟨key, nn, plain, bb⟩]⟩, 0, bb) := by unfold mBox; simp only [he, if_neg hf, hbb]; rfl
    rw [hbb] at hsl
    rw [hmb]
    have hL2 : (B ++ [(⟨key, nn, plain, bb⟩ : BoxE)]).map sealAV = B.map sealAV ++ [.agg [tagAV key, .lit (.int .i64 nn), .slice none (plain.map byteAV), .slice none (bb.map byteAV)]] := by rw [List.map_append]; rfl
    have hL3 : (B ++ [(⟨key, nn, plain, bb⟩ : BoxE)]).length = B.length + 1 := by simp
    have c4 := bInto1_spec key nn plain (by omega) g
    have c5 := Clone_spec plain (by omega)
    have c6 := Clone_spec bb (by omega)
    have hbbT : fr = true → bb = (symT 98 ((B.length : Int) + 1)).1 ++ List.replicate (plain.length + 8) 0 := fun h => by subst h; rw [← hbb]; rfl
    have hbbF : fr = false → bb = sealB key.1 nn plain := fun h => by subst h; rw [← hbb]; rfl
    clear hbb
    generalize symT 98 ((B.length : Int) + 1) = T at *
    have ht1 := tagAV_sz T
    have ht2 := tagAV_cell T
    obtain ⟨pz, hpz⟩ : ∃ pz, T.1 ++ List.replicate (plain.length + 8) 0 = pz := ⟨_, rfl⟩
    have hpzm : T.1.map byteAV ++ List.replicate ((plain.length : Int) + 8).toNat (AV.lit (.int .u8 0)) = pz.map byteAV := by
     rw [← hpz, List.map_append, List.map_replicate, show ((plain.length : Int) + 8).toNat = plain.length + 8 by omega]; rfl
    have hpzl : 32 + ((plain.length : Int) + 8).toNat = pz.length := by rw [← hpz, List.length_append, List.length_replicate, T.2]; omega
    have hpz2 : pz.length ≤ 20000 := by omega
    cases fr with
    | true =>
     have hbz : bb = pz := (hbbT rfl).trans hpz
     subst hbz
     clear hbbT hbbF hpz
     obtain ⟨T, hT⟩ := T
     have htA : tagAV ⟨T, hT⟩ = .agg (T.map byteAV) := rfl
     simp only [htA] at c3 ht1 ht2 hpzm
     clear htA
     simp only [makAV_eq, rowM_eq, rowB_eq, hL2, hL3] at *
     refine Bd Tryz.func184 Tryz.ntmps184 fun σ N hp hpn hk hkn hfree => ?_
     simp only [List.mem_cons, List.not_mem_nil, or_false, forall_eq_or_imp, forall_eq] at hp hpn; obtain ⟨hd1, hd2, hd3, hd4⟩ := hp; obtain ⟨hdn1, hdn2, hdn3, hdn4⟩ := hpn
     have hne : d ≠ r1 := by rintro rfl; rw [hd1] at hd2; cases hd2
     have hne3 : d ≠ r2 := by rintro rfl; rw [hd1] at hd3; cases hd3
     have hneg : g ≠ d := by rintro rfl; rw [hd4] at hd1; exact shaG_nbox hd1
     have hneg1 : g ≠ r2 := by rintro rfl; rw [hd4] at hd3; exact shaG_nrow hd3
     refine Wm ?_
     refine Wz ?_
     refine go_view 6 (id := N) (bt := 29) (x := tagAV key) (by simp (disch := omega) [go_sem, *, -List.reduceReplicate]) (by simp (disch := omega) [go_sem, *, -List.reduceReplicate]) ?_
     refine go_view 7 (id := N + 1) (bt := 3) (x := .lit (.int .i64 nn)) (by simp (disch := omega) [go_sem, *, -List.reduceReplicate]) (by simp (disch := omega) [go_sem, *, -List.reduceReplicate]) ?_
     refine go_view 8 (id := N + 2) (bt := 26) (x := .slice none (plain.map byteAV)) (by simp (disch := omega) [go_sem, *, -List.reduceReplicate]) (by simp (disch := omega) [go_sem, *, -List.reduceReplicate]) ?_
     have hcs := And.intro c2 (And.intro c3 True.intro)
     iterate 6 refine Wz ?_
     clear hcs
     (apply go_region; · (simp only [List.length_cons, List.length_nil, Nat.reduceAdd, Nat.add_assoc]; rfl))
     refine go_sliceWhole (id := N + 29 + 2) (path := []) (off := 0) (bt := 29) (c := .agg (T.map byteAV)) (ys := T.map byteAV) (by simp (disch := omega) [go_sem, *, -List.reduceReplicate]) (by simp (disch := omega) [go_sem, *, -List.reduceReplicate]) pa29 rfl rfl (by rw [List.length_map]; exact hT) (bytes_all1 T) (by unfold maxLen; omega) ?_
     refine Wm ?_
     refine go_appendzC (xs := T.map byteAV) (q := (plain.length : Int) + 8) (by simp (disch := omega) [go_sem, *, -List.reduceReplicate]) si26 it3 rfl (by simp) (by simp (disch := omega) [go_sem, *, -List.reduceReplicate]; try rfl) (by omega) (bytes_all1 T) (by rw [List.length_map, hT, hpzl]; omega) (by rw [List.length_map, hT, hpzl]; omega) ?_
     rw [hpzm, List.length_map, hT, hpzl]
     have hcs := And.intro c5 (And.intro c6 True.intro)
     clear c2 c3 c4 c5 c6 hm he hmb hL2 hL3 hpzm
     refine Wk ?_
     refine go_resultWI [(d, (.box 203 (.agg [.agg [.lit (.bool true), tagAV sd, .lit (.int .i64 fs), .slice (some r1) (L.map macAV), .slice (some r2) (B.map sealAV ++ [.agg [tagAV key, .lit (.int .i64 nn), .slice none (plain.map byteAV), .slice none (bb.map byteAV)]])], .lit (.int .i64 0)]))), (r2, (.row 151 35 (B.length + 1)))] (by simp (disch := omega) [go_sem, *, -List.reduceReplicate]; rfl) (by first | exact AV.le_refl _ | ((first | apply AV.le_slices | apply AV.le_nilsE | apply AV.le_clipE); first | rfl | (simp (disch := omega) [go_sem, *, -List.reduceReplicate]; done)) | (apply AV.sub_tup; repeat' first | exact ALe.nil | exact AV.le_refl _ | apply ALe.cons | ((first | apply AV.le_slices | apply AV.le_nilsE | apply AV.le_clipE); first | rfl | (simp (disch := omega) [go_sem, *, -List.reduceReplicate]; done)))) (by first | rfl | (simp (disch := omega) [go_sem]; done) | (simp (disch := omega) [go_sem, *]; done) | simp (disch := omega) [go_sem]) (fun id hid => by simp only [wr_cons, wr_nil]; (by_cases hdd : id = d; (· (subst hdd; simp (disch := omega) [go_sem, *])); (· (by_cases hdd2 : id = r2; (· (subst hdd2; simp (disch := omega) [go_sem, *])); (· (simp (disch := omega) only [upd_ne]; try (first | exact hlow id hid hdd hdd2 | exact hlow id hid))))))) (by simp) (by simp (disch := omega) [go_sem, *])
    | false =>
     rw [← hbbF rfl] at c4
     clear hbbT hbbF hpz
     obtain ⟨T, hT⟩ := T
     have htA : tagAV ⟨T, hT⟩ = .agg (T.map byteAV) := rfl
     simp only [htA] at c3 ht1 ht2 hpzm
     clear htA
     simp only [makAV_eq, rowM_eq, rowB_eq, hL2, hL3] at *
     refine Bd Tryz.func184 Tryz.ntmps184 fun σ N hp hpn hk hkn hfree => ?_
     simp only [List.mem_cons, List.not_mem_nil, or_false, forall_eq_or_imp, forall_eq] at hp hpn; obtain ⟨hd1, hd2, hd3, hd4⟩ := hp; obtain ⟨hdn1, hdn2, hdn3, hdn4⟩ := hpn
     have hne : d ≠ r1 := by rintro rfl; rw [hd1] at hd2; cases hd2
     have hne3 : d ≠ r2 := by rintro rfl; rw [hd1] at hd3; cases hd3
     have hneg : g ≠ d := by rintro rfl; rw [hd4] at hd1; exact shaG_nbox hd1
     have hneg1 : g ≠ r2 := by rintro rfl; rw [hd4] at hd3; exact shaG_nrow hd3
     refine Wm ?_
     refine Wz ?_
     refine go_view 6 (id := N) (bt := 29) (x := tagAV key) (by simp (disch := omega) [go_sem, *, -List.reduceReplicate]) (by simp (disch := omega) [go_sem, *, -List.reduceReplicate]) ?_
     refine go_view 7 (id := N + 1) (bt := 3) (x := .lit (.int .i64 nn)) (by simp (disch := omega) [go_sem, *, -List.reduceReplicate]) (by simp (disch := omega) [go_sem, *, -List.reduceReplicate]) ?_
     refine go_view 8 (id := N + 2) (bt := 26) (x := .slice none (plain.map byteAV)) (by simp (disch := omega) [go_sem, *, -List.reduceReplicate]) (by simp (disch := omega) [go_sem, *, -List.reduceReplicate]) ?_
     have hcs := And.intro c2 (And.intro c3 True.intro)
     iterate 6 refine Wz ?_
     clear hcs
     (apply go_region; · (simp only [List.length_cons, List.length_nil, Nat.reduceAdd, Nat.add_assoc]; rfl))
     refine go_sliceWhole (id := N + 29 + 2) (path := []) (off := 0) (bt := 29) (c := .agg (T.map byteAV)) (ys := T.map byteAV) (by simp (disch := omega) [go_sem, *, -List.reduceReplicate]) (by simp (disch := omega) [go_sem, *, -List.reduceReplicate]) pa29 rfl rfl (by rw [List.length_map]; exact hT) (bytes_all1 T) (by unfold maxLen; omega) ?_
     refine Wm ?_
     refine go_appendzC (xs := T.map byteAV) (q := (plain.length : Int) + 8) (by simp (disch := omega) [go_sem, *, -List.reduceReplicate]) si26 it3 rfl (by simp) (by simp (disch := omega) [go_sem, *, -List.reduceReplicate]; try rfl) (by omega) (bytes_all1 T) (by rw [List.length_map, hT, hpzl]; omega) (by rw [List.length_map, hT, hpzl]; omega) ?_
     rw [hpzm, List.length_map, hT, hpzl]
     have hcs := And.intro (c4) (And.intro c5 (And.intro c6 True.intro))
     clear c2 c3 c4 c5 c6 hm he hmb hL2 hL3 hpzm
     refine Wk ?_
     refine go_resultWI [(d, (.box 203 (.agg [.agg [.lit (.bool false), tagAV sd, .lit (.int .i64 fs), .slice (some r1) (L.map macAV), .slice (some r2) (B.map sealAV ++ [.agg [tagAV key, .lit (.int .i64 nn), .slice none (plain.map byteAV), .slice none (bb.map byteAV)]])], .lit (.int .i64 0)]))), (r2, (.row 151 35 (B.length + 1)))] (by simp (disch := omega) [go_sem, *, -List.reduceReplicate]; rfl) (by first | exact AV.le_refl _ | ((first | apply AV.le_slices | apply AV.le_nilsE | apply AV.le_clipE); first | rfl | (simp (disch := omega) [go_sem, *, -List.reduceReplicate]; done)) | (apply AV.sub_tup; repeat' first | exact ALe.nil | exact AV.le_refl _ | apply ALe.cons | ((first | apply AV.le_slices | apply AV.le_nilsE | apply AV.le_clipE); first | rfl | (simp (disch := omega) [go_sem, *, -List.reduceReplicate]; done)))) (by first | rfl | (simp (disch := omega) [go_sem]; done) | (simp (disch := omega) [go_sem, *]; done) | simp (disch := omega) [go_sem]) (fun id hid => by simp only [wr_cons, wr_nil]; (by_cases hdd : id = d; (· (subst hdd; simp (disch := omega) [go_sem, *])); (· (by_cases hdd2 : id = r2; (· (subst hdd2; simp (disch := omega) [go_sem, *])); (· (simp (disch := omega) only [upd_ne]; try (first | exact hlow id hid hdd hdd2 | exact hlow id hid))))))) (by simp) (by simp (disch := omega) [go_sem, *])
 ·have hmb : mBox ⟨fr, sd, fs, L, B⟩ e key nn plain = (⟨fr, sd, fs, L, B⟩, e, []) := by unfold mBox; rw [if_pos he0]
  rw [hmb]
  have hei : ((e : Int) != 0) = true := by simp; omega
  simp only [makAV_eq, rowM_eq, rowB_eq] at *
  refine Bd Tryz.func184 Tryz.ntmps184 fun σ N hp hpn hk hkn hfree => ?_
  simp only [List.mem_cons, List.not_mem_nil, or_false, forall_eq_or_imp, forall_eq] at hp hpn; obtain ⟨hd1, hd2, hd3, hd4⟩ := hp; obtain ⟨hdn1, hdn2, hdn3, hdn4⟩ := hpn
  have hne : d ≠ r1 := by rintro rfl; rw [hd1] at hd2; cases hd2
  have hne3 : d ≠ r2 := by rintro rfl; rw [hd1] at hd3; cases hd3
  have hneg : g ≠ d := by rintro rfl; rw [hd4] at hd1; exact shaG_nbox hd1
  have hneg1 : g ≠ r2 := by rintro rfl; rw [hd4] at hd3; exact shaG_nrow hd3
  clear hm hmb
  refine Wk ?_
  refine go_resultWI [(d, (.box 203 (.agg [.agg [.lit (.bool fr), tagAV sd, .lit (.int .i64 fs), .slice (some r1) (L.map macAV), .slice (some r2) (B.map sealAV)], .lit (.int .i64 e)]))), (r2, (.row 151 35 B.length))] (by simp (disch := omega) [go_sem, *, -List.reduceReplicate]; rfl) (by first | exact AV.le_refl _ | ((first | apply AV.le_slices | apply AV.le_nilsE | apply AV.le_clipE); first | rfl | (simp (disch := omega) [go_sem, *, -List.reduceReplicate]; done)) | (apply AV.sub_tup; repeat' first | exact ALe.nil | exact AV.le_refl _ | apply ALe.cons | ((first | apply AV.le_slices | apply AV.le_nilsE | apply AV.le_clipE); first | rfl | (simp (disch := omega) [go_sem, *, -List.reduceReplicate]; done)))) (by first | rfl | (simp (disch := omega) [go_sem]; done) | (simp (disch := omega) [go_sem, *]; done) | simp (disch := omega) [go_sem]) (fun id hid => by simp only [wr_cons, wr_nil]; (by_cases hdd : id = d; (· (subst hdd; simp (disch := omega) [go_sem, *])); (· (by_cases hdd2 : id = r2; (· (subst hdd2; simp (disch := omega) [go_sem, *])); (· (simp (disch := omega) only [upd_ne]; try (first | exact hlow id hid hdd hdd2 | exact hlow id hid))))))) (by simp) (by simp (disch := omega) [go_sem, *])
end
end Go.Proofs.YtdmjpolnbmoehaaGreatDoor

namespace Go.Proofs.YtdmjpolnbmoehaaGreatDoor
open Go.Ab
set_option maxHeartbeats 2000000 in
theorem eight_be8 (L : List UInt8) (h : L.length = 8) : eightB (be8 L : Int) = L := by
 obtain ⟨a, b, c, d, e, f, g, i, rfl⟩ : ∃ a b c d e f g i, L = [a, b, c, d, e, f, g, i] := by
  match L, h with
  | [a, b, c, d, e, f, g, i], _ => exact ⟨a, b, c, d, e, f, g, i, rfl⟩
 have ha := a.toNat_lt
 have hb := b.toNat_lt
 have hc := c.toNat_lt
 have hd := d.toNat_lt
 have he := e.toNat_lt
 have hf := f.toNat_lt
 have hg := g.toNat_lt
 have hi := i.toNat_lt
 obtain ⟨m, hm⟩ : ∃ m : Int, ((be8 [a, b, c, d, e, f, g, i] : Nat) : Int) = m := ⟨_, rfl⟩
 rw [hm]
 simp only [be8, List.foldl_cons, List.foldl_nil] at hm
 have d7 : m / 72057594037927936 % 256 = a.toNat := by omega
 have d6 : m / 281474976710656 % 256 = b.toNat := by omega
 have d5 : m / 1099511627776 % 256 = c.toNat := by omega
 have d4 : m / 4294967296 % 256 = d.toNat := by omega
 have d3 : m / 16777216 % 256 = e.toNat := by omega
 have d2 : m / 65536 % 256 = f.toNat := by omega
 have d1 : m / 256 % 256 = g.toNat := by omega
 have d0 : m % 256 = i.toNat := by omega
 have e7 := sh8_toNat m 56
 have e6 := sh8_toNat m 48
 have e5 := sh8_toNat m 40
 have e4 := sh8_toNat m 32
 have e3 := sh8_toNat m 24
 have e2 := sh8_toNat m 16
 have e1 := sh8_toNat m 8
 have e0 := sh8_toNat m 0
 simp only [Int.reducePow, Int.pow_zero, Int.ediv_one] at e7 e6 e5 e4 e3 e2 e1 e0
 rw [d7] at e7
 rw [d6] at e6
 rw [d5] at e5
 rw [d4] at e4
 rw [d3] at e3
 rw [d2] at e2
 rw [d1] at e1
 rw [d0] at e0
 have key : ∀ x y : UInt8, (x.toNat : Int) = (y.toNat : Int) → x = y := fun x y h => UInt8.toNat_inj.1 (by exact_mod_cast h)
 unfold eightB
 rw [key (sh8 m 56) a e7, key (sh8 m 48) b e6, key (sh8 m 40) c e5, key (sh8 m 32) d e4, key (sh8 m 24) e e3, key (sh8 m 16) f e2, key (sh8 m 8) g e1, key (sh8 m 0) i e0]
end Go.Proofs.YtdmjpolnbmoehaaGreatDoor
