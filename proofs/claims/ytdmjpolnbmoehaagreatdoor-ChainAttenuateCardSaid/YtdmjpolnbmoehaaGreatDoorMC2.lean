/- Texts X4, X5, X6, C16, X7, X8, W1, X9, X10, W4, X11, U9, joined. -/
import Derived.Test.YtdmjpolnbmoehaaGreatDoorMC1

namespace Go.Proofs.YtdmjpolnbmoehaaGreatDoor
open Go.Ab
attribute [local irreducible] Go.Ab.tyAV Go.Ab.aw Go.Ab.aops Go.Ab.kReg Go.Ab.aThen Go.Ab.aBlk Go.Ab.acond Go.Ab.aguard Go.Ab.astep Go.Ab.AStepX Go.Ab.aRet
attribute [local irreducible] shaG
section
variable [W : W32]
end

section
variable [W : W32]
end

section
variable [W : W32]
end
end Go.Proofs.YtdmjpolnbmoehaaGreatDoor

namespace Go.Ab
open Go.RowKit
def LQP (W0 : World) (g : Ghost) (N : Nat) (D : List Deferred) (Q : AExit → Cfg → Prop) (QP : List PanicEntry → Cfg → Prop) : Exit → Act → World → Prop := fun e a w =>
 ∃ c g', g.le g' ∧ SimA W0 g' N c a w ∧ a.defers = D ∧ match e with
  | .normal => Q .normal c
  | .exit id => Q (.exit id) c
  | .ret => Q .ret c
  | .panic ch => QP ch c
  | _ => False
theorem LQP.mono {W0 : World} {g g' : Ghost} {N : Nat} {D D' : List Deferred} {Q : AExit → Cfg → Prop} {QP : List PanicEntry → Cfg → Prop} (hg : g.le g') (hD : D' = D) {e : Exit} {a : Act} {w : World} (h : LQP W0 g' N D' Q QP e a w) : LQP W0 g N D Q QP e a w :=
 let ⟨c, g'', hle, hs, hm, hq⟩ := h
 ⟨c, g'', hg.trans hle, hs, hm.trans hD, hq⟩
def awP (P : Program) (N : Nat) (b : Code) (Q : AExit → Cfg → Prop) (QP : List PanicEntry → Cfg → Prop) (c : Cfg) : Prop :=
 codeOK N b = true → P.follows .mixedOrders = true → ∀ W0 g a w, SimA W0 g N c a w → b.wpIn (wideAt none) 0 P (LQP W0 g N a.defers Q QP) a w
section
variable {P : Program} {N : Nat} {Q : AExit → Cfg → Prop} {QP : List PanicEntry → Cfg → Prop} {c : Cfg}
def APanic (P : Program) (f : FuncId) (args : List AV) (k : Nat) (ch : List PanicEntry) : Prop :=
 callable P f = true ∧ ∀ (W0 : World) (g : Ghost) (σ : Nat → Ent) (n : Nat) (w : World) (vals : List Value), Sim W0 g σ n w → vals.length = args.length → (∀ (i : Nat) (x : AV) (v : Value), args[i]? = some x → vals[i]? = some v → Rep g x v) →
  σ k = .none → k < n → Calls P f vals.toArray w fun e w' => e = .panicked ch ∧ ∃ g', g.le g' ∧ Sim W0 g' σ n w'
end
theorem SimA.init {W0 : World} {g : Ghost} {σ : Nat → Ent} {n : Nat} {w : World} {args : List AV} {vals : List Value} {N : Nat} (hS : Sim W0 g σ n w) (hl : vals.length = args.length) (hv : ∀ (i : Nat) (x : AV) (v : Value), args[i]? = some x → vals[i]? = some v → Rep g x v) (hargs : args.length ≤ N) :
  SimA W0 g N ⟨initS args, σ, n⟩ { tmps := vals.toArray ++ Array.replicate (N - vals.toArray.size) undef, defers := [] } w := by
 refine ⟨hS, by simp; omega, fun t => ?_⟩
 show Rep g (args.getD t (.tup [])) ((vals.toArray ++ Array.replicate (N - vals.toArray.size) undef).getD t undef)
 by_cases ht : t < args.length
 ·have ht' : t < vals.length := by omega
  have := hv t args[t] vals[t] (List.getElem?_eq_getElem ht) (List.getElem?_eq_getElem ht')
  have e1 : args.getD t (.tup []) = args[t] := by simp [List.getD, List.getElem?_eq_getElem ht]
  have e2 : (vals.toArray ++ Array.replicate (N - vals.toArray.size) undef).getD t undef = vals[t] := by simp [Array.getElem?_append, ht']
  rw [e1, e2]; exact this
 ·have e1 : args.getD t (.tup []) = .tup [] := by simp [List.getD, List.getElem?_eq_none (Nat.not_lt.1 ht)]
  have e2 : (vals.toArray ++ Array.replicate (N - vals.toArray.size) undef).getD t undef = undef := by
   rw [Array.getD_eq_getD_getElem?, Array.getElem?_append]
   rw [if_neg (by simp; omega), Array.getElem?_replicate]
   split <;> rfl
  rw [e1, e2]
  exact .tup [] [] rfl fun i x v h _ => by simp at h
theorem APanic.of_body {P : Program} {f : FuncId} {fn : Func} {body : Code} {args : List AV} {k : Nat} {ch : List PanicEntry} (hmix : P.follows .mixedOrders = true) (hf : P.funcs[f]? = some fn) (hb : fn.body = some body)
  (hname : (fn.name == "runtime.NumGoroutine") = false) {N : Nat} (hN : fn.ntmps = N) (hok : codeOK N body = true) (hargs : args.length ≤ N)
  (h : ∀ (σ : Nat → Ent) (n : Nat), σ k = .none → k < n → (∀ id, n ≤ id → σ id = .none) → awP P N body (fun _ _ => False) (fun ch' c' => ch' = ch ∧ ∀ id, id < n → c'.σ id = σ id) ⟨initS args, σ, n⟩) : APanic P f args k ch := by
 refine ⟨by simp [callable, hf, hb, hname], fun W0 g σ n w vals hS hl hv hk hkn => ?_⟩
 subst hN
 refine callsIn_wide.1 (callsIn_of_wp_marks (n := 0) hf hb trivial (wpIn_mono (h σ n hk hkn hS.bound hok hmix W0 g _ w (SimA.init hS hl hv hargs)) fun e a' w' hq => ?_))
 obtain ⟨c', g', hle, hS', hD, hq⟩ := hq
 cases e with
 | panic ch' =>
  obtain ⟨rfl, h3⟩ := hq
  obtain ⟨g2, hle2, hS2, _⟩ := hS.leave hS'.sim hle hk hkn (ws := []) (post := []) (fresh := none) h3 (fun q hq => by cases hq) rfl
  show LeavesInM Fence.wide 0 P fn a'.tmps _ a'.defers (.panicking ch') w'
  rw [hD]
  exact ⟨rfl, g2, hle2, hS2⟩
 | normal => exact hq.elim
 | ret => exact hq.elim
 | exit id => exact hq.elim
 | goto => exact hq.elim
 | outgrown => exact hq.elim
theorem ARet.of {P : Program} {rs : List ResultVar} {k : Nat} {σ0 : Nat → Ent} {n0 : Nat} {pre : Foot} {r : AV} {post : Foot} {c : Cfg} (h : aRet P rs k σ0 n0 pre r post .ret c) : ARet P rs k σ0 n0 pre r post c := h
end Go.Ab

namespace Go.Proofs.YtdmjpolnbmoehaaGreatDoor
open Go.Ab
attribute [local irreducible] Go.Ab.tyAV Go.Ab.aw Go.Ab.aops Go.Ab.kReg Go.Ab.aThen Go.Ab.aBlk Go.Ab.acond Go.Ab.aguard Go.Ab.astep Go.Ab.AStepX Go.Ab.aRet
attribute [local irreducible] shaG

section
variable [W : W32]
end

theorem pThirds_spec (l : List Ca) (hl : l.length ≤ 10000) (k : Nat) :
  ACall Tryz.prog 162 [.slice none (l.map caAV)] k [] (.lit (.int .i64 (thirdsS l : Nat))) [] := by
 have c1 := firsts_gen l _ rfl hl
 have h1 := firsts_len l
 have h2 : ((thirdsS l : Nat) : Int) = (l.length : Int) - ((firstsS l).length : Int) := by unfold thirdsS; omega
 rw [h2]
 generalize firstsS l = R at *
 clear h2
 refine Bd Tryz.func162 Tryz.ntmps162 fun σ N hp hpn hk hkn hfree => ?_
 have hcs := And.intro c1 True.intro
 clear c1
 exact W0
theorem ClipC_spec (l : List Ca) (_hl : l.length ≤ 1000000) (k : Nat) :
  ACall Tryz.prog 164 [.slice none (l.map caAV)] k [] (.clip (l.map caAV)) [] := by
 refine Bd Tryz.func164 Tryz.ntmps164 fun σ N hp hpn hk hkn hfree => ?_
 exact W0
theorem bitsG_nbx {t : TypeId} {x : AV} (h : bitsG = .box t x) : False := by unfold bitsG at h; cases h
theorem bitsG_nrw {t : TypeId} {n m : Nat} (h : bitsG = .row t n m) : False := by unfold bitsG at h; cases h
section
variable [W : W32]
def limB (p : Pa) (c : Ca) : Bool := decide (64 ≤ p.cavs.length) || (c.third && decide (8 ≤ thirdsS p.cavs))
def inE (e : Nat) (p : Pa) (c : Ca) : Nat :=
 if (if e = 0 then (encS c).2 else e) = 0 then (if limB p c = true then 2 else 0) else (if e = 0 then (encS c).2 else e)
def intoP (a : Alg) (e : Nat) (p : Pa) (c : Ca) : Alg × Nat × Pa :=
 ((mNode a (inE e p c) p.tag (cavM c)).1, (mNode a (inE e p c) p.tag (cavM c)).2.1, ⟨p.epoch, p.serial, p.cavs ++ [c], (mNode a (inE e p c) p.tag (cavM c)).2.2⟩)
set_option maxHeartbeats 8000000 in
theorem cInto_spec (a : Alg) (m : Nat) (ha : AlgIn a m) (hm : m ≤ 900000) (e : Nat) (p : Pa) (hpl : p.cavs.length ≤ 10000) (hpc : ∀ x ∈ p.cavs, CaSm x) (c : Ca) (hc : CaSm c) (hp0 : PrOk c.first) (q r1 r2 g h k : Nat) :
  ACall Tryz.prog 100 [.ptr q [] 0, paAV p, caAV c] k (makE a e q r1 r2 ++ [(g, shaG), (h, bitsG)]) (paAV (intoP a e p c).2.2) [(q, makB (intoP a e p c).1 (intoP a e p c).2.1 r1 r2), (r1, rowM (intoP a e p c).1.macs.length)] := by
 have c1 := cEnc_spec c hp0 h
 have hM : [99, 97, 118, 101, 97, 116] ++ (encS c).1 = cavM c := rfl
 have hMl := cavM_len c
 have c2 := Message_spec [99, 97, 118, 101, 97, 116] (encS c).1 (by decide) (by unfold cavM at hMl; rw [List.length_append] at hMl; omega)
 rw [hM] at c2
 have hM0 : 0 < (cavM c).length := by simp [cavM]
 have f1 := Fail_spec a e (encS c).2 q r1 r2
 have f2 := Fail_spec a (if e = 0 then (encS c).2 else e) 2 q r1 r2
 have c3 := mNode_spec a m ha hm (inE e p c) p.tag (cavM c) (fun _ => hM0) (by omega) q r1 r2 g
 have hbx := mNode_boxes a (inE e p c) p.tag (cavM c)
 have c4 := pThirds_spec p.cavs hpl
 have c5 := ClipC_spec p.cavs (by omega)
 have c6 := CopiedC_spec (p.cavs ++ [c]) (by rw [List.length_append, List.length_singleton]; omega) (fun x hx => by
  rcases List.mem_append.1 hx with hx | hx
  ·exact hpc x hx
  ·rw [List.mem_singleton.1 hx]; exact hc)
 have hT2 : thirdsS p.cavs ≤ 10000 := by unfold thirdsS; omega
 unfold intoP
 unfold limB at *
 unfold inE limB at *
 generalize (encS c) = X at *
 obtain ⟨B, E⟩ := X
 simp only at *
 generalize cavM c = M at *
 generalize thirdsS p.cavs = T at *
 obtain ⟨ep, se, L, tg⟩ := p
 simp only at *
 have hcc : caAV c = .agg [.lit (.bool c.third), prAV c.first, .lit (.int .i64 c.party), .slice none (c.ticket.map byteAV), .slice none (c.box.map byteAV)] := rfl
 have hpA : paAV ⟨ep, se, L, tg⟩ = .agg [.lit (.int .i64 ep), .lit (.int .i64 se), .slice none (L.map caAV), tagAV tg] := rfl
 rw [hpA]
 unfold encAV at c1
 simp only at c1
 generalize (if e = 0 then E else e) = e1 at *
 have hb : (L.length + 1) * 120 ≤ 140737488355328 := by omega
 have hb0 : L.length * 120 ≤ 140737488355328 := by omega
 have hb1 : L.length ≤ 140737488355327 := by omega
 have e02 : ((2 : Nat) : Int) = 2 := rfl
 clear ha hc hp0 hpc hM hMl hM0 hpA
 by_cases h64 : 64 ≤ L.length
 ·have h64i : (64 : Int) ≤ (L.length : Int) := by omega
  have hlim : (decide (64 ≤ L.length) || (c.third && decide (8 ≤ T))) = true := by rw [decide_eq_true h64]; rfl
  rw [hlim, if_pos rfl] at c3 hbx ⊢
  clear hlim
  generalize (if e1 = 0 then 2 else e1) = e2 at *
  generalize mNode a e2 tg M = Y at *
  obtain ⟨a2, e3, t2⟩ := Y
  simp only at c3 hbx ⊢
  have hpB : paAV ⟨ep, se, L ++ [c], t2⟩ = .agg [.lit (.int .i64 ep), .lit (.int .i64 se), .slice none (L.map caAV ++ [caAV c]), tagAV t2] := by simp [paAV]
  rw [hpB]
  rw [List.map_append, List.map_cons, List.map_nil] at c6
  unfold makE at *
  simp only [List.cons_append, List.nil_append] at *
  simp only [makB_def, rowM_eq, rowB_eq, hbx, e02] at *
  clear hpB hbx hT2
  refine Bd Tryz.func100 Tryz.ntmps100 fun σ N hp hpn hk hkn hfree => ?_
  simp only [List.mem_cons, List.not_mem_nil, or_false, forall_eq_or_imp, forall_eq] at hp hpn
  obtain ⟨hd1, hd2, hd3, hd4, hd5⟩ := hp
  obtain ⟨hdn1, hdn2, hdn3, hdn4, hdn5⟩ := hpn
  have hne : q ≠ r1 := by rintro rfl; rw [hd1] at hd2; cases hd2
  have hne3 : q ≠ r2 := by rintro rfl; rw [hd1] at hd3; cases hd3
  have hneg : g ≠ q := by rintro rfl; rw [hd4] at hd1; exact shaG_nbox hd1
  have hneg1 : g ≠ r1 := by rintro rfl; rw [hd4] at hd2; exact shaG_nrow hd2
  have hneh : h ≠ q := by rintro rfl; rw [hd5] at hd1; exact bitsG_nbx hd1
  have hneh1 : h ≠ r1 := by rintro rfl; rw [hd5] at hd2; exact bitsG_nrw hd2
  have hne23 : r1 ≠ r2 := by rintro rfl; rw [hd2] at hd3; simp at hd3
  have hcs := And.intro c1 (And.intro f1 (And.intro f2 (And.intro c5 (And.intro c6 (And.intro c2 (And.intro c3 (True.intro)))))))
  clear c1 f1 f2 c2 c3 c4 c5 c6
  refine Wk ?_
  refine go_resultW [(q, (.box 203 (.agg [.agg [.lit (.bool a2.free), tagAV a2.seed, .lit (.int .i64 a2.fresh), .slice (some r1) (a2.macs.map macAV), .slice (some r2) (a.boxes.map sealAV)], .lit (.int .i64 (e3 : Int))]))), (r1, (.row 149 65 a2.macs.length))] (by simp (disch := omega) [go_sem, *, -List.reduceReplicate]; rfl) (by first | rfl | (simp (disch := omega) [go_sem]; done) | (simp (disch := omega) [go_sem, *]; done) | simp (disch := omega) [go_sem]) (fun id hid => by simp only [wr_cons, wr_nil]; (by_cases hdd : id = q; (· (subst hdd; simp (disch := omega) [go_sem, *])); (· (by_cases hdd2 : id = r1; (· (subst hdd2; simp (disch := omega) [go_sem, *])); (· (simp (disch := omega) only [upd_ne]; try (first | exact hlow id hid hdd hdd2 | exact hlow id hid))))))) (by simp) (by simp (disch := omega) [go_sem, *])
 ·have h64i : ¬ (64 : Int) ≤ (L.length : Int) := by omega
  by_cases hth : c.third = true
  ·rw [hth] at hcc
   by_cases h8 : 8 ≤ T
   ·have h8i : (8 : Int) ≤ (T : Int) := by omega
    have hlim : (decide (64 ≤ L.length) || (c.third && decide (8 ≤ T))) = true := by rw [hth, decide_eq_true h8]; simp
    rw [hlim, if_pos rfl] at c3 hbx ⊢
    clear hlim hth
    generalize (if e1 = 0 then 2 else e1) = e2 at *
    generalize mNode a e2 tg M = Y at *
    obtain ⟨a2, e3, t2⟩ := Y
    simp only at c3 hbx ⊢
    have hpB : paAV ⟨ep, se, L ++ [c], t2⟩ = .agg [.lit (.int .i64 ep), .lit (.int .i64 se), .slice none (L.map caAV ++ [caAV c]), tagAV t2] := by simp [paAV]
    rw [hpB]
    rw [List.map_append, List.map_cons, List.map_nil] at c6
    unfold makE at *
    simp only [List.cons_append, List.nil_append] at *
    simp only [makB_def, rowM_eq, rowB_eq, hbx, e02] at *
    clear hpB hbx hT2
    refine Bd Tryz.func100 Tryz.ntmps100 fun σ N hp hpn hk hkn hfree => ?_
    simp only [List.mem_cons, List.not_mem_nil, or_false, forall_eq_or_imp, forall_eq] at hp hpn
    obtain ⟨hd1, hd2, hd3, hd4, hd5⟩ := hp
    obtain ⟨hdn1, hdn2, hdn3, hdn4, hdn5⟩ := hpn
    have hne : q ≠ r1 := by rintro rfl; rw [hd1] at hd2; cases hd2
    have hne3 : q ≠ r2 := by rintro rfl; rw [hd1] at hd3; cases hd3
    have hneg : g ≠ q := by rintro rfl; rw [hd4] at hd1; exact shaG_nbox hd1
    have hneg1 : g ≠ r1 := by rintro rfl; rw [hd4] at hd2; exact shaG_nrow hd2
    have hneh : h ≠ q := by rintro rfl; rw [hd5] at hd1; exact bitsG_nbx hd1
    have hneh1 : h ≠ r1 := by rintro rfl; rw [hd5] at hd2; exact bitsG_nrw hd2
    have hne23 : r1 ≠ r2 := by rintro rfl; rw [hd2] at hd3; simp at hd3
    have hcs := And.intro c1 (And.intro f1 (And.intro c4 (And.intro f2 (And.intro c5 (And.intro c6 (And.intro c2 (And.intro c3 (True.intro))))))))
    clear c1 f1 f2 c2 c3 c4 c5 c6
    refine Wk ?_
    refine go_resultW [(q, (.box 203 (.agg [.agg [.lit (.bool a2.free), tagAV a2.seed, .lit (.int .i64 a2.fresh), .slice (some r1) (a2.macs.map macAV), .slice (some r2) (a.boxes.map sealAV)], .lit (.int .i64 (e3 : Int))]))), (r1, (.row 149 65 a2.macs.length))] (by simp (disch := omega) [go_sem, *, -List.reduceReplicate]; rfl) (by first | rfl | (simp (disch := omega) [go_sem]; done) | (simp (disch := omega) [go_sem, *]; done) | simp (disch := omega) [go_sem]) (fun id hid => by simp only [wr_cons, wr_nil]; (by_cases hdd : id = q; (· (subst hdd; simp (disch := omega) [go_sem, *])); (· (by_cases hdd2 : id = r1; (· (subst hdd2; simp (disch := omega) [go_sem, *])); (· (simp (disch := omega) only [upd_ne]; try (first | exact hlow id hid hdd hdd2 | exact hlow id hid))))))) (by simp) (by simp (disch := omega) [go_sem, *])
   ·have h8i : ¬ (8 : Int) ≤ (T : Int) := by omega
    have hlim : (decide (64 ≤ L.length) || (c.third && decide (8 ≤ T))) = false := by rw [decide_eq_false h64, decide_eq_false h8]; simp
    rw [hlim, if_neg (show ¬ (false = true) by simp)] at c3 hbx ⊢
    clear hlim hth
    rw [show (if e1 = 0 then 0 else e1) = e1 by split <;> omega] at c3 hbx ⊢
    generalize mNode a e1 tg M = Y at *
    obtain ⟨a2, e3, t2⟩ := Y
    simp only at c3 hbx ⊢
    have hpB : paAV ⟨ep, se, L ++ [c], t2⟩ = .agg [.lit (.int .i64 ep), .lit (.int .i64 se), .slice none (L.map caAV ++ [caAV c]), tagAV t2] := by simp [paAV]
    rw [hpB]
    rw [List.map_append, List.map_cons, List.map_nil] at c6
    unfold makE at *
    simp only [List.cons_append, List.nil_append] at *
    simp only [makB_def, rowM_eq, rowB_eq, hbx, e02] at *
    clear hpB hbx hT2
    refine Bd Tryz.func100 Tryz.ntmps100 fun σ N hp hpn hk hkn hfree => ?_
    simp only [List.mem_cons, List.not_mem_nil, or_false, forall_eq_or_imp, forall_eq] at hp hpn
    obtain ⟨hd1, hd2, hd3, hd4, hd5⟩ := hp
    obtain ⟨hdn1, hdn2, hdn3, hdn4, hdn5⟩ := hpn
    have hne : q ≠ r1 := by rintro rfl; rw [hd1] at hd2; cases hd2
    have hne3 : q ≠ r2 := by rintro rfl; rw [hd1] at hd3; cases hd3
    have hneg : g ≠ q := by rintro rfl; rw [hd4] at hd1; exact shaG_nbox hd1
    have hneg1 : g ≠ r1 := by rintro rfl; rw [hd4] at hd2; exact shaG_nrow hd2
    have hneh : h ≠ q := by rintro rfl; rw [hd5] at hd1; exact bitsG_nbx hd1
    have hneh1 : h ≠ r1 := by rintro rfl; rw [hd5] at hd2; exact bitsG_nrw hd2
    have hne23 : r1 ≠ r2 := by rintro rfl; rw [hd2] at hd3; simp at hd3
    have hcs := And.intro c1 (And.intro f1 (And.intro c4 (And.intro c5 (And.intro c6 (And.intro c2 (And.intro c3 (True.intro)))))))
    clear c1 f1 f2 c2 c3 c4 c5 c6
    refine Wk ?_
    refine go_resultW [(q, (.box 203 (.agg [.agg [.lit (.bool a2.free), tagAV a2.seed, .lit (.int .i64 a2.fresh), .slice (some r1) (a2.macs.map macAV), .slice (some r2) (a.boxes.map sealAV)], .lit (.int .i64 (e3 : Int))]))), (r1, (.row 149 65 a2.macs.length))] (by simp (disch := omega) [go_sem, *, -List.reduceReplicate]; rfl) (by first | rfl | (simp (disch := omega) [go_sem]; done) | (simp (disch := omega) [go_sem, *]; done) | simp (disch := omega) [go_sem]) (fun id hid => by simp only [wr_cons, wr_nil]; (by_cases hdd : id = q; (· (subst hdd; simp (disch := omega) [go_sem, *])); (· (by_cases hdd2 : id = r1; (· (subst hdd2; simp (disch := omega) [go_sem, *])); (· (simp (disch := omega) only [upd_ne]; try (first | exact hlow id hid hdd hdd2 | exact hlow id hid))))))) (by simp) (by simp (disch := omega) [go_sem, *])
  ·have hth : c.third = false := by simpa using hth
   rw [hth] at hcc
   have hlim : (decide (64 ≤ L.length) || (c.third && decide (8 ≤ T))) = false := by rw [decide_eq_false h64, hth]; simp
   rw [hlim, if_neg (show ¬ (false = true) by simp)] at c3 hbx ⊢
   clear hlim hth
   rw [show (if e1 = 0 then 0 else e1) = e1 by split <;> omega] at c3 hbx ⊢
   generalize mNode a e1 tg M = Y at *
   obtain ⟨a2, e3, t2⟩ := Y
   simp only at c3 hbx ⊢
   have hpB : paAV ⟨ep, se, L ++ [c], t2⟩ = .agg [.lit (.int .i64 ep), .lit (.int .i64 se), .slice none (L.map caAV ++ [caAV c]), tagAV t2] := by simp [paAV]
   rw [hpB]
   rw [List.map_append, List.map_cons, List.map_nil] at c6
   unfold makE at *
   simp only [List.cons_append, List.nil_append] at *
   simp only [makB_def, rowM_eq, rowB_eq, hbx, e02] at *
   clear hpB hbx hT2
   refine Bd Tryz.func100 Tryz.ntmps100 fun σ N hp hpn hk hkn hfree => ?_
   simp only [List.mem_cons, List.not_mem_nil, or_false, forall_eq_or_imp, forall_eq] at hp hpn
   obtain ⟨hd1, hd2, hd3, hd4, hd5⟩ := hp
   obtain ⟨hdn1, hdn2, hdn3, hdn4, hdn5⟩ := hpn
   have hne : q ≠ r1 := by rintro rfl; rw [hd1] at hd2; cases hd2
   have hne3 : q ≠ r2 := by rintro rfl; rw [hd1] at hd3; cases hd3
   have hneg : g ≠ q := by rintro rfl; rw [hd4] at hd1; exact shaG_nbox hd1
   have hneg1 : g ≠ r1 := by rintro rfl; rw [hd4] at hd2; exact shaG_nrow hd2
   have hneh : h ≠ q := by rintro rfl; rw [hd5] at hd1; exact bitsG_nbx hd1
   have hneh1 : h ≠ r1 := by rintro rfl; rw [hd5] at hd2; exact bitsG_nrw hd2
   have hne23 : r1 ≠ r2 := by rintro rfl; rw [hd2] at hd3; simp at hd3
   have hcs := And.intro c1 (And.intro f1 (And.intro c5 (And.intro c6 (And.intro c2 (And.intro c3 (True.intro))))))
   clear c1 f1 f2 c2 c3 c4 c5 c6
   refine Wk ?_
   refine go_resultW [(q, (.box 203 (.agg [.agg [.lit (.bool a2.free), tagAV a2.seed, .lit (.int .i64 a2.fresh), .slice (some r1) (a2.macs.map macAV), .slice (some r2) (a.boxes.map sealAV)], .lit (.int .i64 (e3 : Int))]))), (r1, (.row 149 65 a2.macs.length))] (by simp (disch := omega) [go_sem, *, -List.reduceReplicate]; rfl) (by first | rfl | (simp (disch := omega) [go_sem]; done) | (simp (disch := omega) [go_sem, *]; done) | simp (disch := omega) [go_sem]) (fun id hid => by simp only [wr_cons, wr_nil]; (by_cases hdd : id = q; (· (subst hdd; simp (disch := omega) [go_sem, *])); (· (by_cases hdd2 : id = r1; (· (subst hdd2; simp (disch := omega) [go_sem, *])); (· (simp (disch := omega) only [upd_ne]; try (first | exact hlow id hid hdd hdd2 | exact hlow id hid))))))) (by simp) (by simp (disch := omega) [go_sem, *])
theorem attS_into (a : Alg) (p : Pa) (c : Ca) : attS a p c = if (intoP a 0 p c).2.1 = 0 then ((intoP a 0 p c).1, (intoP a 0 p c).2.2, 0) else (alg0, pa0, (intoP a 0 p c).2.1) := by
 unfold attS intoP inE
 simp only [if_true]
 cases hc : cavB c with
 | false =>
  have he : (encS c).2 = 5 := by unfold encS; rw [hc]; rfl
  have hm : ∀ t msg, mNode a 5 t msg = (a, 5, zeroTag) := fun t msg => by
   have h5 : (5 : Nat) ≠ 0 := by omega
   unfold mNode; simp only [mMac_err h5]
  rw [if_pos rfl, he, if_neg (show ¬ (5 : Nat) = 0 by omega), hm, if_neg (show ¬ (5 : Nat) = 0 by omega)]
 | true =>
  have he : (encS c).2 = 0 := by unfold encS; rw [hc]; rfl
  rw [if_neg (by simp), he, if_pos rfl]
  by_cases hl : 64 ≤ p.cavs.length ∨ (c.third = true ∧ 8 ≤ thirdsS p.cavs)
  ·have hb : limB p c = true := by
    unfold limB
    rcases hl with h | ⟨h, h'⟩
    ·rw [decide_eq_true h]; rfl
    ·rw [h, decide_eq_true h']; simp
   have hm : ∀ t msg, mNode a 2 t msg = (a, 2, zeroTag) := fun t msg => by
    have h5 : (2 : Nat) ≠ 0 := by omega
    unfold mNode; simp only [mMac_err h5]
   rw [if_pos hl, if_pos hb, hm, if_neg (show ¬ (2 : Nat) = 0 by omega)]
  ·have hb : limB p c = false := by
    unfold limB
    cases hh : (decide (64 ≤ p.cavs.length) || (c.third && decide (8 ≤ thirdsS p.cavs))) with
    | false => rfl
    | true =>
     refine absurd ?_ hl
     simpa using hh
   rw [if_neg hl, hb, if_neg (show ¬ (false = true) by simp), mNode_node]
   by_cases h : (mNode a 0 p.tag (cavM c)).2.1 = 0
   ·simp only [if_pos h, if_true]
   ·simp only [if_neg h]
set_option maxHeartbeats 4000000 in
theorem Att_spec (a : Alg) (m : Nat) (ha : AlgIn a m) (hm : m ≤ 900000) (p : Pa) (hpl : p.cavs.length ≤ 10000) (hpc : ∀ x ∈ p.cavs, CaSm x) (c : Ca) (hc : CaSm c) (hp0 : PrOk c.first) (g h : Nat) (_hgh : g ≠ h) (k : Nat) :
  ACall Tryz.prog 36 [algAV a, paAV p, caAV c] k [(g, shaG), (h, bitsG)] (mpAV (attS a p c)) [] := by
 have cb := Begin_spec a (by have := ha.ml; omega) (by have := ha.bl; omega)
 have c1 := fun q r1 r2 => cInto_spec a m ha hm 0 p hpl hpc c hc hp0 q r1 r2 g h
 have hbx : (intoP a 0 p c).1.boxes = a.boxes := mNode_boxes _ _ _ _
 rw [attS_into]
 generalize intoP a 0 p c = X at *
 obtain ⟨a1, e1, p1⟩ := X
 simp only at c1 hbx ⊢
 clear ha hpl hpc hc hp0
 by_cases he : e1 = 0
 ·subst he
  rw [if_pos rfl]
  unfold mpAV
  simp only
  have cd := Done_ok a1
  unfold makAV at cb
  unfold makE at c1 cd
  simp only [List.cons_append, List.nil_append] at *
  simp only [makB_def, rowM_eq, rowB_eq, hbx] at *
  refine Bd Tryz.func36 Tryz.ntmps36 fun σ N hp hpn hk hkn hfree => ?_
  simp only [List.mem_cons, List.not_mem_nil, or_false, forall_eq_or_imp, forall_eq] at hp hpn; obtain ⟨hd1, hd2⟩ := hp; obtain ⟨hdn1, hdn2⟩ := hpn
  have hcs := And.intro cb True.intro
  refine Wm ?_
  iterate 2 refine Wz ?_
  clear hcs
  refine go_cliprowIn (N + 6 + 1) [0, 3] 149 65 (bt := 203) (c := .agg [.agg [.lit (.bool a.free), tagAV a.seed, .lit (.int .i64 a.fresh), .clip (a.macs.map macAV), .clip (a.boxes.map sealAV)], .lit (.int .i64 ((0 : Nat) : Int))]) (xs := a.macs.map macAV) (by simp (disch := omega) [go_sem, *, -List.reduceReplicate]) rfl (all_macs1 _) ?_; refine go_cliprowIn (N + 6 + 1) [0, 4] 151 35 (bt := 203) (c := .agg [.agg [.lit (.bool a.free), tagAV a.seed, .lit (.int .i64 a.fresh), .slice (some (N + 6 + 3)) (a.macs.map macAV), .clip (a.boxes.map sealAV)], .lit (.int .i64 ((0 : Nat) : Int))]) (xs := a.boxes.map sealAV) (by simp (disch := omega) [go_sem, *, -List.reduceReplicate]) rfl (all_boxes1 _) ?_
  have hcs := And.intro (c1 (N + 6 + 1) (N + 6 + 3) (N + 6 + 3 + 1)) (And.intro (cd (N + 6 + 1) (N + 6 + 3) (N + 6 + 3 + 1)) True.intro)
  clear cb c1 cd
  refine Wk ?_
  exact WD
 ·rw [if_neg he]
  unfold mpAV paAV pa0
  simp only [alg0_eq, List.map_nil]
  have h1i : ((e1 : Int) != 0) = true := by simp; omega
  have cd := Done_bad a1 e1 he
  unfold makAV at cb
  unfold makE at c1 cd
  simp only [List.cons_append, List.nil_append] at *
  simp only [makB_def, rowM_eq, rowB_eq, hbx, alg0_eq] at *
  refine Bd Tryz.func36 Tryz.ntmps36 fun σ N hp hpn hk hkn hfree => ?_
  simp only [List.mem_cons, List.not_mem_nil, or_false, forall_eq_or_imp, forall_eq] at hp hpn; obtain ⟨hd1, hd2⟩ := hp; obtain ⟨hdn1, hdn2⟩ := hpn
  have hcs := And.intro cb True.intro
  refine Wm ?_
  iterate 2 refine Wz ?_
  clear hcs
  refine go_cliprowIn (N + 6 + 1) [0, 3] 149 65 (bt := 203) (c := .agg [.agg [.lit (.bool a.free), tagAV a.seed, .lit (.int .i64 a.fresh), .clip (a.macs.map macAV), .clip (a.boxes.map sealAV)], .lit (.int .i64 ((0 : Nat) : Int))]) (xs := a.macs.map macAV) (by simp (disch := omega) [go_sem, *, -List.reduceReplicate]) rfl (all_macs1 _) ?_; refine go_cliprowIn (N + 6 + 1) [0, 4] 151 35 (bt := 203) (c := .agg [.agg [.lit (.bool a.free), tagAV a.seed, .lit (.int .i64 a.fresh), .slice (some (N + 6 + 3)) (a.macs.map macAV), .clip (a.boxes.map sealAV)], .lit (.int .i64 ((0 : Nat) : Int))]) (xs := a.boxes.map sealAV) (by simp (disch := omega) [go_sem, *, -List.reduceReplicate]) rfl (all_boxes1 _) ?_
  have hcs := And.intro (c1 (N + 6 + 1) (N + 6 + 3) (N + 6 + 3 + 1)) (And.intro (cd (N + 6 + 1) (N + 6 + 3) (N + 6 + 3 + 1)) True.intro)
  clear cb c1 cd
  refine Wk ?_
  exact WD
end

section
variable [W : W32]
end

section
variable [W : W32]
end

def ridesC (n : Int) : Ca := firC ⟨7, 0, 0, 0, [], n⟩
theorem ridesC_eq (n : Int) : caAV (ridesC n) = .agg [.lit (.bool false), .agg [.lit (.int .i64 7), .lit (.int .u64 0), .lit (.int .i64 0), .lit (.int .i64 0), .lit (.string ⟨#[]⟩), .lit (.int .i64 n)], .lit (.int .i64 0), .slice none [], .slice none []] := rfl
theorem rides13_spec (n : Int) (k : Nat) : ACall Tryz.prog 34 [.lit (.int .i64 n)] k [] (caAV (ridesC n)) [] := by
 rw [ridesC_eq]
 refine Bd Tryz.func34 Tryz.ntmps34 fun σ N hp hpn hk hkn hfree => ?_
 refine Wk ?_
 refine go_resultI (by simp (disch := omega) [go_sem, *, -List.reduceReplicate]; rfl) (AV.sub_agg (by repeat' first | exact ALe.nil | exact AV.le_refl _ | apply ALe.cons | ((first | apply AV.le_slices | apply AV.le_nilsE | apply AV.le_clipE); first | rfl | (simp (disch := omega) [go_sem, *, -List.reduceReplicate]; done)))) (by simp (disch := omega) [go_sem, -List.reduceReplicate]; try rfl) (fun id hid => by simp (disch := omega) only [upd_ne]; try exact hlow id hid)
section
variable [W : W32]
def aF : Alg := ⟨true, zeroTag, 0, [], []⟩
omit W in
theorem aF_eq : algAV aF = .agg [.lit (.bool true), tagAV zeroTag, .lit (.int .i64 0), .slice none [], .slice none []] := rfl
omit W in
theorem aF_in : AlgIn aF 0 := ⟨by simp [aF], by simp [aF], by simp [aF], by simp [aF], fun e he => by simp [aF] at he, fun e he => by simp [aF] at he⟩
omit W in
theorem entL_none {k : Tg} {m : List UInt8} : ∀ {L : List MacE}, (∀ e ∈ L, ¬ (e.key = k ∧ e.msg = m)) → entL k m L = none
 | [], _ => rfl
 | e :: r, h => by
  rw [entL, if_neg (h e (List.mem_cons_self ..))]
  exact entL_none fun x hx => h x (List.mem_cons_of_mem _ hx)
def L2 : List MacE := [⟨zeroTag, mintM 1, symT 109 1⟩, ⟨symT 109 1, nodeB, symT 109 2⟩]
def L4 (c : Ca) : List MacE := L2 ++ [⟨symT 109 1, cavM c, symT 109 3⟩, ⟨symT 109 3, nodeB, symT 109 4⟩]
omit W in
theorem mint_nnode : mintM 1 ≠ nodeB := by intro h; have := congrArg List.head? h; simp [mintM, nodeB] at this
omit W in
theorem mint_ncav (c : Ca) : mintM 1 ≠ cavM c := by intro h; have := congrArg List.head? h; simp [mintM, cavM] at this
omit W in
theorem node_ncav (c : Ca) : nodeB ≠ cavM c := by intro h; have := congrArg List.head? h; simp [nodeB, cavM] at this
theorem aw_mint : mintS aF 1 zeroTag 1 = (⟨true, zeroTag, 0, L2, []⟩, ⟨1, 1, [], symT 109 1⟩, 0) := by
 have hl := mintM_len 1 (by omega)
 have h1 : macS aF zeroTag (mintM 1) = (⟨true, zeroTag, 0, [⟨zeroTag, mintM 1, symT 109 1⟩], []⟩, symT 109 1, 0) := by
  rw [macS_new (by omega) rfl (by decide)]; rfl
 have h2 : macS ⟨true, zeroTag, 0, [⟨zeroTag, mintM 1, symT 109 1⟩], []⟩ (symT 109 1) nodeB = (⟨true, zeroTag, 0, L2, []⟩, symT 109 2, 0) := by
  rw [macS_new (by decide) (entL_none fun e he => ?_) (by decide)]; rfl
  rw [List.mem_singleton.1 he]
  exact fun h => mint_nnode h.2
 unfold mintS
 rw [if_neg (by omega)]
 have h3 := nodeS_3 (a := aF) (key := zeroTag) (msg := mintM 1) (by rw [h1]) (by rw [h1]; simp only; rw [h2])
 rw [h1] at h3
 simp only at h3
 rw [h2] at h3
 rw [show (1 : Int).toNat = 1 from rfl, h3, if_pos rfl]
theorem aw_att : attS ⟨true, zeroTag, 0, L2, []⟩ ⟨1, 1, [], symT 109 1⟩ (ridesC 3) = (⟨true, zeroTag, 0, L4 (ridesC 3), []⟩, ⟨1, 1, [ridesC 3], symT 109 3⟩, 0) := by
 have hl := cavM_len (ridesC 3)
 have h1 : macS ⟨true, zeroTag, 0, L2, []⟩ (symT 109 1) (cavM (ridesC 3)) = (⟨true, zeroTag, 0, L2 ++ [⟨symT 109 1, cavM (ridesC 3), symT 109 3⟩], []⟩, symT 109 3, 0) := by
  rw [macS_new (by omega) (entL_none fun e he => ?_) (by decide)]; rfl
  simp only [L2, List.mem_cons, List.not_mem_nil, or_false] at he
  rcases he with rfl | rfl
  ·exact fun h => mint_ncav _ h.2
  ·exact fun h => node_ncav _ h.2
 have h2 : macS ⟨true, zeroTag, 0, L2 ++ [⟨symT 109 1, cavM (ridesC 3), symT 109 3⟩], []⟩ (symT 109 3) nodeB = (⟨true, zeroTag, 0, L4 (ridesC 3), []⟩, symT 109 4, 0) := by
  rw [macS_new (by decide) (entL_none fun e he => ?_) (by decide)]; rfl
  simp only [L2, List.cons_append, List.nil_append, List.mem_cons, List.not_mem_nil, or_false] at he
  rcases he with rfl | rfl | rfl
  ·exact fun h => mint_nnode h.2
  ·exact fun h => by have := symT_inj (by omega) (by omega) (by omega) (by omega) h.1; omega
  ·exact fun h => node_ncav _ h.2.symm
 have h3 := nodeS_3 (a := ⟨true, zeroTag, 0, L2, []⟩) (key := symT 109 1) (msg := cavM (ridesC 3)) (by rw [h1]) (by rw [h1]; simp only; rw [h2])
 rw [h1] at h3
 simp only at h3
 rw [h2] at h3
 unfold attS
 rw [if_neg (by decide), if_neg (by decide), h3, if_pos rfl]
 rfl
set_option maxHeartbeats 1000000 in
theorem awake13_spec (g h : Nat) (hgh : g ≠ h) (k : Nat) : ACall Tryz.prog 33 [] k [(g, shaG), (h, bitsG)] (.lit (.bool true)) [] := by
 have c1 := Mint_spec aF 0 aF_in (by decide) 1 1 zeroTag g
 rw [aw_mint] at c1
 have c2 := rides13_spec 3
 have hin : AlgIn ⟨true, zeroTag, 0, L2, []⟩ 2 := by have := mintS_in aF_in 1 zeroTag 1; rw [aw_mint] at this; exact this
 have c3 := Att_spec _ 2 hin (by decide) ⟨1, 1, [], symT 109 1⟩ (by simp) (fun x hx => by cases hx) (ridesC 3) ⟨by simp [ridesC, firC], by simp [ridesC, firC]⟩ ⟨by decide, by decide, by decide⟩ g h hgh
 rw [aw_att] at c3
 have c4 := pSymbol_spec 109 1 (by decide)
 have c5 := pSymbol_spec 109 3 (by decide)
 have e1 : ((109 : UInt8).toNat : Int) = 109 := rfl
 have e2 : ((1 : Nat) : Int) = 1 := rfl
 have e3 : ((3 : Nat) : Int) = 3 := rfl
 have e0 : ((0 : Nat) : Int) = 0 := rfl
 rw [e1, e2] at c4
 rw [e1, e3] at c5
 unfold mpAV at c1 c3
 have hp1 : paAV ⟨1, 1, [], symT 109 1⟩ = .agg [.lit (.int .i64 1), .lit (.int .i64 1), .slice none [], tagAV (symT 109 1)] := rfl
 have hp2 : paAV ⟨1, 1, [ridesC 3], symT 109 3⟩ = .agg [.lit (.int .i64 1), .lit (.int .i64 1), .slice none [caAV (ridesC 3)], tagAV (symT 109 3)] := rfl
 have ha2 : algAV ⟨true, zeroTag, 0, L4 (ridesC 3), []⟩ = .agg [.lit (.bool true), tagAV zeroTag, .lit (.int .i64 0), .slice none ((L4 (ridesC 3)).map macAV), .slice none []] := rfl
 have hL : ((L4 (ridesC 3)).map macAV).length = 4 := rfl
 simp only [e0, hp1, hp2, aF_eq, ha2] at c1 c3
 generalize (L4 (ridesC 3)).map macAV = M4 at *
 generalize ridesC 3 = C3 at *
 generalize symT 109 1 = s1 at *
 generalize symT 109 3 = s3 at *
 generalize (⟨true, zeroTag, 0, L2, []⟩ : Alg) = A2 at *
 clear hin e0 e1 e2 e3 hp1 hp2 ha2
 refine Bd Tryz.func33 Tryz.ntmps33 fun σ N hp hpn hk hkn hfree => ?_
 simp only [List.mem_cons, List.not_mem_nil, or_false, forall_eq_or_imp, forall_eq] at hp hpn; obtain ⟨hd1, hd2⟩ := hp; obtain ⟨hdn1, hdn2⟩ := hpn
 have hcs := And.intro c1 (And.intro c2 (And.intro c3 (And.intro c4 (And.intro c5 True.intro))))
 clear c1 c2 c3 c4 c5
 exact W0
end

section
variable [W : W32]
end

theorem Same_refl (b : List UInt8) (hb : b.length ≤ 140737488351232) (k : Nat) : ACall Tryz.prog 69 [.slice none (b.map byteAV), .slice none (b.map byteAV)] k [] (.lit (.bool true)) [] := by
 have := Same_spec b b hb k
 rw [decide_eq_true rfl] at this
 exact this
set_option maxHeartbeats 1000000 in
theorem SameAlg_refl (a : Alg) (m : Nat) (ha : AlgIn a m) (hm : m ≤ 1000000) (k : Nat) :
  ACall Tryz.prog 22 [algAV a, algAV a] k [] (.lit (.bool true)) [] := by
 obtain ⟨fr, sd, fs, L, B⟩ := a
 have hL := ha.ml
 have hB := ha.bl
 have hmm := ha.mm
 have hbm := ha.bm
 simp only at hL hB hmm hbm
 clear ha
 simp only [algAV]
 refine Bd Tryz.func22 Tryz.ntmps22 fun σ N hp hpn hk hkn hfree => ?_
 refine Wk ?_
 refine go_loopF mixed (by kernel_rfl) (4 :: 5 :: 46 :: 47 :: 48 :: 49 :: 50 :: 51 :: 52 :: 53 :: 54 :: 55 :: 56 :: 57 :: 58 :: 59 :: 60 :: 61 :: 62 :: 63 :: 64 :: 65 :: 66 :: 67 :: 68 :: 69 :: 70 :: 71 :: 72 :: 73 :: 74 :: 75 :: 76 :: 77 :: 78 :: 79 :: 80 :: 81 :: 82 :: 83 :: 84 :: 85 :: 86 :: 87 :: 88 :: 89 :: 90 :: 91 :: 92 :: 93 :: 94 :: 95 :: 96 :: []) [N, N+1] (fun m_ s_ σ_ n_ => ∃ (u : Nat), m_ = L.length - u ∧ s_ 5 = .lit (.int .i64 u) ∧ σ_ (N) = .box 38 (.agg [.lit (.bool fr), tagAV sd, .lit (.int .i64 fs), .slice none (L.map macAV), .slice none (B.map sealAV)]) ∧ σ_ (N+1) = .box 38 (.agg [.lit (.bool fr), tagAV sd, .lit (.int .i64 fs), .slice none (L.map macAV), .slice none (B.map sealAV)]) ∧ (u ≤ L.length)) ⟨_, 0, rfl, WF, WF, WF, WC⟩ ?_
 intro m_1 s_1 σ_1 n_1 hs_1 hf_1 hn_1 hI_1
 obtain ⟨u, hm_1, h1_5, e1_0, e1_1, hu⟩ := hI_1
 have h1_2 := KS hs_1 2
 have h1_3 := KS hs_1 3
 have hlow := KL (N := N) (σ := σ) hf_1
 by_cases hul : u = L.length
 ·subst hul
  refine Wk ?_
  refine go_loopF mixed (by kernel_rfl) [4, 6, 7, 8, 97, 98, 99, 100, 101, 102, 103, 104, 105, 106, 107, 108, 109, 110, 111, 112, 113, 114, 115, 116, 117, 118, 119, 120, 121, 122, 123, 124, 125, 126, 127, 128, 129, 130, 131, 132, 133, 134, 135, 136, 137, 138, 139, 140, 141] [N, N+1] (fun m_ s_ σ_ n_ => ∃ (v : Nat), m_ = B.length - v ∧ s_ 6 = .lit (.int .i64 v) ∧ σ_ (N) = .box 38 (.agg [.lit (.bool fr), tagAV sd, .lit (.int .i64 fs), .slice none (L.map macAV), .slice none (B.map sealAV)]) ∧ σ_ (N+1) = .box 38 (.agg [.lit (.bool fr), tagAV sd, .lit (.int .i64 fs), .slice none (L.map macAV), .slice none (B.map sealAV)]) ∧ (v ≤ B.length)) ⟨_, 0, rfl, WF, WF, WF, WC⟩ ?_
  intro m_2 s_2 σ_2 n_2 hs_2 hf_2 hn_2 hI_2
  obtain ⟨v, hm_2, h2_6, e2_0, e2_1, hv⟩ := hI_2
  have h2_2 := KS hs_2 2
  have h2_3 := KS hs_2 3
  have hlow := KL (N := N) (σ := σ) hf_2
  by_cases hvl : v = B.length
  ·subst hvl
   exact W0
  ·have hv1 : v < B.length := by omega
   have hmz := hbm _ (List.getElem_mem hv1)
   obtain ⟨z, hz⟩ : ∃ z, B[v] = z := ⟨_, rfl⟩
   rw [hz] at hmz
   obtain ⟨zk, zn, zp, zb⟩ := z
   simp only at hmz
   have hzd : sealAV ⟨zk, zn, zp, zb⟩ = .agg [tagAV zk, .lit (.int .i64 zn), bAV zp, bAV zb] := rfl
   have hzb := bAV_def zp
   have hzb2 := bAV_def zb
   have c1 := Same_refl zp (by omega)
   have c2 := Same_refl zb (by omega)
   have hcs := And.intro c1 (And.intro c2 True.intro)
   clear c1 c2 hmm hbm
   refine Wk ?_
   exact ⟨WS, WG, WN, _, (show B.length - (v + 1) < m_2 by omega), v + 1, rfl, WF, WF, WF, WC⟩
 ·have hu1 : u < L.length := by omega
  have hmz := hmm _ (List.getElem_mem hu1)
  obtain ⟨z, hz⟩ : ∃ z, L[u] = z := ⟨_, rfl⟩
  rw [hz] at hmz
  obtain ⟨zk, zm, zt⟩ := z
  simp only at hmz
  have hzd : macAV ⟨zk, zm, zt⟩ = .agg [tagAV zk, bAV zm, tagAV zt] := rfl
  have hzb := bAV_def zm
  have c1 := Same_refl zm (by omega)
  have hcs := And.intro c1 True.intro
  clear c1 hmm hbm
  refine Wk ?_
  exact ⟨WS, WG, WN, _, (show L.length - (u + 1) < m_1 by omega), u + 1, rfl, WF, WF, WF, WC⟩
theorem SamePass_refl (p : Pa) (hp : p.cavs.length ≤ 100000) (hc : ∀ c ∈ p.cavs, CaSm c) (k : Nat) :
  ACall Tryz.prog 38 [paAV p, paAV p] k [] (.lit (.bool true)) [] := by
 have c1 := refSame_cav p.cavs p.cavs hc hc hp hp
 rw [decide_eq_true rfl] at c1
 obtain ⟨ep, se, L, tg⟩ := p
 unfold paAV
 simp only at c1 ⊢
 refine Bd Tryz.func38 Tryz.ntmps38 fun σ N hp hpn hk hkn hfree => ?_
 have hcs := And.intro c1 True.intro
 clear c1
 exact W0
end Go.Proofs.YtdmjpolnbmoehaaGreatDoor
