/- Texts X10, W4, X11, D9, U8, U11, U28, U12, M9, X17, W18, X19, joined. -/
import Derived.Test.YtdmjpolnbmoehaaDoorMY1

namespace Go.Proofs.YtdmjpolnbmoehaaDoor
open Go.Ab
attribute [local irreducible] Go.Ab.tyAV Go.Ab.aw Go.Ab.aops Go.Ab.kReg Go.Ab.aThen Go.Ab.aBlk Go.Ab.acond Go.Ab.aguard Go.Ab.astep Go.Ab.AStepX Go.Ab.aRet
attribute [local irreducible] shaG
section
variable [W : W32]
end

def ridesC (n : Int) : Ca := firC ⟨7, 0, 0, 0, [], n⟩
theorem ridesC_eq (n : Int) : caAV (ridesC n) = .agg [.lit (.bool false), .agg [.lit (.int .i64 7), .lit (.int .u64 0), .lit (.int .i64 0), .lit (.int .i64 0), .lit (.string ⟨#[]⟩), .lit (.int .i64 n)], .lit (.int .i64 0), .slice none [], .slice none []] := rfl
theorem rides13_spec (n : Int) (k : Nat) : ACall Tryd.prog 48 [.lit (.int .i64 n)] k [] (caAV (ridesC n)) [] := by
 rw [ridesC_eq]
 refine Bd Tryd.func48 Tryd.ntmps48 fun σ N hp hpn hk hkn hfree => ?_
 refine Wk ?_
 refine go_resultI (by simp (disch := omega) [go_sem, *, -List.reduceReplicate]; rfl) (AV.sub_agg (by repeat' first | exact ALe.nil | exact AV.le_refl _ | apply ALe.cons | ((first | apply AV.le_slices | apply AV.le_nilsE | apply AV.le_clipE); first | rfl | (simp (disch := omega) [go_sem, *, -List.reduceReplicate]; done)))) (by simp (disch := omega) [go_sem, -List.reduceReplicate]; try rfl) (fun id hid => by simp (disch := omega) only [upd_ne]; try exact hlow id hid)
section
variable [W : W32]
def aF : Alg := ⟨true, zeroTag, 0, [], []⟩
omit W in
theorem aF_eq : algAV aF = .agg [.lit (.bool true), tagAV zeroTag, .lit (.int .i64 0), .slice none [], .slice none []] := rfl
omit W in
theorem aF_in : AlgIn aF 0 := ⟨by simp [aF], by simp [aF], by simp [aF], by simp [aF], fun e he => by simp [aF] at he, fun e he => by simp [aF] at he⟩
omit W in
theorem entL_none {k : Tg} {m : List UInt8} : ∀ {L : List MacE}, (∀ e ∈ L, ¬ (e.key = k ∧ e.msg = m)) → entL k m L = none
 | [], _ => rfl
 | e :: r, h => by
  rw [entL, if_neg (h e (List.mem_cons_self ..))]
  exact entL_none fun x hx => h x (List.mem_cons_of_mem _ hx)
def L2 : List MacE := [⟨zeroTag, mintM 1, symT 109 1⟩, ⟨symT 109 1, nodeB, symT 109 2⟩]
def L4 (c : Ca) : List MacE := L2 ++ [⟨symT 109 1, cavM c, symT 109 3⟩, ⟨symT 109 3, nodeB, symT 109 4⟩]
omit W in
theorem mint_nnode : mintM 1 ≠ nodeB := by intro h; have := congrArg List.head? h; simp [mintM, nodeB] at this
omit W in
theorem mint_ncav (c : Ca) : mintM 1 ≠ cavM c := by intro h; have := congrArg List.head? h; simp [mintM, cavM] at this
omit W in
theorem node_ncav (c : Ca) : nodeB ≠ cavM c := by intro h; have := congrArg List.head? h; simp [nodeB, cavM] at this
theorem aw_mint : mintS aF 1 zeroTag 1 = (⟨true, zeroTag, 0, L2, []⟩, ⟨1, 1, [], symT 109 1⟩, 0) := by
 have hl := mintM_len 1 (by omega)
 have h1 : macS aF zeroTag (mintM 1) = (⟨true, zeroTag, 0, [⟨zeroTag, mintM 1, symT 109 1⟩], []⟩, symT 109 1, 0) := by
  rw [macS_new (by omega) rfl (by decide)]; rfl
 have h2 : macS ⟨true, zeroTag, 0, [⟨zeroTag, mintM 1, symT 109 1⟩], []⟩ (symT 109 1) nodeB = (⟨true, zeroTag, 0, L2, []⟩, symT 109 2, 0) := by
  rw [macS_new (by decide) (entL_none fun e he => ?_) (by decide)]; rfl
  rw [List.mem_singleton.1 he]
  exact fun h => mint_nnode h.2
 unfold mintS
 rw [if_neg (by omega)]
 have h3 := nodeS_3 (a := aF) (key := zeroTag) (msg := mintM 1) (by rw [h1]) (by rw [h1]; simp only; rw [h2])
 rw [h1] at h3
 simp only at h3
 rw [h2] at h3
 rw [show (1 : Int).toNat = 1 from rfl, h3, if_pos rfl]
theorem aw_att : attS ⟨true, zeroTag, 0, L2, []⟩ ⟨1, 1, [], symT 109 1⟩ (ridesC 3) = (⟨true, zeroTag, 0, L4 (ridesC 3), []⟩, ⟨1, 1, [ridesC 3], symT 109 3⟩, 0) := by
 have hl := cavM_len (ridesC 3)
 have h1 : macS ⟨true, zeroTag, 0, L2, []⟩ (symT 109 1) (cavM (ridesC 3)) = (⟨true, zeroTag, 0, L2 ++ [⟨symT 109 1, cavM (ridesC 3), symT 109 3⟩], []⟩, symT 109 3, 0) := by
  rw [macS_new (by omega) (entL_none fun e he => ?_) (by decide)]; rfl
  simp only [L2, List.mem_cons, List.not_mem_nil, or_false] at he
  rcases he with rfl | rfl
  ·exact fun h => mint_ncav _ h.2
  ·exact fun h => node_ncav _ h.2
 have h2 : macS ⟨true, zeroTag, 0, L2 ++ [⟨symT 109 1, cavM (ridesC 3), symT 109 3⟩], []⟩ (symT 109 3) nodeB = (⟨true, zeroTag, 0, L4 (ridesC 3), []⟩, symT 109 4, 0) := by
  rw [macS_new (by decide) (entL_none fun e he => ?_) (by decide)]; rfl
  simp only [L2, List.cons_append, List.nil_append, List.mem_cons, List.not_mem_nil, or_false] at he
  rcases he with rfl | rfl | rfl
  ·exact fun h => mint_nnode h.2
  ·exact fun h => by have := symT_inj (by omega) (by omega) (by omega) (by omega) h.1; omega
  ·exact fun h => node_ncav _ h.2.symm
 have h3 := nodeS_3 (a := ⟨true, zeroTag, 0, L2, []⟩) (key := symT 109 1) (msg := cavM (ridesC 3)) (by rw [h1]) (by rw [h1]; simp only; rw [h2])
 rw [h1] at h3
 simp only at h3
 rw [h2] at h3
 unfold attS
 rw [if_neg (by decide), if_neg (by decide), h3, if_pos rfl]
 rfl
set_option maxHeartbeats 1000000 in
theorem awake13_spec (g h : Nat) (hgh : g ≠ h) (k : Nat) : ACall Tryd.prog 17 [] k [(g, shaG), (h, bitsG)] (.lit (.bool true)) [] := by
 have c1 := Mint_spec aF 0 aF_in (by decide) 1 1 zeroTag g
 rw [aw_mint] at c1
 have c2 := rides13_spec 3
 have hin : AlgIn ⟨true, zeroTag, 0, L2, []⟩ 2 := by have := mintS_in aF_in 1 zeroTag 1; rw [aw_mint] at this; exact this
 have c3 := Att_spec _ 2 hin (by decide) ⟨1, 1, [], symT 109 1⟩ (by simp) (fun x hx => by cases hx) (ridesC 3) ⟨by simp [ridesC, firC], by simp [ridesC, firC]⟩ ⟨by decide, by decide, by decide⟩ g h hgh
 rw [aw_att] at c3
 have c4 := pSymbol_spec 109 1 (by decide)
 have c5 := pSymbol_spec 109 3 (by decide)
 have e1 : ((109 : UInt8).toNat : Int) = 109 := rfl
 have e2 : ((1 : Nat) : Int) = 1 := rfl
 have e3 : ((3 : Nat) : Int) = 3 := rfl
 have e0 : ((0 : Nat) : Int) = 0 := rfl
 rw [e1, e2] at c4
 rw [e1, e3] at c5
 unfold mpAV at c1 c3
 have hp1 : paAV ⟨1, 1, [], symT 109 1⟩ = .agg [.lit (.int .i64 1), .lit (.int .i64 1), .slice none [], tagAV (symT 109 1)] := rfl
 have hp2 : paAV ⟨1, 1, [ridesC 3], symT 109 3⟩ = .agg [.lit (.int .i64 1), .lit (.int .i64 1), .slice none [caAV (ridesC 3)], tagAV (symT 109 3)] := rfl
 have ha2 : algAV ⟨true, zeroTag, 0, L4 (ridesC 3), []⟩ = .agg [.lit (.bool true), tagAV zeroTag, .lit (.int .i64 0), .slice none ((L4 (ridesC 3)).map macAV), .slice none []] := rfl
 have hL : ((L4 (ridesC 3)).map macAV).length = 4 := rfl
 simp only [e0, hp1, hp2, aF_eq, ha2] at c1 c3
 generalize (L4 (ridesC 3)).map macAV = M4 at *
 generalize ridesC 3 = C3 at *
 generalize symT 109 1 = s1 at *
 generalize symT 109 3 = s3 at *
 generalize (⟨true, zeroTag, 0, L2, []⟩ : Alg) = A2 at *
 clear hin e0 e1 e2 e3 hp1 hp2 ha2
 refine Bd Tryd.func17 Tryd.ntmps17 fun σ N hp hpn hk hkn hfree => ?_
 simp only [List.mem_cons, List.not_mem_nil, or_false, forall_eq_or_imp, forall_eq] at hp hpn; obtain ⟨hd1, hd2⟩ := hp; obtain ⟨hdn1, hdn2⟩ := hpn
 have hcs := And.intro c1 (And.intro c2 (And.intro c3 (And.intro c4 (And.intro c5 True.intro))))
 clear c1 c2 c3 c4 c5
 exact W0
end

def tg9 : Tg := ⟨9 :: List.replicate 31 0, by decide⟩
def tg8 : Tg := ⟨8 :: List.replicate 31 0, by decide⟩
def co9 : Co := ⟨1, tg9, []⟩
def co8 : Co := ⟨1, tg8, []⟩
section
variable [W : W32]
def bl14 : Alg × Bl × Nat := blankS aF co9 ⟨18, 150⟩
theorem aw14_facts : bl14.2.2 = 0 ∧ bl14.2.1.party = 1 ∧ bl14.2.1.ticket.length ≤ 1000 ∧ (openT bl14.1 co9 bl14.2.1.ticket).1 = bl14.2.1.key ∧ (openT bl14.1 co9 bl14.2.1.ticket).2.1.least = 18 ∧ (openT bl14.1 co9 bl14.2.1.ticket).2.2 = 0 ∧ (openT bl14.1 co8 bl14.2.1.ticket).2.2 = 14 := by
 have h3 : bl14.2.1.ticket.length = 75 := by kernel_rfl
 refine ⟨by kernel_rfl, by kernel_rfl, by omega, by kernel_rfl, by kernel_rfl, by kernel_rfl, by kernel_rfl⟩
set_option maxHeartbeats 2000000 in
theorem awake14_spec (g k : Nat) : ACall Tryd.prog 30 [] k [(g, shaG)] (.lit (.bool true)) [] := by
 obtain ⟨f1, f2, f3, f4, f5, f6, f7⟩ := aw14_facts
 have hin : AlgIn bl14.1 2 := blankS_in aF_in co9 ⟨18, 150⟩
 have c1 := Blank_spec aF 0 aF_in (by decide) co9 ⟨18, 150⟩ g
 rw [show blankS aF co9 ⟨18, 150⟩ = bl14 from rfl] at c1
 have c2 := tOpen_spec bl14.1 2 hin (by decide) co9 bl14.2.1.ticket (by omega) g
 have c3 := tOpen_spec bl14.1 2 hin (by decide) co8 bl14.2.1.ticket (by omega) g
 unfold mlAV at c1
 unfold moAV at c2 c3
 rw [f1, aF_eq] at c1
 rw [f4, f6] at c2
 rw [f7] at c3
 have hb : blAV bl14.2.1 = .agg [.lit (.int .i64 1), tagAV bl14.2.1.key, .slice none (bl14.2.1.ticket.map byteAV)] := by unfold blAV; rw [f2]
 have ht : teAV (openT bl14.1 co9 bl14.2.1.ticket).2.1 = .agg [.lit (.int .i64 18), .lit (.int .i64 (openT bl14.1 co9 bl14.2.1.ticket).2.1.most)] := by unfold teAV; rw [f5]
 rw [hb] at c1
 rw [ht] at c2
 have hc9 : concAV co9 = .agg [.lit (.int .i64 1), tagAV tg9, .slice none []] := rfl
 have hc8 : concAV co8 = .agg [.lit (.int .i64 1), tagAV tg8, .slice none []] := rfl
 have hz9 : AV.agg ((List.map byteAV zeroTag.val).set 0 (.lit (.int .u8 9))) = tagAV tg9 := rfl
 have hz8 : AV.agg ((List.map byteAV zeroTag.val).set 0 (.lit (.int .u8 8))) = tagAV tg8 := rfl
 have hte : teAV ⟨18, 150⟩ = .agg [.lit (.int .i64 18), .lit (.int .i64 150)] := rfl
 simp only [hc9, hc8, hte] at c1 c2 c3
 generalize (openT bl14.1 co9 bl14.2.1.ticket).2.1.most = M9 at *
 generalize openT bl14.1 co8 bl14.2.1.ticket = Z at *
 generalize bl14.1 = A1 at *
 generalize bl14.2.1.key = K1 at *
 generalize bl14.2.1.ticket = T1 at *
 clear hin hb ht f1 f2 f4 f5 f6 f7 hc9 hc8 hte
 generalize tg9 = G9 at *
 generalize tg8 = G8 at *
 refine Bd Tryd.func30 Tryd.ntmps30 fun σ N hp hpn hk hkn hfree => ?_
 obtain ⟨hd, hdn⟩ := HD0 hp hpn; clear hp hpn
 have hcs := And.intro c1 (And.intro c2 (And.intro c3 True.intro))
 clear c1 c2 c3
 exact W0
end
end Go.Proofs.YtdmjpolnbmoehaaDoor

namespace Go.Proofs.YtdmjpolnbmoehaaDoor
open Go.Ab
attribute [local irreducible] Go.Ab.tyAV Go.Ab.aw Go.Ab.aops Go.Ab.kReg Go.Ab.aThen Go.Ab.aBlk Go.Ab.acond Go.Ab.aguard Go.Ab.astep Go.Ab.AStepX Go.Ab.aRet
theorem minutes_spec (n : Int) (k : Nat) : ACall Tryd.prog 73 [.lit (.int .i64 n)] k [] (.lit (.bool (decide (0 ≤ n) && decide (n ≤ 67108864)))) [] := by
 by_cases h : 0 ≤ n
 ·rw [decide_eq_true h]
  refine Bd Tryd.func73 Tryd.ntmps73 fun σ N hp hpn hk hkn hfree => ?_
  exact W0
 ·rw [decide_eq_false h]
  refine Bd Tryd.func73 Tryd.ntmps73 fun σ N hp hpn hk hkn hfree => ?_
  exact W0
def ageBad (b m : Int) : Prop := m < 0 ∨ 67108864 < m ∨ b < -67108864 ∨ 67108864 < b ∨ m < b
instance (b m : Int) : Decidable (ageBad b m) := by unfold ageBad; infer_instance
def ageS (b m : Int) : Int := if ageBad b m then 0 else if (m - b) / 525600 < 150 then (m - b) / 525600 else 150
theorem age_A (n : List UInt8) (b m : Int) (h : (decide (0 ≤ m) && decide (m ≤ 67108864)) = false) (k : Nat) :
  ACall Tryd.prog 70 [persAV ⟨n, b⟩, .lit (.int .i64 m)] k [] (.lit (.int .i64 0)) [] := by
 have c1 := minutes_spec m
 rw [h] at c1
 clear h
 refine Bd Tryd.func70 Tryd.ntmps70 fun σ N hp hpn hk hkn hfree => ?_
 have hcs := And.intro c1 True.intro
 exact W0
theorem age_B (n : List UInt8) (b m w x : Int) (h : (decide (0 ≤ m) && decide (m ≤ 67108864)) = true) (hw : IntKind.i64.wrap (-b) = w) (hx : (if b < w then w else b) = x) (h2 : (decide (0 ≤ x) && decide (x ≤ 67108864)) = false) (k : Nat) :
  ACall Tryd.prog 70 [persAV ⟨n, b⟩, .lit (.int .i64 m)] k [] (.lit (.int .i64 0)) [] := by
 have c1 := minutes_spec m
 rw [h] at c1
 have c2 := minutes_spec x
 rw [h2] at c2
 clear h h2
 refine Bd Tryd.func70 Tryd.ntmps70 fun σ N hp hpn hk hkn hfree => ?_
 have hcs := And.intro c1 (And.intro c2 True.intro)
 exact W0
theorem age_C (n : List UInt8) (b m w x : Int) (h : (decide (0 ≤ m) && decide (m ≤ 67108864)) = true) (hw : IntKind.i64.wrap (-b) = w) (hx : (if b < w then w else b) = x) (h2 : (decide (0 ≤ x) && decide (x ≤ 67108864)) = true) (h3 : m < b) (k : Nat) :
  ACall Tryd.prog 70 [persAV ⟨n, b⟩, .lit (.int .i64 m)] k [] (.lit (.int .i64 0)) [] := by
 have c1 := minutes_spec m
 rw [h] at c1
 have c2 := minutes_spec x
 rw [h2] at c2
 clear h h2
 refine Bd Tryd.func70 Tryd.ntmps70 fun σ N hp hpn hk hkn hfree => ?_
 have hcs := And.intro c1 (And.intro c2 True.intro)
 exact W0
theorem age_D (n : List UInt8) (b m w x r : Int) (h : (decide (0 ≤ m) && decide (m ≤ 67108864)) = true) (hw : IntKind.i64.wrap (-b) = w) (hx : (if b < w then w else b) = x) (h2 : (decide (0 ≤ x) && decide (x ≤ 67108864)) = true) (h3 : ¬ m < b) (h4 : -67108864 ≤ b) (h5 : m ≤ 67108864)
  (hr : (if (150 : Int) < (m - b).tdiv 525600 then (150 : Int) else (m - b).tdiv 525600) = r) (k : Nat) :
  ACall Tryd.prog 70 [persAV ⟨n, b⟩, .lit (.int .i64 m)] k [] (.lit (.int .i64 r)) [] := by
 have c1 := minutes_spec m
 rw [h] at c1
 have c2 := minutes_spec x
 rw [h2] at c2
 have hwr : IntKind.i64.wrap (m - b) = m - b := wrap_i64 (by omega) (by omega)
 have hq : (m - b).tdiv 525600 = (m - b) / 525600 := Int.tdiv_eq_ediv_of_nonneg (by omega)
 rw [hq] at hr
 clear h h2
 refine Bd Tryd.func70 Tryd.ntmps70 fun σ N hp hpn hk hkn hfree => ?_
 have hcs := And.intro c1 (And.intro c2 True.intro)
 exact W0
theorem Age_spec (n : List UInt8) (b m : Int) (w : (Lit.int .i64 b).wf = true) (k : Nat) :
  ACall Tryd.prog 70 [persAV ⟨n, b⟩, .lit (.int .i64 m)] k [] (.lit (.int .i64 (ageS b m))) [] := by
 have wb : -9223372036854775808 ≤ b ∧ b ≤ 9223372036854775807 := i64_of_wf w
 unfold ageS
 by_cases h1 : m < 0 ∨ 67108864 < m
 ·rw [if_pos (by unfold ageBad; omega)]
  refine age_A n b m ?_ k
  rw [Bool.and_eq_false_iff, decide_eq_false_iff_not, decide_eq_false_iff_not]; omega
 ·have hm : (decide (0 ≤ m) && decide (m ≤ 67108864)) = true := by
   rw [Bool.and_eq_true, decide_eq_true_iff, decide_eq_true_iff]; omega
  by_cases h2 : b < -67108864 ∨ 67108864 < b
  ·rw [if_pos (by unfold ageBad; omega)]
   by_cases h3 : b = -9223372036854775808
   ·subst h3
    refine age_B n _ m (-9223372036854775808) (-9223372036854775808) hm (by decide +kernel) (by decide +kernel) (by decide +kernel) k
   ·refine age_B n b m (-b) (if b < -b then -b else b) hm (wrap_i64 (by omega) (by omega)) rfl ?_ k
    rw [Bool.and_eq_false_iff, decide_eq_false_iff_not, decide_eq_false_iff_not]; split <;> omega
  ·have hx : (decide (0 ≤ (if b < -b then -b else b)) && decide ((if b < -b then -b else b) ≤ 67108864)) = true := by
    rw [Bool.and_eq_true, decide_eq_true_iff, decide_eq_true_iff]; split <;> omega
   by_cases h3 : m < b
   ·rw [if_pos (by unfold ageBad; omega)]
    exact age_C n b m (-b) _ hm (wrap_i64 (by omega) (by omega)) rfl hx h3 k
   ·rw [if_neg (by unfold ageBad; omega)]
    refine age_D n b m (-b) _ _ hm (wrap_i64 (by omega) (by omega)) rfl hx h3 (by omega) (by omega) ?_ k
    rw [Int.tdiv_eq_ediv_of_nonneg (by omega)]
    split <;> split <;> omega
def findP (l : List Pe) (nm : List UInt8) : Pe × Bool := match l.find? (fun p => decide (p.name = nm)) with
 | some p => (p, true)
 | none => (⟨[], 0⟩, false)
theorem findP_at {l : List Pe} {nm : List UInt8} {u : Nat} {p : Pe} (h : u < l.length) (hx : l[u] = p) (hm : p.name = nm) (hno : ∀ y ∈ l.take u, ¬ y.name = nm) : findP l nm = (p, true) := by
 have : l.find? (fun p => decide (p.name = nm)) = some p := by
  rw [List.find?_eq_some_iff_getElem]
  refine ⟨by simp [hm], u, h, hx, fun j hj => ?_⟩
  have := hno l[j] (by rw [List.mem_iff_getElem]; exact ⟨j, by rw [List.length_take]; omega, by rw [List.getElem_take]⟩)
  simp [this]
 simp only [findP, this]
theorem findP_none {l : List Pe} {nm : List UInt8} (hno : ∀ y ∈ l, ¬ y.name = nm) : findP l nm = (⟨[], 0⟩, false) := by
 have : l.find? (fun p => decide (p.name = nm)) = none := by
  rw [List.find?_eq_none]; intro x hx; simp [hno x hx]
 simp only [findP, this]
theorem pno_succ {l : List Pe} {nm : List UInt8} {u : Nat} {p : Pe} (h : u < l.length) (hx : l[u] = p) (hm : ¬ p.name = nm) (hno : ∀ y ∈ l.take u, ¬ y.name = nm) : ∀ y ∈ l.take (u + 1), ¬ y.name = nm := by
 intro y hy
 rw [List.take_add_one, List.getElem?_eq_getElem h, hx] at hy
 simp only [Option.toList, List.mem_append, List.mem_singleton] at hy
 rcases hy with hy | rfl
 ·exact hno y hy
 ·exact hm
theorem Find_spec (p : Int) (t : Tg) (l : List Pe) (nm : List UInt8) (hl : l.length ≤ 1000000) (k : Nat) :
  ACall Tryd.prog 74 [concAV ⟨p, t, l⟩, strAV nm] k [] (.tup [persAV (findP l nm).1, .lit (.bool (findP l nm).2)]) [] := by
 have hnmv : strAV nm = .lit (.string ⟨nm.toArray⟩) := rfl
 refine Bd Tryd.func74 Tryd.ntmps74 fun σ N hp hpn hk hkn hfree => ?_
 refine Wk ?_
 refine go_loop (aloop mixed (by kernel_rfl) (fun c => ∃ (u : Nat), c.s 1 = strAV nm ∧ c.s 9 = .slice none (l.map persAV) ∧ c.s 10 = .lit (.int .i64 l.length) ∧ c.s 4 = .ptr (N + 1) [] 0 ∧ c.σ (N + 1) = .box 83 (persAV ⟨[], 0⟩) ∧ c.s 11 = .lit (.int .i64 u) ∧ u ≤ l.length ∧ N + 1 < c.n ∧ (∀ id, id < N → c.σ id = σ id) ∧ ∀ y ∈ l.take u, ¬ y.name = nm)
  (fun c => match c.s 11 with | .lit (.int _ m) => l.length - m.toNat | _ => 0) ⟨0, by simp (disch := omega) [go_sem, *, -List.reduceReplicate], by simp (disch := omega) [go_sem, *, -List.reduceReplicate], by simp (disch := omega) [go_sem, *, -List.reduceReplicate], by simp (disch := omega) [go_sem, *, -List.reduceReplicate], by simp (disch := omega) [go_sem, *, -List.reduceReplicate]; try rfl, by simp (disch := omega) [go_sem, *, -List.reduceReplicate], by omega, by simp only; omega, (fun id hid => by simp (disch := omega) only [upd_ne]; try exact hlow id hid), by simp⟩ ?_)
 rintro ⟨s, σ', n'⟩ ⟨u, h1, h9, h10, h4, hN1, h6, hu, hn', hlow, hno⟩
 simp only at h1 h9 h10 h4 hN1 h6 hn' hlow
 by_cases hul : u = l.length
 ·rw [findP_none (by rw [hul, List.take_length] at hno; exact hno)]
  clear hno
  exact W0
 ·have hu2 : u < l.length := by omega
  obtain ⟨x, hx⟩ : ∃ x, l[u] = x := ⟨_, rfl⟩
  by_cases hm : x.name = nm
  ·rw [findP_at hu2 hx hm hno]
   clear hno
   obtain ⟨xn, xb⟩ := x
   simp only at hm
   subst hm
   exact W0
  ·have hno2 := pno_succ hu2 hx hm hno
   clear hno
   obtain ⟨xn, xb⟩ := x
   simp only at hm
   refine Wk ?_
   refine ⟨⟨u + 1, by simp (disch := omega) [go_sem, *, -List.reduceReplicate], by simp (disch := omega) [go_sem, *, -List.reduceReplicate], by simp (disch := omega) [go_sem, *, -List.reduceReplicate], by simp (disch := omega) [go_sem, *, -List.reduceReplicate], by simp (disch := omega) [go_sem, *, -List.reduceReplicate], by simp (disch := omega) [go_sem, *, -List.reduceReplicate], by omega, by simp only; omega, (fun id hid => by simp (disch := omega) only [upd_ne]; try exact hlow id hid), hno2⟩, ?_⟩
   simp (disch := omega) [go_sem, *, -List.reduceReplicate]
   omega
end Go.Proofs.YtdmjpolnbmoehaaDoor

namespace Go.Proofs.YtdmjpolnbmoehaaDoor
open Go.Ab
attribute [local irreducible] Go.Ab.tyAV Go.Ab.aw Go.Ab.aops Go.Ab.kReg Go.Ab.aThen Go.Ab.aBlk Go.Ab.acond Go.Ab.aguard Go.Ab.astep Go.Ab.AStepX Go.Ab.aRet
attribute [local irreducible] shaG
section
variable [W : W32]
def holdP (h : List UInt8) : Pr := ⟨6, 0, 0, 0, h, 0⟩
def grantS (a : Alg) (c : Co) (t : List UInt8) (holder : List UInt8) (minute : Int) : Alg × Di × Nat :=
 if nameB holder = false then (alg0, di0, 7) else if minute < 0 ∨ 67108864 < minute then (alg0, di0, 1) else
 if (openT a c t).2.2 ≠ 0 then (alg0, di0, (openT a c t).2.2) else if (findP c.ps holder).2 = false then (alg0, di0, 12) else
 if ageS (findP c.ps holder).1.born minute < (openT a c t).2.1.least ∨ (openT a c t).2.1.most < ageS (findP c.ps holder).1.born minute then (alg0, di0, 25) else
 if (macS a (openT a c t).1 (grantM t)).2.2 = 0 then restrS (macS a (openT a c t).1 (grantM t)).1 ⟨t, [], (macS a (openT a c t).1 (grantM t)).2.1⟩ (holdP holder) else (alg0, di0, (macS a (openT a c t).1 (grantM t)).2.2)
end

section
variable [W : W32]
theorem nodeS_ok {a : Alg} {m : Nat} (h : AlgIn a m) (hm : m ≤ 60000) (key : Tg) {msg : List UInt8} (hl : msg.length ≤ 4096) : (macS a key msg).2.2 = 0 ∧ (macS (macS a key msg).1 (macS a key msg).2.1 nodeB).2.2 = 0 ∧ nodeS a key msg = ((macS (macS a key msg).1 (macS a key msg).2.1 nodeB).1, (macS a key msg).2.1, 0) := by
 have h1 : (macS a key msg).2.2 = 0 := macS_ok key hl (by have := h.ml; omega)
 have h2 : (macS (macS a key msg).1 (macS a key msg).2.1 nodeB).2.2 = 0 := macS_ok _ (by decide) (by have := (macS_in h key msg).ml; omega)
 exact ⟨h1, h2, nodeS_3 h1 h2⟩
theorem nodeS_keeps {a : Alg} {m : Nat} (h : AlgIn a m) (hm : m ≤ 60000) (key : Tg) {msg : List UInt8} (hl : msg.length ≤ 4096) : (nodeS a key msg).2.2 = 0 ∧ (nodeS a key msg).1.free = a.free ∧ (nodeS a key msg).1.fresh = a.fresh ∧ (nodeS a key msg).1.boxes = a.boxes := by
 obtain ⟨h1, h2, h3⟩ := nodeS_ok h hm key hl
 obtain ⟨a1, _, a3, a4⟩ := macS_free h1
 obtain ⟨b1, _, b3, b4⟩ := macS_free h2
 rw [h3]
 exact ⟨rfl, b1.trans a1, b3.trans a3, b4.trans a4⟩
theorem AlgOk.node {a : Alg} {m : Nat} (ok : AlgOk a) (h : AlgIn a m) (hm : m ≤ 60000) (key : Tg) {msg : List UInt8} (hl : msg.length ≤ 4096) : AlgOk (nodeS a key msg).1 := by
 obtain ⟨h1, h2, h3⟩ := nodeS_ok h hm key hl
 rw [h3]
 exact (ok.mac key msg).mac _ _
theorem attS_ok {a : Alg} {m : Nat} (h : AlgIn a m) (hm : m ≤ 60000) {p : Pa} {c : Ca} (hc : cavB c = true) (hl : p.cavs.length < 64) (ht : c.third = true → thirdsS p.cavs < 8) :
  attS a p c = ((nodeS a p.tag (cavM c)).1, ⟨p.epoch, p.serial, p.cavs ++ [c], (nodeS a p.tag (cavM c)).2.1⟩, 0) := by
 have h1 := (nodeS_keeps h hm p.tag (msg := cavM c) (by have := cavM_len c; omega)).1
 unfold attS
 rw [if_neg (by rw [hc]; simp), if_neg (by rintro (h | ⟨h, h'⟩); · omega
                                           ·have := ht h; omega), if_pos h1]
theorem restrS_ok {a : Alg} {m : Nat} (h : AlgIn a m) (hm : m ≤ 60000) {d : Di} {p : Pr} (hp : predB p = true) (hk : p.kind ≠ 7) (hl : d.conds.length < 8) :
  (macS a d.tag (condM p)).2.2 = 0 ∧ restrS a d p = ((macS a d.tag (condM p)).1, ⟨d.ticket, d.conds ++ [p], (macS a d.tag (condM p)).2.1⟩, 0) := by
 have h1 : (macS a d.tag (condM p)).2.2 = 0 := macS_ok _ (by have := condM_len p; omega) (by have := h.ml; omega)
 refine ⟨h1, ?_⟩
 unfold restrS
 rw [if_neg (by rw [hp]; simp), if_neg hk, if_neg (by omega), if_pos h1]
theorem blankS_ok {a : Alg} {m : Nat} (h : AlgIn a m) (hm : m ≤ 60000) {c : Co} {t : Te} (ht : teB t = true) (h0 : 0 ≤ c.party) (h7 : c.party ≤ 7) :
  keyS a = ({ a with fresh := a.fresh + 1 }, if a.free then symT 107 (a.fresh + 1) else derT a.seed (a.fresh + 1), 0) ∧ (sealS (keyS a).1 c.key (keyS a).1.fresh (plainT (keyS a).2.1 t)).2.2 = 0 ∧
  blankS a c t = ((sealS (keyS a).1 c.key (keyS a).1.fresh (plainT (keyS a).2.1 t)).1, ⟨c.party, (keyS a).2.1, (sealS (keyS a).1 c.key (keyS a).1.fresh (plainT (keyS a).2.1 t)).2.1⟩, 0) := by
 have hk := keyS_ok (a := a) (by have := h.f1; omega)
 have h2 : (sealS (keyS a).1 c.key (keyS a).1.fresh (plainT (keyS a).2.1 t)).2.2 = 0 := by
  refine sealS_ok _ ?_ ?_ (by have := plainT_len (keyS a).2.1 t ht; omega) ?_
  ·rw [hk]; have := h.f0; simp only; omega
  ·rw [hk]; have := h.f1; simp only; omega
  ·rw [hk]; have := h.bl; simp only; omega
 refine ⟨hk, h2, ?_⟩
 unfold blankS
 rw [if_neg (by rintro (h | h | h); · rw [ht] at h; cases h
                ·omega
                ·omega), if_pos (by rw [hk]), if_pos h2]
theorem sealS_box {a : Alg} (ok : AlgOk a) {key : Tg} {nonce : Int} {plain : List UInt8} (h : (sealS a key nonce plain).2.2 = 0) : (sealS a key nonce plain).2.1.length = plain.length + 40 := by
 unfold sealS at h ⊢
 split at h
 ·cases h
 ·rename_i h1
  split at h
  ·cases h
  ·rename_i h2
   rw [if_neg h1, if_neg h2]
   split at h
   ·rename_i b hb
    obtain ⟨e, he, k1, k2, k3, k4⟩ := boxL_mem hb
    simp only
    rw [← k4, ← k3]
    cases hfr : a.free with
    | true =>
     obtain ⟨i, hi, rfl⟩ := List.getElem_of_mem he
     rw [ok.bf hfr i hi, List.length_append, List.length_replicate, (symT _ _).2]; omega
    | false => rw [ok.bn hfr e he, sealB_len]
   ·split at h
    ·cases h
    ·rename_i h3
     rw [if_neg h3]
     simp only
     unfold sealN
     split
     ·rw [List.length_append, List.length_replicate, (symT _ _).2]; omega
     ·rw [sealB_len]
end

section
variable [W : W32]
theorem macS_sub {a : Alg} {key : Tg} {msg : List UInt8} (h : (macS a key msg).2.2 = 0) : ∀ e ∈ a.macs, e ∈ (macS a key msg).1.macs := fun e he => by
 by_cases h1 : 4096 < msg.length
 ·rw [macS_long h1] at h; cases h
 ·cases hE : entL key msg a.macs with
  | some t => rw [macS_found h1 hE]; exact he
  | none =>
   by_cases hf : 65536 ≤ a.macs.length
   ·rw [macS_full h1 hE hf] at h; cases h
   ·rw [macS_new h1 hE hf]; exact List.mem_append_left _ he
theorem macS_mem {a : Alg} {key : Tg} {msg : List UInt8} (h : (macS a key msg).2.2 = 0) : (⟨key, msg, (macS a key msg).2.1⟩ : MacE) ∈ (macS a key msg).1.macs := by
 by_cases h1 : 4096 < msg.length
 ·rw [macS_long h1] at h; cases h
 ·cases hE : entL key msg a.macs with
  | some t =>
   rw [macS_found h1 hE]
   obtain ⟨⟨x, y, z⟩, he, h2, h3, h4⟩ := entL_mem hE
   simp only at h2 h3 h4
   subst h2 h3 h4
   exact he
  | none =>
   by_cases hf : 65536 ≤ a.macs.length
   ·rw [macS_full h1 hE hf] at h; cases h
   ·rw [macS_new h1 hE hf]; exact List.mem_append_right _ (List.mem_singleton.2 rfl)
omit W in
def nodeIn (M : List MacE) (k : Tg) (m : List UInt8) (t : Tg) : Prop := (⟨k, m, t⟩ : MacE) ∈ M ∧ ∃ id, (⟨t, nodeB, id⟩ : MacE) ∈ M
omit W in
def pathIn (M : List MacE) : Tg → List (List UInt8) → Tg → Prop
 | k, [], t => k = t
 | k, m :: r, t => ∃ t', nodeIn M k m t' ∧ pathIn M t' r t
omit W in
theorem nodeIn.sub {M M' : List MacE} (hs : ∀ e ∈ M, e ∈ M') {k : Tg} {m : List UInt8} {t : Tg} (h : nodeIn M k m t) : nodeIn M' k m t := by
 obtain ⟨h1, id, h2⟩ := h
 exact ⟨hs _ h1, id, hs _ h2⟩
omit W in
theorem pathIn.sub {M M' : List MacE} (hs : ∀ e ∈ M, e ∈ M') : ∀ {L : List (List UInt8)} {k t : Tg}, pathIn M k L t → pathIn M' k L t
 | [], _, _, h => h
 | _ :: _, _, _, h => by
  obtain ⟨t', h1, h2⟩ := h
  exact ⟨t', h1.sub hs, h2.sub hs⟩
omit W in
theorem pathIn.snoc {M : List MacE} {m : List UInt8} {t t0 : Tg} (hn : nodeIn M t0 m t) : ∀ {L : List (List UInt8)} {k : Tg}, pathIn M k L t0 → pathIn M k (L ++ [m]) t
 | [], k, h => by
  have h : k = t0 := h
  subst h
  exact ⟨t, hn, rfl⟩
 | _ :: _, _, h => by
  obtain ⟨t', h1, h2⟩ := h
  exact ⟨t', h1, h2.snoc hn⟩
theorem nodeS_mem {a : Alg} {m : Nat} (h : AlgIn a m) (hm : m ≤ 60000) (key : Tg) {msg : List UInt8} (hl : msg.length ≤ 4096) :
  nodeIn (nodeS a key msg).1.macs key msg (nodeS a key msg).2.1 ∧ ∀ e ∈ a.macs, e ∈ (nodeS a key msg).1.macs := by
 obtain ⟨h1, h2, h3⟩ := nodeS_ok h hm key hl
 rw [h3]
 exact ⟨⟨macS_sub h2 _ (macS_mem h1), _, macS_mem h2⟩, fun e he => macS_sub h2 e (macS_sub h1 e he)⟩
theorem look_in {a : Alg} (ok : AlgOk a) {e : MacE} (he : e ∈ a.macs) : lookO a e.key e.msg = some e.tag := by
 unfold lookO
 cases hf : a.free with
 | true => rw [if_pos rfl]; exact ok.mu e he
 | false =>
  have := ok.ml e he
  rw [if_neg (by simp), if_neg (by omega), ok.mn hf e he]
end

structure Ss where
 A : Alg
 p : Pa
 gs : List Di
section
variable [W : W32]
structure DiV (g : Di) : Prop where
 t1 : 1 ≤ g.ticket.length
 t2 : g.ticket.length ≤ 200
 cl : g.conds.length ≤ 3
 cv : ∀ p ∈ g.conds, predB p = true ∧ PrOk p ∧ p.kind ≠ 7
def hidB (m : List UInt8) : Bool := m.head? == some 109 || m.head? == some 99 || m.head? == some 103
def hidT (L : List MacE) (t : Tg) : Prop := ∃ e ∈ L, e.tag = t ∧ hidB e.msg = true
omit W in
theorem hidT.sub {L L' : List MacE} {t : Tg} (h : hidT L t) (hs : ∀ e ∈ L, e ∈ L') : hidT L' t := by
 obtain ⟨e, he, h1, h2⟩ := h
 exact ⟨e, hs e he, h1, h2⟩
structure Good (con : Co) (se : Int) (S : Ss) (n m : Nat) : Prop where
 ain : AlgIn S.A m
 ok : AlgOk S.A
 ep : S.p.epoch = 2
 es : S.p.serial = se
 cl : S.p.cavs.length ≤ n
 cv : ∀ c ∈ S.p.cavs, cavB c = true ∧ PrOk c.first ∧ c.ticket.length ≤ 200 ∧ c.box.length ≤ 200
 th : thirdsS S.p.cavs ≤ n
 gl : S.gs.length ≤ n
 gv : ∀ g ∈ S.gs, DiV g
 nf : ∀ e ∈ S.A.boxes, e.nonce ≤ S.A.fresh
 gb : ∀ g ∈ S.gs, ∃ e ∈ S.A.boxes, e.box = g.ticket ∧ 1 ≤ e.nonce
 gd : ∀ i j (hi : i < S.gs.length) (hj : j < S.gs.length), (S.gs[i]).ticket = (S.gs[j]).ticket → i = j
 pt : hidT S.A.macs S.p.tag
 gt : ∀ g ∈ S.gs, hidT S.A.macs g.tag
omit W in
theorem readT_plain {k : Tg} {t : Te} (ht : teB t = true) : readT (plainT k t) = (k, t, 0) := by
 obtain ⟨h1, h2, h3⟩ := teB_iff.1 ht
 obtain ⟨x, y⟩ := t
 simp only at h1 h2 h3
 obtain ⟨x, rfl⟩ := Int.eq_ofNat_of_zero_le h1
 obtain ⟨y, rfl⟩ := Int.eq_ofNat_of_zero_le (show 0 ≤ y by omega)
 have hp : plainT k ⟨(x : Nat), (y : Nat)⟩ = k.1 ++ (leb x ++ leb y) := rfl
 rw [hp]
 have hkl := k.2
 have hlen : (k.1 ++ (leb x ++ leb y)).length = 32 + ((leb x).length + (leb y).length) := by simp [hkl]
 have hu : 0 + 32 ≤ (k.1 ++ (leb x ++ leb y)).length := by omega
 have ht1 : tagR (k.1 ++ (leb x ++ leb y)) 0 = (k, 32, 0) := by
  rw [tagR_ok hu]
  refine Prod.ext (Subtype.ext ?_) rfl
  simp only [List.drop_zero]
  exact List.take_left' hkl
 have hd : (k.1 ++ (leb x ++ leb y)).drop 32 = leb x ++ leb y := List.drop_left' hkl
 have hn1 := numR_at (b := k.1 ++ (leb x ++ leb y)) (u := 32) (n := x) (t := leb y) hd (by omega)
 have hd2 : (k.1 ++ (leb x ++ leb y)).drop (32 + (leb x).length) = leb y ++ [] := by
  rw [← List.drop_drop, hd, List.drop_left, List.append_nil]
 have hn2 := numR_at (b := k.1 ++ (leb x ++ leb y)) (u := 32 + (leb x).length) (n := y) (t := []) hd2 (by omega)
 unfold readT
 rw [ht1, hn1]
 simp only [hn2]
 rw [if_neg (by simp), if_neg (by simp), if_neg (by simp), if_neg (by rw [hlen, ht]; simp; omega)]
end

theorem refNew_spec (fr : Bool) (sd : Tg) (k : Nat) :
  ACall Tryd.prog 37 [.lit (.bool fr), tagAV sd] k [] (algAV ⟨fr, sd, 0, [], []⟩) [] := by
 simp only [algAV, List.map_nil]
 refine Bd Tryd.func37 Tryd.ntmps37 fun σ N hp hpn hk hkn hfree => ?_
 exact WA
section
variable [W : W32]
def algStep (l : List Int) (i : Nat) (a : Alg) : Alg × Nat :=
 if (nextD l i 3).1 = 0 then ((keyS a).1, (nextD l i 3).2)
 else if (nextD l i 3).1 = 1 then ((macS a (knownD l (nextD l i 3).2 a).1 (bytesD l (knownD l (nextD l i 3).2 a).2 6).1).1, (bytesD l (knownD l (nextD l i 3).2 a).2 6).2)
 else ((sealS a (knownD l (nextD l i 3).2 a).1 (nextD l (knownD l (nextD l i 3).2 a).2 4).1 (bytesD l (nextD l (knownD l (nextD l i 3).2 a).2 4).2 40).1).1, (bytesD l (nextD l (knownD l (nextD l i 3).2 a).2 4).2 40).2)
theorem algStep_in {l : List Int} {i m : Nat} {a : Alg} (h : AlgIn a m) : AlgIn (algStep l i a).1 (m + 1) := by
 unfold algStep
 split
 ·exact keyS_in h
 ·split
  ·exact macS_in h _ _
  ·exact sealS_in h _ _ _
theorem algStep_dk {l : List Int} {i : Nat} {a : Alg} (h : Dk l i) : Dk l (algStep l i a).2 := by
 have h1 := nextD_dk 3 h
 unfold algStep
 split
 ·exact h1
 ·split
  ·exact bytesD_dk _ (knownD_dk a h1)
  ·exact bytesD_dk _ (nextD_dk _ (knownD_dk a h1))
def algK (l : List Int) : Nat → Nat → Alg → Alg × Nat
 | 0, i, a => (a, i)
 | f + 1, i, a => algK l f (algStep l i a).2 (algStep l i a).1
theorem algK_in {l : List Int} : ∀ f i m a, AlgIn a m → AlgIn (algK l f i a).1 (m + f)
 | 0, _, _, _, h => h
 | f + 1, i, m, a, h => by
  have := algK_in (l := l) f (algStep l i a).2 (m + 1) _ (algStep_in (l := l) (i := i) h)
  rw [show m + 1 + f = m + (f + 1) by omega] at this
  exact this
theorem algK_dk {l : List Int} : ∀ f i a, Dk l i → Dk l (algK l f i a).2
 | 0, _, _, h => h
 | f + 1, _i, _a, h => algK_dk f _ _ (algStep_dk h)
def algD (l : List Int) (i : Nat) : Alg × Nat :=
 algK l (nextD l (tagD l (nextD l i 2).2).2 5).1 (nextD l (tagD l (nextD l i 2).2).2 5).2 ⟨decide ((nextD l i 2).1 = 0), (tagD l (nextD l i 2).2).1, 0, [], []⟩
theorem algD_dk {l : List Int} {i : Nat} (h : Dk l i) : Dk l (algD l i).2 := algK_dk _ _ _ (nextD_dk _ (tagD_dk (nextD_dk _ h)))
theorem algD_in (l : List Int) (i : Nat) : AlgIn (algD l i).1 5 := by
 have h := algK_in (l := l) (nextD l (tagD l (nextD l i 2).2).2 5).1 (nextD l (tagD l (nextD l i 2).2).2 5).2 0 ⟨decide ((nextD l i 2).1 = 0), (tagD l (nextD l i 2).2).1, 0, [], []⟩ ⟨by simp, by simp, by simp, by simp, fun e he => by simp at he, fun e he => by simp at he⟩
 have h2 := nextD_lt l (tagD l (nextD l i 2).2).2 5 (by omega)
 exact h.more (by omega)
set_option maxHeartbeats 4000000 in
theorem Algebra_spec (l : List Int) (i : Nat) (h : Dk l i) (d k : Nat) :
  ACall Tryd.prog 10 [.ptr d [] 0] k [(d, deckBox l i)] (algAV (algD l i).1) [(d, deckBox l (algD l i).2)] := by
 unfold algD
 have c1 := Next_spec l i 2 h (by omega) (by omega)
 have d1 := nextD_dk 2 h
 have b1 := nextD_lt l i 2 (by omega)
 generalize nextD l i 2 = X at *
 obtain ⟨q, j1⟩ := X
 simp only at c1 d1 b1 ⊢
 have c2 := Tag_spec l j1 d1
 have d2 := tagD_dk d1
 generalize tagD l j1 = X at *
 obtain ⟨sd, j2⟩ := X
 simp only at c2 d2 ⊢
 have c4 := Next_spec l j2 5 d2 (by omega) (by omega)
 have d4 := nextD_dk 5 d2
 have b4 := nextD_lt l j2 5 (by omega)
 generalize nextD l j2 5 = X at *
 obtain ⟨K, j4⟩ := X
 simp only at c4 d4 b4 ⊢
 have hK : K ≤ 4 := by omega
 obtain ⟨fr, hfr⟩ : ∃ fr, decide (q = 0) = fr := ⟨_, rfl⟩
 have hfr2 : decide ((q : Int) = 0) = fr := by rw [← hfr]; congr 1; exact propext (by omega)
 have hfr3 : ((q : Int) == 0) = fr := by rw [← hfr2]; rfl
 have c3 := refNew_spec fr sd
 rw [hfr]
 generalize hA0 : (⟨fr, sd, 0, [], []⟩ : Alg) = A0 at *
 have hin : AlgIn A0 4 := by rw [← hA0]; exact ⟨by simp, by simp, by simp, by simp, fun e he => by simp at he, fun e he => by simp at he⟩
 have hin3 : AlgIn A0 (8 - K) := hin.more (by omega)
 obtain ⟨R, hR⟩ : ∃ R, algK l K j4 A0 = R := ⟨_, rfl⟩
 rw [hR]
 obtain ⟨R1, R2⟩ := R
 simp only
 refine Bd Tryd.func10 Tryd.ntmps10 fun σ N hp hpn hk hkn hfree => ?_
 obtain ⟨hd, hdn⟩ := HD0 hp hpn; clear hp hpn
 have hcs := And.intro (c1 d) (And.intro (c2 d) (And.intro c3 (And.intro (c4 d) True.intro)))
 clear c1 c2 c3 c4 d1 d2 h hfr hA0 b1 b4
 refine Wk ?_
 clear hcs
 have hn7 : ¬ N + 1 + 6 = d := by omega
 have hn8 : ¬ d = N + 1 + 6 := by omega
 refine go_loopF mixed (by kernel_rfl) [4, 13, 14, 15, 16, 17, 18, 19, 20, 21, 22, 23, 24, 25, 26, 27, 28, 29, 30, 31, 32, 33, 34, 35, 36, 37, 38, 39, 40, 41, 42, 43, 44, 45, 46, 47, 48, 49, 50, 51, 52, 53, 54] [d, N+7] (fun m_ s_ σ_ n_ => ∃ (f : Nat) (j' : Nat) (A : Alg), m_ = f ∧ s_ 4 = .lit (.int .i64 f) ∧ σ_ (d) = deckBox l j' ∧ σ_ (N+7) = .box 30 (algAV A) ∧ (f ≤ 4) ∧ (Dk l j') ∧ (AlgIn A (8 - f)) ∧ (algK l f j' A = (R1, R2))) ⟨_, K, j4, A0, rfl, WF, WF, WF, WC, WC, WC, WC⟩ ?_
 intro m_1 s_1 σ_1 n_1 hs_1 hf_1 hn_1 hI_1
 obtain ⟨f, j', A, hm_1, h1_4, e1_0, e1_1, hfl, hdj, hai, hacc⟩ := hI_1
 have h1_0 := KS hs_1 0
 have h1_2 := KS hs_1 2
 have h1_3 := KS hs_1 3
 have k1_0 := KE hf_1 (N)
 have hlow := KD (N := N) (d := d) (σ := σ) hf_1
 cases f with
 | zero =>
  simp only [algK, Prod.mk.injEq] at hacc
  obtain ⟨rfl, rfl⟩ := hacc
  refine Wk ?_
  exact RW (d) (deckBox l j')
 | succ f =>
  have hin2 := algStep_in (l := l) (i := j') hai
  have hdk2 := algStep_dk (a := A) hdj
  rw [show 8 - (f + 1) + 1 = 8 - f by omega] at hin2
  rw [algK] at hacc
  have c1 := Next_spec l j' 3 hdj (by omega) (by omega)
  have d1 := nextD_dk 3 hdj
  have b1 := nextD_lt l j' 3 (by omega)
  obtain ⟨St, hSt⟩ : ∃ St, algStep l j' A = St := ⟨_, rfl⟩
  rw [hSt] at hin2 hdk2 hacc
  unfold algStep at hSt
  generalize nextD l j' 3 = X at *
  obtain ⟨p, j5⟩ := X
  simp only at c1 d1 b1 hSt
  by_cases p0 : p = 0
  ·subst p0
   rw [if_pos rfl] at hSt
   have c2 := Key_spec A hai.f0
   generalize keyS A = X at *
   obtain ⟨A', t, e⟩ := X
   subst hSt
   unfold mkAV at c2
   simp only at c2 hin2 hdk2 hacc
   have hcs := And.intro (c1 d) (And.intro c2 True.intro)
   clear c1 c2 hai hdj d1 b1
   refine Wk ?_
   exact ⟨WS, WG, WN, _, (show (f) < m_1 by omega), f, j5, A', rfl, WF, WF, WF, WC, WC, WC, WC⟩
  ·rw [if_neg p0] at hSt
   have c2 := Known_spec l j5 d1 A _ hai (by omega)
   have d2 := knownD_dk A d1
   generalize knownD l j5 A = X at *
   obtain ⟨ky, j6⟩ := X
   simp only at c2 d2 hSt
   by_cases p1 : p = 1
   ·subst p1
    rw [if_pos rfl] at hSt
    have c3 := Bytes_spec l j6 6 d2 (by omega)
    have b3 := bytesD_len l j6 6
    generalize bytesD l j6 6 = X at *
    obtain ⟨bb, j7⟩ := X
    simp only at c3 b3 hSt
    have c4 := Mac_spec A ky bb (by have := hai.ml; omega) hai.mm
    generalize macS A ky bb = X at *
    obtain ⟨A', t, e⟩ := X
    subst hSt
    unfold mkAV at c4
    simp only at c4 hin2 hdk2 hacc
    have hcs := And.intro (c1 d) (And.intro (c2 d) (And.intro (c3 d) (And.intro c4 True.intro)))
    clear c1 c2 c3 c4 hai hdj d1 b1 d2
    refine Wk ?_
    exact ⟨WS, WG, WN, _, (show (f) < m_1 by omega), f, j7, A', rfl, WF, WF, WF, WC, WC, WC, WC⟩
   ·rw [if_neg p1] at hSt
    obtain rfl : p = 2 := by omega
    have c3 := Next_spec l j6 4 d2 (by omega) (by omega)
    have d3 := nextD_dk 4 d2
    generalize nextD l j6 4 = X at *
    obtain ⟨nn, j7⟩ := X
    simp only at c3 d3 hSt
    have c4 := Bytes_spec l j7 40 d3 (by omega)
    have b4 := bytesD_len l j7 40
    generalize bytesD l j7 40 = X at *
    obtain ⟨bb, j8⟩ := X
    simp only at c4 b4 hSt
    have c5 := Seal_spec A ky nn bb (by have := hai.bl; omega) hai.bm
    generalize sealS A ky nn bb = X at *
    obtain ⟨A', t, e⟩ := X
    subst hSt
    unfold skAV at c5
    simp only at c5 hin2 hdk2 hacc
    have hcs := And.intro (c1 d) (And.intro (c2 d) (And.intro (c3 d) (And.intro (c4 d) (And.intro c5 True.intro))))
    clear c1 c2 c3 c4 c5 hai hdj d1 b1 d2 d3
    refine Wk ?_
    exact ⟨WS, WG, WN, _, (show (f) < m_1 by omega), f, j8, A', rfl, WF, WF, WF, WC, WC, WC, WC⟩
end

section
variable [W : W32]
theorem algStep_ok {l : List Int} {i : Nat} {a : Alg} (h : AlgOk a) : AlgOk (algStep l i a).1 := by
 unfold algStep
 split
 ·exact h.key
 ·split
  ·exact h.mac _ _
  ·exact h.sealed _ _ _
theorem algK_ok {l : List Int} : ∀ f i a, AlgOk a → AlgOk (algK l f i a).1
 | 0, _, _, h => h
 | f + 1, _, _, h => algK_ok f _ _ (algStep_ok h)
theorem algD_ok (l : List Int) (i : Nat) : AlgOk (algD l i).1 := algK_ok _ _ _ (.nil _ _ _)
theorem open_other {a : Alg} (ok : AlgOk a) (hl : a.boxes.length ≤ 1000000) (hf : a.free = true) {key other : Tg} {b p : List UInt8} (h : openS a key b = (p, 0)) (hne : other ≠ key) : openS a other b = ([], 14) := by
 unfold openS at h ⊢
 rw [if_pos hf] at h ⊢
 cases ho : openL other b a.boxes with
 | none => rfl
 | some q =>
  exfalso
  cases hk : openL key b a.boxes with
  | none => rw [hk] at h; simp at h
  | some q2 =>
   obtain ⟨e, he, k1, k2, _⟩ := openL_some ho
   obtain ⟨e', he', k1', k2', _⟩ := openL_some hk
   obtain ⟨i, hi, rfl⟩ := List.getElem_of_mem he
   obtain ⟨j, hj, rfl⟩ := List.getElem_of_mem he'
   have h3 := k2.trans k2'.symm
   rw [ok.bf hf i hi, ok.bf hf j hj] at h3
   have h4 := symApp_inj (by omega) (by omega) (by omega) (by omega) h3
   obtain rfl : i = j := by omega
   exact hne (k1.symm.trans k1')
theorem back_ok {a : Alg} {m : Nat} (hin : AlgIn a m) (hm : m ≤ 1000) (ok : AlgOk a) {c : Co} {t : Te} (ht : teB t = true) (h0 : 0 ≤ c.party) (h7 : c.party ≤ 7) :
  ∃ (b : Alg) (kt : Tg) (tk : List UInt8), blankS a c t = (b, ⟨c.party, kt, tk⟩, 0) ∧ AlgIn b (m + 2) ∧ AlgOk b ∧ 1 ≤ tk.length ∧ tk.length ≤ 90 ∧ openT b c tk = (kt, t, 0) ∧
   ∀ c' : Co, a.free = true → c'.key ≠ c.key → openT b c' tk = (zeroTag, te0, 14) := by
 obtain ⟨hk, hb2, hB⟩ := blankS_ok hin (by omega) (c := c) (t := t) ht h0 h7
 have okk := ok.key
 have ok1 := okk.sealed c.key (keyS a).1.fresh (plainT (keyS a).2.1 t)
 have ink := keyS_in hin
 have in1 := sealS_in ink c.key (keyS a).1.fresh (plainT (keyS a).2.1 t)
 have hpl := plainT_len (keyS a).2.1 t ht
 have htl := sealS_box okk hb2
 have hop := open_seal okk (by have := ink.bl; omega) hb2
 have hfr := (sealS_free hb2).1
 have hfk : (keyS a).1.free = a.free := by rw [hk]
 rw [hfk] at hfr
 clear hk
 have hrd : readT (plainT (keyS a).2.1 t) = ((keyS a).2.1, t, 0) := readT_plain ht
 generalize (keyS a).2.1 = kt at *
 generalize plainT kt t = pl at *
 generalize sealS (keyS a).1 c.key (keyS a).1.fresh pl = X at *
 obtain ⟨a1, tk, e1⟩ := X
 simp only at *
 refine ⟨a1, kt, tk, hB, in1.more (by omega), ok1, by omega, by omega, ?_, fun c' hf hne => ?_⟩
 ·unfold openT; rw [hop]; simp only; rw [if_neg (by simp)]; exact hrd
 ·have h14 := open_other ok1 (by have := in1.bl; omega) (hfr.trans hf) hop hne
  unfold openT; rw [h14]; simp
theorem granted {b : Alg} {m : Nat} (hin : AlgIn b m) (hm : m ≤ 1000) {c : Co} {kt : Tg} {t : Te} {tk : List UInt8} (htl : tk.length ≤ 90) (ho : openT b c tk = (kt, t, 0)) {nm : List UInt8} (hnm : nameB nm = true) {p : Pe} (hf : findP c.ps nm = (p, true)) {n : Int} (h0 : 0 ≤ n) (h1 : n ≤ 67108864) :
  (grantS b c tk nm n).2.2 = if ageS p.born n < t.least ∨ t.most < ageS p.born n then 25 else 0 := by
 unfold grantS
 rw [if_neg (by rw [hnm]; simp), if_neg (by omega), ho]
 simp only
 rw [if_neg (by simp), hf]
 simp only
 rw [if_neg (by simp)]
 split
 ·rfl
 ·have hm1 : (macS b kt (grantM tk)).2.2 = 0 := macS_ok _ (by simp [grantM]; omega) (by have := hin.ml; omega)
  have in5 := macS_in hin kt (grantM tk)
  rw [if_pos hm1]
  have hpv : predB (holdP nm) = true := by unfold predB holdP; simp [hnm]
  obtain ⟨r1, r2⟩ := restrS_ok in5 (by omega) (d := ⟨tk, [], (macS b kt (grantM tk)).2.1⟩) hpv (by simp [holdP]) (by simp)
  rw [r2]
theorem unknown {b : Alg} {c : Co} {kt : Tg} {t : Te} {tk : List UInt8} (ho : openT b c tk = (kt, t, 0)) {nm : List UInt8} (hnm : nameB nm = true) {p : Pe} (hf : findP c.ps nm = (p, false)) {n : Int} (h0 : 0 ≤ n) (h1 : n ≤ 67108864) : (grantS b c tk nm n).2.2 = 12 := by
 unfold grantS
 rw [if_neg (by rw [hnm]; simp), if_neg (by omega), ho]
 simp only
 rw [if_neg (by simp), hf]
 simp only
 rw [if_pos trivial]
end
end Go.Proofs.YtdmjpolnbmoehaaDoor

namespace Go.Proofs.YtdmjpolnbmoehaaDoor
open Go.Ab
attribute [local irreducible] Go.Ab.tyAV Go.Ab.aw Go.Ab.aops Go.Ab.kReg Go.Ab.aThen Go.Ab.aBlk Go.Ab.acond Go.Ab.aguard Go.Ab.astep Go.Ab.AStepX Go.Ab.aRet
theorem termsW_of {x : AV} (h : tyAV Tryd.prog 8 61 x) : ∃ t : Te, True ∧ x = teAV t := by
 obtain ⟨ys, rfl, h3, h4⟩ := ty_struct Tryd.underlying61 h
 obtain ⟨a, b, rfl⟩ : ∃ a b, ys = [a, b] := by
  match ys, h3 with
  | [a, b], _ => exact ⟨a, b, rfl⟩
 obtain ⟨v1, _, rfl⟩ := ty_int it3 (h4 0 _ _ rfl rfl)
 obtain ⟨v2, _, rfl⟩ := ty_int it3 (h4 1 _ _ rfl rfl)
 exact ⟨⟨v1, v2⟩, trivial, rfl⟩
theorem cutB0 (c : Nat) (b : List UInt8) : ∃ (m : Nat) (t : List UInt8), (if (c : Int) < (b.length : Int) then (c : Int) else (b.length : Int)) = (m : Int) ∧ m ≤ b.length ∧ m ≤ c ∧ t.length = m ∧ (b.map byteAV).take m = t.map byteAV := by
 refine ⟨min c b.length, b.take c, ?_, Nat.min_le_right .., Nat.min_le_left .., by simp, ?_⟩
 ·split <;> omega
 ·rw [← List.map_take]
  congr 1
  by_cases h : c ≤ b.length
  ·rw [Nat.min_eq_left h]
  ·rw [Nat.min_eq_right (by omega), List.take_length, List.take_of_length_le (by omega)]
end Go.Proofs.YtdmjpolnbmoehaaDoor

namespace Go.Proofs.YtdmjpolnbmoehaaDoor
open Go.Ab
attribute [local irreducible] Go.Ab.tyAV Go.Ab.aw Go.Ab.aops Go.Ab.kReg Go.Ab.aThen Go.Ab.aBlk Go.Ab.acond Go.Ab.aguard Go.Ab.astep Go.Ab.AStepX Go.Ab.aRet
attribute [local irreducible] shaG
theorem xor1_ne (a : UInt8) : x8 a 1 ≠ a := fun h => by
 have h1 := x8_x8 a 1
 have h2 : x8 a (x8 a 1) = x8 a a := by rw [h]
 rw [x8_xor] at h
 revert h
 have h3 : ∀ n : Fin 256, UInt8.ofNat n.val ^^^ 1 ≠ UInt8.ofNat n.val := by decide +kernel
 have h4 := h3 ⟨a.toNat, a.toNat_lt⟩
 simpa using h4
def flT (K : List UInt8) (h : K.length = 32) : Tg := ⟨K.set 3 (x8 (K[3]'(by omega)) 1), by rw [List.length_set, h]⟩
theorem flT_ne (K : List UInt8) (h : K.length = 32) : flT K h ≠ ⟨K, h⟩ := fun he => by
 have h1 := congrArg (fun t : Tg => t.1[3]?) he
 simp only [flT] at h1
 rw [List.getElem?_set_self (by omega), List.getElem?_eq_getElem (by omega)] at h1
 injection h1 with h1
 exact xor1_ne _ h1
section
variable [W : W32]
set_option maxHeartbeats 8000000 in
theorem TicketBack_core (xs : List Int) (hx : xs.length ≤ 9223372036854775807) (lo mo : Nat) (hlo : lo < 256) (hmo : mo < 256) (g k : Nat) :
  ACall Tryd.prog 7 [.slice none (xs.map intAV), .lit (.int .u8 lo), .lit (.int .u8 mo)] k [(g, shaG)] (.lit (.bool true)) [] := by
 have c1 := New_spec xs
 have hx0 : Dk xs 0 := ⟨hx, Nat.zero_le _⟩
 have c2 := Algebra_spec xs 0 hx0
 have hA := algD_in xs 0
 have hAo := algD_ok xs 0
 have hj0 := algD_dk (l := xs) (i := 0) hx0
 generalize algD xs 0 = X at *
 obtain ⟨A, j0⟩ := X
 simp only at *
 have c3 := Tag_spec xs j0 hj0
 have hj1 := tagD_dk hj0
 generalize tagD xs j0 = TD at *
 obtain ⟨T, j1⟩ := TD
 simp only at c3 hj1
 have c4 := Concession_spec xs j1 T hj1
 obtain ⟨hp0, hp7⟩ : 0 ≤ (concD xs j1 T).1.party ∧ (concD xs j1 T).1.party ≤ 7 := by
  have := nextD_lt xs j1 8 (by omega)
  unfold concD
  simp only
  omega
 have hck : (concD xs j1 T).1.key = T := rfl
 generalize concD xs j1 T = CD at *
 obtain ⟨⟨cp, ck, cs⟩, j2⟩ := CD
 simp only at c4 hp0 hp7 hck
 subst hck
 have hte : teB ⟨((lo % 100 : Nat) : Int), ((lo % 100 + mo % 50 : Nat) : Int)⟩ = true := by rw [teB_iff]; simp only; omega
 obtain ⟨B, kt, tk, f1, f2, f3, f4, f5, f6, f7⟩ := back_ok hA (by decide) hAo (c := ⟨cp, ck, cs⟩) hte hp0 hp7
 have c5 := Blank_spec A 5 hA (by decide) ⟨cp, ck, cs⟩ ⟨((lo % 100 : Nat) : Int), ((lo % 100 + mo % 50 : Nat) : Int)⟩ g
 rw [f1] at c5
 have c6 := tOpen_spec B 7 f2 (by decide) ⟨cp, ck, cs⟩ tk (by omega) g
 rw [f6] at c6
 obtain ⟨K, hK⟩ := ck
 have c7 := tOpen_spec B 7 f2 (by decide) ⟨cp, flT K hK, cs⟩ tk (by omega) g
 have f8 : A.free = true → (openT B ⟨cp, flT K hK, cs⟩ tk).2.2 = 14 := fun hf => by rw [f7 ⟨cp, flT K hK, cs⟩ hf (flT_ne K hK)]
 generalize openT B ⟨cp, flT K hK, cs⟩ tk = Z at *
 obtain ⟨z1, z2, z3⟩ := Z
 have hcA : concAV ⟨cp, ⟨K, hK⟩, cs⟩ = .agg [.lit (.int .i64 cp), .agg (K.map byteAV), .slice none (cs.map persAV)] := rfl
 have hcB : concAV ⟨cp, flT K hK, cs⟩ = .agg [.lit (.int .i64 cp), .agg ((K.set 3 (x8 (K[3]'(by omega)) 1)).map byteAV), .slice none (cs.map persAV)] := rfl
 have hbA : blAV ⟨cp, kt, tk⟩ = .agg [.lit (.int .i64 cp), tagAV kt, .slice none (tk.map byteAV)] := rfl
 have htA : teAV ⟨((lo % 100 : Nat) : Int), ((lo % 100 + mo % 50 : Nat) : Int)⟩ = .agg [.lit (.int .i64 ((lo : Int) % 100)), .lit (.int .i64 ((lo : Int) % 100 + (mo : Int) % 50))] := by
  unfold teAV; simp
 have c9 := awake14_spec g
 unfold mlAV at c5
 unfold moAV at c6 c7
 simp only at c5 c6 c7 f8
 rw [htA] at c5 c6
 rw [hbA] at c5
 rw [hcA] at c4 c5 c6
 rw [hcB] at c7
 have hAe : algAV A = .agg [.lit (.bool A.free), tagAV A.seed, .lit (.int .i64 A.fresh), .slice none (A.macs.map macAV), .slice none (A.boxes.map sealAV)] := rfl
 rw [hAe] at c2 c5
 obtain ⟨b3, hb3⟩ : ∃ b3, K[3]'(by omega) = b3 := ⟨_, rfl⟩
 rw [hb3] at c7
 have hK3 : K[3]? = some b3 := by rw [List.getElem?_eq_getElem (by omega), hb3]
 have hx8 := x8_eq b3 1
 have e81 : (((1 : UInt8).toNat : Nat) : Int) = 1 := rfl
 rw [e81] at hx8
 have hset := set_bytes K 3 (x8 b3 1)
 have hK2l : (K.set 3 (x8 b3 1)).length = 32 := by rw [List.length_set, hK]
 generalize K.set 3 (x8 b3 1) = K2 at *
 have hs3 : AV.celll (K.map byteAV) = true := celll_bytes K
 have hs4 : AV.celll (K2.map byteAV) = true := celll_bytes K2
 have hs5 : AV.szl (K.map byteAV) = 32 := by rw [AV.szl_uniform _ 1 (fun x hx => by obtain ⟨c, _, rfl⟩ := List.mem_map.1 hx; rfl), List.length_map, hK]
 have hs6 : AV.szl (K2.map byteAV) = 32 := by rw [AV.szl_uniform _ 1 (fun x hx => by obtain ⟨c, _, rfl⟩ := List.mem_map.1 hx; rfl), List.length_map, hK2l]
 generalize x8 b3 1 = y8 at *
 have hset2 : (K.map byteAV).set 3 (AV.lit (.int .u8 (y8.toNat : Int))) = K2.map byteAV := hset
 clear hset
 rw [← hb3] at hx8
 have hl8 : (lo : Int).tmod 100 = (lo : Int) % 100 := Int.tmod_eq_emod_of_nonneg (by omega)
 have hm8 : (mo : Int).tmod 50 = (mo : Int) % 50 := Int.tmod_eq_emod_of_nonneg (by omega)
 have hwl : IntKind.i64.wrap (lo : Int) = lo := wrap_i64 (by omega) (by omega)
 have hwm : IntKind.i64.wrap (mo : Int) = mo := wrap_i64 (by omega) (by omega)
 generalize hLO : (lo : Int) % 100 = LO at *
 generalize hMO : (mo : Int) % 50 = MO at *
 have hlo2 : 0 ≤ LO ∧ LO < 100 := by omega
 have hmo2 : 0 ≤ MO ∧ MO < 50 := by omega
 have hs1 := tagAV_sz ⟨K, hK⟩
 have hs2 := tagAV_cell ⟨K, hK⟩
 have hkA : tagAV ⟨K, hK⟩ = .agg (K.map byteAV) := rfl
 rw [hkA] at hs1 hs2
 clear f1 f2 f3 f4 f5 f6 f7 hAe hcA hcB hbA htA hte hAo hj0 hj1 hx0 hx hkA hb3 e81 hp0 hp7 hA
 cases hfr : A.free with
 | true =>
  have hz3 := f8 hfr
  subst hz3
  rw [hfr] at c2 c5
  clear f8 hfr
  refine Bd Tryd.func7 Tryd.ntmps7 fun σ N hp hpn hk hkn hfree => ?_
  obtain ⟨hd, hdn⟩ := HD0 hp hpn; clear hp hpn
  have hcs := And.intro c1 (And.intro (c2 (N + 1 + 1)) (And.intro (c3 (N + 1 + 1)) (And.intro (c4 (N + 1 + 1)) (And.intro c5 (And.intro c6 (And.intro c7 (And.intro c9 True.intro)))))))
  clear c1 c2 c3 c4 c5 c6 c7 c9
  exact W0
 | false =>
  rw [hfr] at c2 c5
  clear f8 hfr
  refine Bd Tryd.func7 Tryd.ntmps7 fun σ N hp hpn hk hkn hfree => ?_
  obtain ⟨hd, hdn⟩ := HD0 hp hpn; clear hp hpn
  have hcs := And.intro c1 (And.intro (c2 (N + 1 + 1)) (And.intro (c3 (N + 1 + 1)) (And.intro (c4 (N + 1 + 1)) (And.intro c5 (And.intro c6 (And.intro c7 (And.intro c9 True.intro)))))))
  clear c1 c2 c3 c4 c5 c6 c7 c9
  exact W0
end
theorem TicketBack_spec (xs : List Int) (_ : ∀ n ∈ xs, (Lit.int .i64 n).wf = true) (hx : xs.length ≤ 9223372036854775807) (n : Int) (w : (Lit.int .u8 n).wf = true) (n2 : Int) (w2 : (Lit.int .u8 n2).wf = true) (g k : Nat) :
  ACall Tryd.prog 7 [.slice none (xs.map intAV), .lit (.int .u8 n), .lit (.int .u8 n2)] k [(g, shaG)] (.lit (.bool true)) [] := by
 obtain ⟨b, _, rfl⟩ := byte_of_wf w
 obtain ⟨b2, _, rfl⟩ := byte_of_wf w2
 exact @TicketBack_core w32 xs hx b.toNat b2.toNat (by have := b.toNat_lt; omega) (by have := b2.toNat_lt; omega) g k
end Go.Proofs.YtdmjpolnbmoehaaDoor
