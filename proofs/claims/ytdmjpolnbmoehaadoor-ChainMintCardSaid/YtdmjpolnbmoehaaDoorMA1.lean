/- Texts W4, U9, M9, W17, W3, joined. -/
import Derived.Test.YtdmjpolnbmoehaaDoorM9

namespace Go.Proofs.YtdmjpolnbmoehaaDoor
open Go.Ab
attribute [local irreducible] Go.Ab.tyAV Go.Ab.aw Go.Ab.aops Go.Ab.kReg Go.Ab.aThen Go.Ab.aBlk Go.Ab.acond Go.Ab.aguard Go.Ab.astep Go.Ab.AStepX Go.Ab.aRet
attribute [local irreducible] shaG
def ridesC (n : Int) : Ca := firC ⟨7, 0, 0, 0, [], n⟩
theorem ridesC_eq (n : Int) : caAV (ridesC n) = .agg [.lit (.bool false), .agg [.lit (.int .i64 7), .lit (.int .u64 0), .lit (.int .i64 0), .lit (.int .i64 0), .lit (.string ⟨#[]⟩), .lit (.int .i64 n)], .lit (.int .i64 0), .slice none [], .slice none []] := rfl
theorem rides13_spec (n : Int) (k : Nat) : ACall Tryd.prog 48 [.lit (.int .i64 n)] k [] (caAV (ridesC n)) [] := by
 rw [ridesC_eq]
 refine Bd Tryd.func48 Tryd.ntmps48 fun σ N hp hpn hk hkn hfree => ?_
 refine Wk ?_
 refine go_resultI (by simp (disch := omega) [go_sem, *, -List.reduceReplicate]; rfl) (AV.sub_agg (by repeat' first | exact ALe.nil | exact AV.le_refl _ | apply ALe.cons | ((first | apply AV.le_slices | apply AV.le_nilsE | apply AV.le_clipE); first | rfl | (simp (disch := omega) [go_sem, *, -List.reduceReplicate]; done)))) (by simp (disch := omega) [go_sem, -List.reduceReplicate]; try rfl) (fun id hid => by simp (disch := omega) only [upd_ne]; try exact hlow id hid)
section
variable [W : W32]
def aF : Alg := ⟨true, zeroTag, 0, [], []⟩
omit W in
theorem aF_eq : algAV aF = .agg [.lit (.bool true), tagAV zeroTag, .lit (.int .i64 0), .slice none [], .slice none []] := rfl
omit W in
theorem aF_in : AlgIn aF 0 := ⟨by simp [aF], by simp [aF], by simp [aF], by simp [aF], fun e he => by simp [aF] at he, fun e he => by simp [aF] at he⟩
omit W in
theorem entL_none {k : Tg} {m : List UInt8} : ∀ {L : List MacE}, (∀ e ∈ L, ¬ (e.key = k ∧ e.msg = m)) → entL k m L = none
 | [], _ => rfl
 | e :: r, h => by
  rw [entL, if_neg (h e (List.mem_cons_self ..))]
  exact entL_none fun x hx => h x (List.mem_cons_of_mem _ hx)
def L2 : List MacE := [⟨zeroTag, mintM 1, symT 109 1⟩, ⟨symT 109 1, nodeB, symT 109 2⟩]
def L4 (c : Ca) : List MacE := L2 ++ [⟨symT 109 1, cavM c, symT 109 3⟩, ⟨symT 109 3, nodeB, symT 109 4⟩]
omit W in
theorem mint_nnode : mintM 1 ≠ nodeB := by intro h; have := congrArg List.head? h; simp [mintM, nodeB] at this
omit W in
theorem mint_ncav (c : Ca) : mintM 1 ≠ cavM c := by intro h; have := congrArg List.head? h; simp [mintM, cavM] at this
omit W in
theorem node_ncav (c : Ca) : nodeB ≠ cavM c := by intro h; have := congrArg List.head? h; simp [nodeB, cavM] at this
theorem aw_mint : mintS aF 1 zeroTag 1 = (⟨true, zeroTag, 0, L2, []⟩, ⟨1, 1, [], symT 109 1⟩, 0) := by
 have hl := mintM_len 1 (by omega)
 have h1 : macS aF zeroTag (mintM 1) = (⟨true, zeroTag, 0, [⟨zeroTag, mintM 1, symT 109 1⟩], []⟩, symT 109 1, 0) := by
  rw [macS_new (by omega) rfl (by decide)]; rfl
 have h2 : macS ⟨true, zeroTag, 0, [⟨zeroTag, mintM 1, symT 109 1⟩], []⟩ (symT 109 1) nodeB = (⟨true, zeroTag, 0, L2, []⟩, symT 109 2, 0) := by
  rw [macS_new (by decide) (entL_none fun e he => ?_) (by decide)]; rfl
  rw [List.mem_singleton.1 he]
  exact fun h => mint_nnode h.2
 unfold mintS
 rw [if_neg (by omega)]
 have h3 := nodeS_3 (a := aF) (key := zeroTag) (msg := mintM 1) (by rw [h1]) (by rw [h1]; simp only; rw [h2])
 rw [h1] at h3
 simp only at h3
 rw [h2] at h3
 rw [show (1 : Int).toNat = 1 from rfl, h3, if_pos rfl]
theorem aw_att : attS ⟨true, zeroTag, 0, L2, []⟩ ⟨1, 1, [], symT 109 1⟩ (ridesC 3) = (⟨true, zeroTag, 0, L4 (ridesC 3), []⟩, ⟨1, 1, [ridesC 3], symT 109 3⟩, 0) := by
 have hl := cavM_len (ridesC 3)
 have h1 : macS ⟨true, zeroTag, 0, L2, []⟩ (symT 109 1) (cavM (ridesC 3)) = (⟨true, zeroTag, 0, L2 ++ [⟨symT 109 1, cavM (ridesC 3), symT 109 3⟩], []⟩, symT 109 3, 0) := by
  rw [macS_new (by omega) (entL_none fun e he => ?_) (by decide)]; rfl
  simp only [L2, List.mem_cons, List.not_mem_nil, or_false] at he
  rcases he with rfl | rfl
  ·exact fun h => mint_ncav _ h.2
  ·exact fun h => node_ncav _ h.2
 have h2 : macS ⟨true, zeroTag, 0, L2 ++ [⟨symT 109 1, cavM (ridesC 3), symT 109 3⟩], []⟩ (symT 109 3) nodeB = (⟨true, zeroTag, 0, L4 (ridesC 3), []⟩, symT 109 4, 0) := by
  rw [macS_new (by decide) (entL_none fun e he => ?_) (by decide)]; rfl
  simp only [L2, List.cons_append, List.nil_append, List.mem_cons, List.not_mem_nil, or_false] at he
  rcases he with rfl | rfl | rfl
  ·exact fun h => mint_nnode h.2
  ·exact fun h => by have := symT_inj (by omega) (by omega) (by omega) (by omega) h.1; omega
  ·exact fun h => node_ncav _ h.2.symm
 have h3 := nodeS_3 (a := ⟨true, zeroTag, 0, L2, []⟩) (key := symT 109 1) (msg := cavM (ridesC 3)) (by rw [h1]) (by rw [h1]; simp only; rw [h2])
 rw [h1] at h3
 simp only at h3
 rw [h2] at h3
 unfold attS
 rw [if_neg (by decide), if_neg (by decide), h3, if_pos rfl]
 rfl
set_option maxHeartbeats 1000000 in
theorem awake13_spec (g h : Nat) (hgh : g ≠ h) (k : Nat) : ACall Tryd.prog 17 [] k [(g, shaG), (h, bitsG)] (.lit (.bool true)) [] := by
 have c1 := Mint_spec aF 0 aF_in (by decide) 1 1 zeroTag g
 rw [aw_mint] at c1
 have c2 := rides13_spec 3
 have hin : AlgIn ⟨true, zeroTag, 0, L2, []⟩ 2 := by have := mintS_in aF_in 1 zeroTag 1; rw [aw_mint] at this; exact this
 have c3 := Att_spec _ 2 hin (by decide) ⟨1, 1, [], symT 109 1⟩ (by simp) (fun x hx => by cases hx) (ridesC 3) ⟨by simp [ridesC, firC], by simp [ridesC, firC]⟩ ⟨by decide, by decide, by decide⟩ g h hgh
 rw [aw_att] at c3
 have c4 := pSymbol_spec 109 1 (by decide)
 have c5 := pSymbol_spec 109 3 (by decide)
 have e1 : ((109 : UInt8).toNat : Int) = 109 := rfl
 have e2 : ((1 : Nat) : Int) = 1 := rfl
 have e3 : ((3 : Nat) : Int) = 3 := rfl
 have e0 : ((0 : Nat) : Int) = 0 := rfl
 rw [e1, e2] at c4
 rw [e1, e3] at c5
 unfold mpAV at c1 c3
 have hp1 : paAV ⟨1, 1, [], symT 109 1⟩ = .agg [.lit (.int .i64 1), .lit (.int .i64 1), .slice none [], tagAV (symT 109 1)] := rfl
 have hp2 : paAV ⟨1, 1, [ridesC 3], symT 109 3⟩ = .agg [.lit (.int .i64 1), .lit (.int .i64 1), .slice none [caAV (ridesC 3)], tagAV (symT 109 3)] := rfl
 have ha2 : algAV ⟨true, zeroTag, 0, L4 (ridesC 3), []⟩ = .agg [.lit (.bool true), tagAV zeroTag, .lit (.int .i64 0), .slice none ((L4 (ridesC 3)).map macAV), .slice none []] := rfl
 have hL : ((L4 (ridesC 3)).map macAV).length = 4 := rfl
 simp only [e0, hp1, hp2, aF_eq, ha2] at c1 c3
 generalize (L4 (ridesC 3)).map macAV = M4 at *
 generalize ridesC 3 = C3 at *
 generalize symT 109 1 = s1 at *
 generalize symT 109 3 = s3 at *
 generalize (⟨true, zeroTag, 0, L2, []⟩ : Alg) = A2 at *
 clear hin e0 e1 e2 e3 hp1 hp2 ha2
 refine Bd Tryd.func17 Tryd.ntmps17 fun σ N hp hpn hk hkn hfree => ?_
 simp only [List.mem_cons, List.not_mem_nil, or_false, forall_eq_or_imp, forall_eq] at hp hpn; obtain ⟨hd1, hd2⟩ := hp; obtain ⟨hdn1, hdn2⟩ := hpn
 have hcs := And.intro c1 (And.intro c2 (And.intro c3 (And.intro c4 (And.intro c5 True.intro))))
 clear c1 c2 c3 c4 c5
 exact W0
end

theorem Same_refl (b : List UInt8) (hb : b.length ≤ 140737488351232) (k : Nat) : ACall Tryd.prog 47 [.slice none (b.map byteAV), .slice none (b.map byteAV)] k [] (.lit (.bool true)) [] := by
 have := Same_spec b b hb k
 rw [decide_eq_true rfl] at this
 exact this
set_option maxHeartbeats 1000000 in
theorem SameAlg_refl (a : Alg) (m : Nat) (ha : AlgIn a m) (hm : m ≤ 1000000) (k : Nat) :
  ACall Tryd.prog 13 [algAV a, algAV a] k [] (.lit (.bool true)) [] := by
 obtain ⟨fr, sd, fs, L, B⟩ := a
 have hL := ha.ml
 have hB := ha.bl
 have hmm := ha.mm
 have hbm := ha.bm
 simp only at hL hB hmm hbm
 clear ha
 simp only [algAV]
 refine Bd Tryd.func13 Tryd.ntmps13 fun σ N hp hpn hk hkn hfree => ?_
 refine Wk ?_
 refine go_loopF mixed (by kernel_rfl) (4 :: 5 :: 46 :: 47 :: 48 :: 49 :: 50 :: 51 :: 52 :: 53 :: 54 :: 55 :: 56 :: 57 :: 58 :: 59 :: 60 :: 61 :: 62 :: 63 :: 64 :: 65 :: 66 :: 67 :: 68 :: 69 :: 70 :: 71 :: 72 :: 73 :: 74 :: 75 :: 76 :: 77 :: 78 :: 79 :: 80 :: 81 :: 82 :: 83 :: 84 :: 85 :: 86 :: 87 :: 88 :: 89 :: 90 :: 91 :: 92 :: 93 :: 94 :: 95 :: 96 :: []) [N, N+1] (fun m_ s_ σ_ n_ => ∃ (u : Nat), m_ = L.length - u ∧ s_ 5 = .lit (.int .i64 u) ∧ σ_ (N) = .box 30 (.agg [.lit (.bool fr), tagAV sd, .lit (.int .i64 fs), .slice none (L.map macAV), .slice none (B.map sealAV)]) ∧ σ_ (N+1) = .box 30 (.agg [.lit (.bool fr), tagAV sd, .lit (.int .i64 fs), .slice none (L.map macAV), .slice none (B.map sealAV)]) ∧ (u ≤ L.length)) ⟨_, 0, rfl, WF, WF, WF, WC⟩ ?_
 intro m_1 s_1 σ_1 n_1 hs_1 hf_1 hn_1 hI_1
 obtain ⟨u, hm_1, h1_5, e1_0, e1_1, hu⟩ := hI_1
 have h1_2 := KS hs_1 2
 have h1_3 := KS hs_1 3
 have hlow := KL (N := N) (σ := σ) hf_1
 by_cases hul : u = L.length
 ·subst hul
  refine Wk ?_
  refine go_loopF mixed (by kernel_rfl) [4, 6, 7, 8, 97, 98, 99, 100, 101, 102, 103, 104, 105, 106, 107, 108, 109, 110, 111, 112, 113, 114, 115, 116, 117, 118, 119, 120, 121, 122, 123, 124, 125, 126, 127, 128, 129, 130, 131, 132, 133, 134, 135, 136, 137, 138, 139, 140, 141] [N, N+1] (fun m_ s_ σ_ n_ => ∃ (v : Nat), m_ = B.length - v ∧ s_ 6 = .lit (.int .i64 v) ∧ σ_ (N) = .box 30 (.agg [.lit (.bool fr), tagAV sd, .lit (.int .i64 fs), .slice none (L.map macAV), .slice none (B.map sealAV)]) ∧ σ_ (N+1) = .box 30 (.agg [.lit (.bool fr), tagAV sd, .lit (.int .i64 fs), .slice none (L.map macAV), .slice none (B.map sealAV)]) ∧ (v ≤ B.length)) ⟨_, 0, rfl, WF, WF, WF, WC⟩ ?_
  intro m_2 s_2 σ_2 n_2 hs_2 hf_2 hn_2 hI_2
  obtain ⟨v, hm_2, h2_6, e2_0, e2_1, hv⟩ := hI_2
  have h2_2 := KS hs_2 2
  have h2_3 := KS hs_2 3
  have hlow := KL (N := N) (σ := σ) hf_2
  by_cases hvl : v = B.length
  ·subst hvl
   exact W0
  ·have hv1 : v < B.length := by omega
   have hmz := hbm _ (List.getElem_mem hv1)
   obtain ⟨z, hz⟩ : ∃ z, B[v] = z := ⟨_, rfl⟩
   rw [hz] at hmz
   obtain ⟨zk, zn, zp, zb⟩ := z
   simp only at hmz
   have hzd : sealAV ⟨zk, zn, zp, zb⟩ = .agg [tagAV zk, .lit (.int .i64 zn), bAV zp, bAV zb] := rfl
   have hzb := bAV_def zp
   have hzb2 := bAV_def zb
   have c1 := Same_refl zp (by omega)
   have c2 := Same_refl zb (by omega)
   have hcs := And.intro c1 (And.intro c2 True.intro)
   clear c1 c2 hmm hbm
   refine Wk ?_
   exact ⟨WS, WG, WN, _, (show B.length - (v + 1) < m_2 by omega), v + 1, rfl, WF, WF, WF, WC⟩
 ·have hu1 : u < L.length := by omega
  have hmz := hmm _ (List.getElem_mem hu1)
  obtain ⟨z, hz⟩ : ∃ z, L[u] = z := ⟨_, rfl⟩
  rw [hz] at hmz
  obtain ⟨zk, zm, zt⟩ := z
  simp only at hmz
  have hzd : macAV ⟨zk, zm, zt⟩ = .agg [tagAV zk, bAV zm, tagAV zt] := rfl
  have hzb := bAV_def zm
  have c1 := Same_refl zm (by omega)
  have hcs := And.intro c1 True.intro
  clear c1 hmm hbm
  refine Wk ?_
  exact ⟨WS, WG, WN, _, (show L.length - (u + 1) < m_1 by omega), u + 1, rfl, WF, WF, WF, WC⟩
theorem SamePass_refl (p : Pa) (hp : p.cavs.length ≤ 100000) (hc : ∀ c ∈ p.cavs, CaSm c) (k : Nat) :
  ACall Tryd.prog 14 [paAV p, paAV p] k [] (.lit (.bool true)) [] := by
 have c1 := refSame_cav p.cavs p.cavs hc hc hp hp
 rw [decide_eq_true rfl] at c1
 obtain ⟨ep, se, L, tg⟩ := p
 unfold paAV
 simp only at c1 ⊢
 refine Bd Tryd.func14 Tryd.ntmps14 fun σ N hp hpn hk hkn hfree => ?_
 have hcs := And.intro c1 True.intro
 clear c1
 exact W0
theorem SameBlank_refl (p : Bl) (hp : p.ticket.length ≤ 100000000) (k : Nat) :
  ACall Tryd.prog 26 [blAV p, blAV p] k [] (.lit (.bool true)) [] := by
 have c1 := Same_refl p.ticket (by omega)
 obtain ⟨ep, se, L⟩ := p
 unfold blAV
 simp only at c1 ⊢
 refine Bd Tryd.func26 Tryd.ntmps26 fun σ N hp hpn hk hkn hfree => ?_
 have hcs := And.intro c1 True.intro
 clear c1
 exact W0

theorem refNew_spec (fr : Bool) (sd : Tg) (k : Nat) :
  ACall Tryd.prog 37 [.lit (.bool fr), tagAV sd] k [] (algAV ⟨fr, sd, 0, [], []⟩) [] := by
 simp only [algAV, List.map_nil]
 refine Bd Tryd.func37 Tryd.ntmps37 fun σ N hp hpn hk hkn hfree => ?_
 exact WA
section
variable [W : W32]
def algStep (l : List Int) (i : Nat) (a : Alg) : Alg × Nat :=
 if (nextD l i 3).1 = 0 then ((keyS a).1, (nextD l i 3).2)
 else if (nextD l i 3).1 = 1 then ((macS a (knownD l (nextD l i 3).2 a).1 (bytesD l (knownD l (nextD l i 3).2 a).2 6).1).1, (bytesD l (knownD l (nextD l i 3).2 a).2 6).2)
 else ((sealS a (knownD l (nextD l i 3).2 a).1 (nextD l (knownD l (nextD l i 3).2 a).2 4).1 (bytesD l (nextD l (knownD l (nextD l i 3).2 a).2 4).2 40).1).1, (bytesD l (nextD l (knownD l (nextD l i 3).2 a).2 4).2 40).2)
theorem algStep_in {l : List Int} {i m : Nat} {a : Alg} (h : AlgIn a m) : AlgIn (algStep l i a).1 (m + 1) := by
 unfold algStep
 split
 ·exact keyS_in h
 ·split
  ·exact macS_in h _ _
  ·exact sealS_in h _ _ _
theorem algStep_dk {l : List Int} {i : Nat} {a : Alg} (h : Dk l i) : Dk l (algStep l i a).2 := by
 have h1 := nextD_dk 3 h
 unfold algStep
 split
 ·exact h1
 ·split
  ·exact bytesD_dk _ (knownD_dk a h1)
  ·exact bytesD_dk _ (nextD_dk _ (knownD_dk a h1))
def algK (l : List Int) : Nat → Nat → Alg → Alg × Nat
 | 0, i, a => (a, i)
 | f + 1, i, a => algK l f (algStep l i a).2 (algStep l i a).1
theorem algK_in {l : List Int} : ∀ f i m a, AlgIn a m → AlgIn (algK l f i a).1 (m + f)
 | 0, _, _, _, h => h
 | f + 1, i, m, a, h => by
  have := algK_in (l := l) f (algStep l i a).2 (m + 1) _ (algStep_in (l := l) (i := i) h)
  rw [show m + 1 + f = m + (f + 1) by omega] at this
  exact this
theorem algK_dk {l : List Int} : ∀ f i a, Dk l i → Dk l (algK l f i a).2
 | 0, _, _, h => h
 | f + 1, _i, _a, h => algK_dk f _ _ (algStep_dk h)
def algD (l : List Int) (i : Nat) : Alg × Nat :=
 algK l (nextD l (tagD l (nextD l i 2).2).2 5).1 (nextD l (tagD l (nextD l i 2).2).2 5).2 ⟨decide ((nextD l i 2).1 = 0), (tagD l (nextD l i 2).2).1, 0, [], []⟩
theorem algD_dk {l : List Int} {i : Nat} (h : Dk l i) : Dk l (algD l i).2 := algK_dk _ _ _ (nextD_dk _ (tagD_dk (nextD_dk _ h)))
theorem algD_in (l : List Int) (i : Nat) : AlgIn (algD l i).1 5 := by
 have h := algK_in (l := l) (nextD l (tagD l (nextD l i 2).2).2 5).1 (nextD l (tagD l (nextD l i 2).2).2 5).2 0 ⟨decide ((nextD l i 2).1 = 0), (tagD l (nextD l i 2).2).1, 0, [], []⟩ ⟨by simp, by simp, by simp, by simp, fun e he => by simp at he, fun e he => by simp at he⟩
 have h2 := nextD_lt l (tagD l (nextD l i 2).2).2 5 (by omega)
 exact h.more (by omega)
set_option maxHeartbeats 4000000 in
theorem Algebra_spec (l : List Int) (i : Nat) (h : Dk l i) (d k : Nat) :
  ACall Tryd.prog 10 [.ptr d [] 0] k [(d, deckBox l i)] (algAV (algD l i).1) [(d, deckBox l (algD l i).2)] := by
 unfold algD
 have c1 := Next_spec l i 2 h (by omega) (by omega)
 have d1 := nextD_dk 2 h
 have b1 := nextD_lt l i 2 (by omega)
 generalize nextD l i 2 = X at *
 obtain ⟨q, j1⟩ := X
 simp only at c1 d1 b1 ⊢
 have c2 := Tag_spec l j1 d1
 have d2 := tagD_dk d1
 generalize tagD l j1 = X at *
 obtain ⟨sd, j2⟩ := X
 simp only at c2 d2 ⊢
 have c4 := Next_spec l j2 5 d2 (by omega) (by omega)
 have d4 := nextD_dk 5 d2
 have b4 := nextD_lt l j2 5 (by omega)
 generalize nextD l j2 5 = X at *
 obtain ⟨K, j4⟩ := X
 simp only at c4 d4 b4 ⊢
 have hK : K ≤ 4 := by omega
 obtain ⟨fr, hfr⟩ : ∃ fr, decide (q = 0) = fr := ⟨_, rfl⟩
 have hfr2 : decide ((q : Int) = 0) = fr := by rw [← hfr]; congr 1; exact propext (by omega)
 have hfr3 : ((q : Int) == 0) = fr := by rw [← hfr2]; rfl
 have c3 := refNew_spec fr sd
 rw [hfr]
 generalize hA0 : (⟨fr, sd, 0, [], []⟩ : Alg) = A0 at *
 have hin : AlgIn A0 4 := by rw [← hA0]; exact ⟨by simp, by simp, by simp, by simp, fun e he => by simp at he, fun e he => by simp at he⟩
 have hin3 : AlgIn A0 (8 - K) := hin.more (by omega)
 obtain ⟨R, hR⟩ : ∃ R, algK l K j4 A0 = R := ⟨_, rfl⟩
 rw [hR]
 obtain ⟨R1, R2⟩ := R
 simp only
 refine Bd Tryd.func10 Tryd.ntmps10 fun σ N hp hpn hk hkn hfree => ?_
 obtain ⟨hd, hdn⟩ := HD0 hp hpn; clear hp hpn
 have hcs := And.intro (c1 d) (And.intro (c2 d) (And.intro c3 (And.intro (c4 d) True.intro)))
 clear c1 c2 c3 c4 d1 d2 h hfr hA0 b1 b4
 refine Wk ?_
 clear hcs
 have hn7 : ¬ N + 1 + 6 = d := by omega
 have hn8 : ¬ d = N + 1 + 6 := by omega
 refine go_loopF mixed (by kernel_rfl) [4, 13, 14, 15, 16, 17, 18, 19, 20, 21, 22, 23, 24, 25, 26, 27, 28, 29, 30, 31, 32, 33, 34, 35, 36, 37, 38, 39, 40, 41, 42, 43, 44, 45, 46, 47, 48, 49, 50, 51, 52, 53, 54] [d, N+7] (fun m_ s_ σ_ n_ => ∃ (f : Nat) (j' : Nat) (A : Alg), m_ = f ∧ s_ 4 = .lit (.int .i64 f) ∧ σ_ (d) = deckBox l j' ∧ σ_ (N+7) = .box 30 (algAV A) ∧ (f ≤ 4) ∧ (Dk l j') ∧ (AlgIn A (8 - f)) ∧ (algK l f j' A = (R1, R2))) ⟨_, K, j4, A0, rfl, WF, WF, WF, WC, WC, WC, WC⟩ ?_
 intro m_1 s_1 σ_1 n_1 hs_1 hf_1 hn_1 hI_1
 obtain ⟨f, j', A, hm_1, h1_4, e1_0, e1_1, hfl, hdj, hai, hacc⟩ := hI_1
 have h1_0 := KS hs_1 0
 have h1_2 := KS hs_1 2
 have h1_3 := KS hs_1 3
 have k1_0 := KE hf_1 (N)
 have hlow := KD (N := N) (d := d) (σ := σ) hf_1
 cases f with
 | zero =>
  simp only [algK, Prod.mk.injEq] at hacc
  obtain ⟨rfl, rfl⟩ := hacc
  refine Wk ?_
  exact RW (d) (deckBox l j')
 | succ f =>
  have hin2 := algStep_in (l := l) (i := j') hai
  have hdk2 := algStep_dk (a := A) hdj
  rw [show 8 - (f + 1) + 1 = 8 - f by omega] at hin2
  rw [algK] at hacc
  have c1 := Next_spec l j' 3 hdj (by omega) (by omega)
  have d1 := nextD_dk 3 hdj
  have b1 := nextD_lt l j' 3 (by omega)
  obtain ⟨St, hSt⟩ : ∃ St, algStep l j' A = St := ⟨_, rfl⟩
  rw [hSt] at hin2 hdk2 hacc
  unfold algStep at hSt
  generalize nextD l j' 3 = X at *
  obtain ⟨p, j5⟩ := X
  simp only at c1 d1 b1 hSt
  by_cases p0 : p = 0
  ·subst p0
   rw [if_pos rfl] at hSt
   have c2 := Key_spec A hai.f0
   generalize keyS A = X at *
   obtain ⟨A', t, e⟩ := X
   subst hSt
   unfold mkAV at c2
   simp only at c2 hin2 hdk2 hacc
   have hcs := And.intro (c1 d) (And.intro c2 True.intro)
   clear c1 c2 hai hdj d1 b1
   refine Wk ?_
   exact ⟨WS, WG, WN, _, (show (f) < m_1 by omega), f, j5, A', rfl, WF, WF, WF, WC, WC, WC, WC⟩
  ·rw [if_neg p0] at hSt
   have c2 := Known_spec l j5 d1 A _ hai (by omega)
   have d2 := knownD_dk A d1
   generalize knownD l j5 A = X at *
   obtain ⟨ky, j6⟩ := X
   simp only at c2 d2 hSt
   by_cases p1 : p = 1
   ·subst p1
    rw [if_pos rfl] at hSt
    have c3 := Bytes_spec l j6 6 d2 (by omega)
    have b3 := bytesD_len l j6 6
    generalize bytesD l j6 6 = X at *
    obtain ⟨bb, j7⟩ := X
    simp only at c3 b3 hSt
    have c4 := Mac_spec A ky bb (by have := hai.ml; omega) hai.mm
    generalize macS A ky bb = X at *
    obtain ⟨A', t, e⟩ := X
    subst hSt
    unfold mkAV at c4
    simp only at c4 hin2 hdk2 hacc
    have hcs := And.intro (c1 d) (And.intro (c2 d) (And.intro (c3 d) (And.intro c4 True.intro)))
    clear c1 c2 c3 c4 hai hdj d1 b1 d2
    refine Wk ?_
    exact ⟨WS, WG, WN, _, (show (f) < m_1 by omega), f, j7, A', rfl, WF, WF, WF, WC, WC, WC, WC⟩
   ·rw [if_neg p1] at hSt
    obtain rfl : p = 2 := by omega
    have c3 := Next_spec l j6 4 d2 (by omega) (by omega)
    have d3 := nextD_dk 4 d2
    generalize nextD l j6 4 = X at *
    obtain ⟨nn, j7⟩ := X
    simp only at c3 d3 hSt
    have c4 := Bytes_spec l j7 40 d3 (by omega)
    have b4 := bytesD_len l j7 40
    generalize bytesD l j7 40 = X at *
    obtain ⟨bb, j8⟩ := X
    simp only at c4 b4 hSt
    have c5 := Seal_spec A ky nn bb (by have := hai.bl; omega) hai.bm
    generalize sealS A ky nn bb = X at *
    obtain ⟨A', t, e⟩ := X
    subst hSt
    unfold skAV at c5
    simp only at c5 hin2 hdk2 hacc
    have hcs := And.intro (c1 d) (And.intro (c2 d) (And.intro (c3 d) (And.intro (c4 d) (And.intro c5 True.intro))))
    clear c1 c2 c3 c4 c5 hai hdj d1 b1 d2 d3
    refine Wk ?_
    exact ⟨WS, WG, WN, _, (show (f) < m_1 by omega), f, j8, A', rfl, WF, WF, WF, WC, WC, WC, WC⟩
end
end Go.Proofs.YtdmjpolnbmoehaaDoor

namespace Go.Proofs.YtdmjpolnbmoehaaDoor
open Go.Ab
attribute [local irreducible] Go.Ab.tyAV Go.Ab.aw Go.Ab.aops Go.Ab.kReg Go.Ab.aThen Go.Ab.aBlk Go.Ab.acond Go.Ab.aguard Go.Ab.astep Go.Ab.AStepX Go.Ab.aRet
structure DiW (d : Di) : Prop where
 tl : d.ticket.length ≤ 140737488351232
 cl : d.conds.length ≤ 9223372036854775807
 ok : ∀ p ∈ d.conds, PrOk p
def CaW (c : Ca) : Prop := PrOk c.first ∧ CaSm c
structure PaW (p : Pa) : Prop where
 cl : p.cavs.length ≤ 9223372036854775807
 ok : ∀ c ∈ p.cavs, CaW c
theorem tagW_of {x : AV} (h : tyAV Tryd.prog 8 24 x) : ∃ a : Tg, True ∧ x = tagAV a := ty_tag ar24 by5 h
end Go.Proofs.YtdmjpolnbmoehaaDoor

namespace Go.Proofs.YtdmjpolnbmoehaaDoor
open Go.Ab
attribute [local irreducible] Go.Ab.tyAV Go.Ab.aw Go.Ab.aops Go.Ab.kReg Go.Ab.aThen Go.Ab.aBlk Go.Ab.acond Go.Ab.aguard Go.Ab.astep Go.Ab.AStepX Go.Ab.aRet
attribute [local irreducible] shaG
theorem Upto_exW (l : List Int) (i : Nat) (h : Dk l i) (most : Nat) (hm : most ≤ 900000000000) :
  ∃ v j : Nat, v ≤ most ∧ Dk l j ∧ ∀ d k, ACall Tryd.prog 15 [.ptr d [] 0, .lit (.int .i64 most)] k [(d, deckBox l i)] (.lit (.int .i64 v)) [(d, deckBox l j)] := by
 obtain ⟨x, j1, x1, d1, c1⟩ := Next_at l i 4 h (by omega) (by omega)
 have hx : x = 0 ∨ x = 1 ∨ x = 2 ∨ x = 3 := by omega
 rcases hx with rfl | rfl | rfl | rfl
 ·obtain ⟨a, j2, a1, d2, c2⟩ := Next_at l j1 4 d1 (by omega) (by omega)
  obtain ⟨v, hv, hvm⟩ : ∃ v : Nat, (if most < a then (most : Int) else (a : Int)) = (v : Int) ∧ v ≤ most := ⟨min a most, by split <;> omega, by omega⟩
  refine ⟨v, j2, hvm, d2, fun d k => ?_⟩
  refine Bd Tryd.func15 Tryd.ntmps15 fun σ N hp hpn hk hkn hfree => ?_
  obtain ⟨hd, hdn⟩ := HD0 hp hpn; clear hp hpn
  have hcs := And.intro (c1 d) (And.intro (c2 d) True.intro)
  clear c1 c2
  refine Wk ?_
  exact RW (d) (deckBox l j2)
 ·obtain ⟨a, j2, a1, d2, c2⟩ := Next_at l j1 300 d1 (by omega) (by omega)
  obtain ⟨v, hv, hvm⟩ : ∃ v : Nat, (if most < a then (most : Int) else (a : Int)) = (v : Int) ∧ v ≤ most := ⟨min a most, by split <;> omega, by omega⟩
  refine ⟨v, j2, hvm, d2, fun d k => ?_⟩
  refine Bd Tryd.func15 Tryd.ntmps15 fun σ N hp hpn hk hkn hfree => ?_
  obtain ⟨hd, hdn⟩ := HD0 hp hpn; clear hp hpn
  have hcs := And.intro (c1 d) (And.intro (c2 d) True.intro)
  clear c1 c2
  refine Wk ?_
  exact RW (d) (deckBox l j2)
 ·obtain ⟨q, hq, hq0, hq1⟩ : ∃ q : Nat, (if (most : Int) + 1 < 3 then (most : Int) + 1 else 3) = (q : Int) ∧ 0 < q ∧ q ≤ most + 1 := ⟨min 3 (most + 1), by split <;> omega, by omega, by omega⟩
  obtain ⟨a, j2, a1, d2, c2⟩ := Next_at l j1 q d1 hq0 (by omega)
  refine ⟨most - a, j2, by omega, d2, fun d k => ?_⟩
  have hsub : ((most - a : Nat) : Int) = (most : Int) - (a : Int) := by omega
  rw [hsub]
  refine Bd Tryd.func15 Tryd.ntmps15 fun σ N hp hpn hk hkn hfree => ?_
  obtain ⟨hd, hdn⟩ := HD0 hp hpn; clear hp hpn
  have hcs := And.intro (c1 d) (And.intro (c2 d) True.intro)
  clear c1 c2 hsub
  refine Wk ?_
  exact RW (d) (deckBox l j2)
 ·obtain ⟨a, j2, a1, d2, c2⟩ := Next_at l j1 (most + 1) d1 (by omega) (by omega)
  have hc : ((most + 1 : Nat) : Int) = (most : Int) + 1 := by omega
  rw [hc] at c2
  refine ⟨a, j2, by omega, d2, fun d k => ?_⟩
  refine Bd Tryd.func15 Tryd.ntmps15 fun σ N hp hpn hk hkn hfree => ?_
  obtain ⟨hd, hdn⟩ := HD0 hp hpn; clear hp hpn
  have hcs := And.intro (c1 d) (And.intro (c2 d) True.intro)
  clear c1 c2 hc
  refine Wk ?_
  exact RW (d) (deckBox l j2)
section
variable [W : W32]
theorem mintS_cavs (a : Alg) (num : Int) (key : Tg) (ser : Int) : (mintS a num key ser).2.1.cavs = [] := by
 unfold mintS
 split
 ·rfl
 ·split <;> rfl
set_option maxHeartbeats 4000000 in
theorem ChainMint_core (xs : List Int) (hx : xs.length ≤ 9223372036854775807) (num ser : Int) (key : Tg) (g h : Nat) (hgh : g ≠ h) (k : Nat) :
  ACall Tryd.prog 3 [.slice none (xs.map intAV), .lit (.int .i64 num), .lit (.int .i64 ser), tagAV key] k [(g, shaG), (h, bitsG)] (.lit (.bool true)) [] := by
 have c1 := New_spec xs
 have hx0 : Dk xs 0 := ⟨hx, Nat.zero_le _⟩
 have c2 := Algebra_spec xs 0 hx0
 have hA := algD_in xs 0
 have hj0 := algD_dk (l := xs) (i := 0) hx0
 have c9 := awake13_spec g h hgh
 generalize algD xs 0 = X at *
 obtain ⟨A, j0⟩ := X
 simp only at *
 clear hx0 hx
 refine Bd Tryd.func3 Tryd.ntmps3 fun σ N hp hpn hk hkn hfree => ?_
 simp only [List.mem_cons, List.not_mem_nil, or_false, forall_eq_or_imp, forall_eq] at hp hpn; obtain ⟨hd1, hd2⟩ := hp; obtain ⟨hdn1, hdn2⟩ := hpn
 have hcs := And.intro c1 (And.intro (c2 (N + 2 + 1)) True.intro)
 clear c1 c2
 refine Wk ?_
 clear hcs
 refine go_loopF mixed (by kernel_rfl) (1 :: 2 :: 8 :: 11 :: 12 :: 13 :: 14 :: 15 :: 16 :: 17 :: 22 :: 23 :: 24 :: 25 :: 26 :: 27 :: 28 :: 29 :: 30 :: 31 :: 32 :: 33 :: 34 :: 35 :: 36 :: 37 :: 38 :: 39 :: 40 :: 41 :: 42 :: 43 :: 44 :: 45 :: 46 :: 47 :: 48 :: 49 :: 50 :: 51 :: 52 :: 53 :: 54 :: 55 :: 56 :: 57 :: 58 :: 59 :: 60 :: 61 :: 62 :: 63 :: 64 :: 65 :: 66 :: 67 :: []) [N, N+3] (fun m_ s_ σ_ n_ => ∃ (i : Nat) (nu : Int) (se : Int) (ky : Tg) (j : Nat), m_ = 2 - i ∧ s_ 11 = .lit (.int .i64 i) ∧ s_ 1 = .lit (.int .i64 nu) ∧ s_ 2 = .lit (.int .i64 se) ∧ σ_ (N) = .box 24 (tagAV ky) ∧ σ_ (N+3) = deckBox xs j ∧ (i ≤ 2) ∧ (Dk xs j)) ⟨_, 0, num, ser, key, j0, rfl, WF, WF, WF, WF, WF, WC, WC⟩ ?_
 intro m_1 s_1 σ_1 n_1 hs_1 hf_1 hn_1 hI_1
 obtain ⟨i, nu, se, ky, j, hm_1, h1_11, h1_1, h1_2, e1_0, e1_1, hi, hj⟩ := hI_1
 have h1_7 := KS hs_1 7
 have h1_9 := KS hs_1 9
 have h1_10 := KS hs_1 10
 have k1_0 := KE hf_1 (N + 7)
 have k1_1 := KE hf_1 (g)
 have k1_2 := KE hf_1 (h)
 have hlow := KL (N := N) (σ := σ) hf_1
 clear hj0
 by_cases hi2 : i = 2
 ·subst hi2
  have hcs := And.intro c9 True.intro
  clear c9 hA hj
  exact W0
 ·have hi1 : (i : Int) < 2 := by omega
  have c1 := Mint_spec A 5 hA (by decide) nu se ky g
  have c2 := refMint_spec A 5 hA (by decide) nu se ky
  have hin := mintS_in hA nu ky se
  have hcv := mintS_cavs A nu ky se
  have c3 := SameAlg_refl (mintS A nu ky se).1 7 hin (by decide)
  have c4 := SamePass_refl (mintS A nu ky se).2.1 (by rw [hcv]; simp) (fun c hc => by rw [hcv] at hc; cases hc)
  obtain ⟨v1, j1, _, d1, c5⟩ := Upto_exW xs j hj 1001 (by decide)
  obtain ⟨v2, j2, _, d2, c6⟩ := Upto_exW xs j1 d1 1073741825 (by decide)
  have c7 := Known_spec xs j2 d2 A 5 hA (by decide)
  have d3 := knownD_dk (l := xs) (i := j2) A d2
  generalize knownD xs j2 A = K at *
  obtain ⟨ky2, j3⟩ := K
  unfold mpAV at c1 c2
  generalize mintS A nu ky se = Y at *
  obtain ⟨A2, P2, E2⟩ := Y
  simp only at *
  have e1 : ((1001 : Nat) : Int) = 1001 := rfl
  have e2 : ((1073741825 : Nat) : Int) = 1073741825 := rfl
  rw [e1] at c5
  rw [e2] at c6
  have hcs := And.intro c1 (And.intro c2 (And.intro c3 (And.intro c4 (And.intro (c5 (N + 3)) (And.intro (c6 (N + 3)) (And.intro (c7 (N + 3)) True.intro))))))
  clear c1 c2 c3 c4 c5 c6 c7 c9 hA hin hcv hj d1 d2 e1 e2
  refine Wk ?_
  exact ⟨WS, WG, WN, _, (show 2 - (i + 1) < m_1 by omega), i + 1, v1, v2, ky2, j3, rfl, WF, WF, WF, WF, WF, WC, WC⟩
end
theorem ChainMint_spec (xs : List Int) (_ : ∀ n ∈ xs, (Lit.int .i64 n).wf = true) (hx : xs.length ≤ 9223372036854775807) (num ser : Int) (key : Tg) (_ : True) (g h : Nat) (hgh : g ≠ h) (k : Nat) :
  ACall Tryd.prog 3 [.slice none (xs.map intAV), .lit (.int .i64 num), .lit (.int .i64 ser), tagAV key] k [(g, shaG), (h, bitsG)] (.lit (.bool true)) [] :=
 @ChainMint_core w32 xs hx num ser key g h hgh k
end Go.Proofs.YtdmjpolnbmoehaaDoor
