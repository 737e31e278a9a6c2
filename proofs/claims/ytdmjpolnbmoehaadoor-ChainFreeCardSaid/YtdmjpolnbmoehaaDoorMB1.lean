/- Texts W4, U6, U5, U7, D9, U8, U11, U28, W2, W6, W11, joined. -/
import Derived.Test.YtdmjpolnbmoehaaDoorM9

namespace Go.Proofs.YtdmjpolnbmoehaaDoor
open Go.Ab
attribute [local irreducible] Go.Ab.tyAV Go.Ab.aw Go.Ab.aops Go.Ab.kReg Go.Ab.aThen Go.Ab.aBlk Go.Ab.acond Go.Ab.aguard Go.Ab.astep Go.Ab.AStepX Go.Ab.aRet
attribute [local irreducible] shaG
def ridesC (n : Int) : Ca := firC ⟨7, 0, 0, 0, [], n⟩
theorem ridesC_eq (n : Int) : caAV (ridesC n) = .agg [.lit (.bool false), .agg [.lit (.int .i64 7), .lit (.int .u64 0), .lit (.int .i64 0), .lit (.int .i64 0), .lit (.string ⟨#[]⟩), .lit (.int .i64 n)], .lit (.int .i64 0), .slice none [], .slice none []] := rfl
theorem rides13_spec (n : Int) (k : Nat) : ACall Tryd.prog 48 [.lit (.int .i64 n)] k [] (caAV (ridesC n)) [] := by
 rw [ridesC_eq]
 refine Bd Tryd.func48 Tryd.ntmps48 fun σ N hp hpn hk hkn hfree => ?_
 refine Wk ?_
 refine go_resultI (by simp (disch := omega) [go_sem, *, -List.reduceReplicate]; rfl) (AV.sub_agg (by repeat' first | exact ALe.nil | exact AV.le_refl _ | apply ALe.cons | ((first | apply AV.le_slices | apply AV.le_nilsE | apply AV.le_clipE); first | rfl | (simp (disch := omega) [go_sem, *, -List.reduceReplicate]; done)))) (by simp (disch := omega) [go_sem, -List.reduceReplicate]; try rfl) (fun id hid => by simp (disch := omega) only [upd_ne]; try exact hlow id hid)
section
variable [W : W32]
def aF : Alg := ⟨true, zeroTag, 0, [], []⟩
omit W in
theorem aF_eq : algAV aF = .agg [.lit (.bool true), tagAV zeroTag, .lit (.int .i64 0), .slice none [], .slice none []] := rfl
omit W in
theorem aF_in : AlgIn aF 0 := ⟨by simp [aF], by simp [aF], by simp [aF], by simp [aF], fun e he => by simp [aF] at he, fun e he => by simp [aF] at he⟩
omit W in
theorem entL_none {k : Tg} {m : List UInt8} : ∀ {L : List MacE}, (∀ e ∈ L, ¬ (e.key = k ∧ e.msg = m)) → entL k m L = none
 | [], _ => rfl
 | e :: r, h => by
  rw [entL, if_neg (h e (List.mem_cons_self ..))]
  exact entL_none fun x hx => h x (List.mem_cons_of_mem _ hx)
def L2 : List MacE := [⟨zeroTag, mintM 1, symT 109 1⟩, ⟨symT 109 1, nodeB, symT 109 2⟩]
def L4 (c : Ca) : List MacE := L2 ++ [⟨symT 109 1, cavM c, symT 109 3⟩, ⟨symT 109 3, nodeB, symT 109 4⟩]
omit W in
theorem mint_nnode : mintM 1 ≠ nodeB := by intro h; have := congrArg List.head? h; simp [mintM, nodeB] at this
omit W in
theorem mint_ncav (c : Ca) : mintM 1 ≠ cavM c := by intro h; have := congrArg List.head? h; simp [mintM, cavM] at this
omit W in
theorem node_ncav (c : Ca) : nodeB ≠ cavM c := by intro h; have := congrArg List.head? h; simp [nodeB, cavM] at this
theorem aw_mint : mintS aF 1 zeroTag 1 = (⟨true, zeroTag, 0, L2, []⟩, ⟨1, 1, [], symT 109 1⟩, 0) := by
 have hl := mintM_len 1 (by omega)
 have h1 : macS aF zeroTag (mintM 1) = (⟨true, zeroTag, 0, [⟨zeroTag, mintM 1, symT 109 1⟩], []⟩, symT 109 1, 0) := by
  rw [macS_new (by omega) rfl (by decide)]; rfl
 have h2 : macS ⟨true, zeroTag, 0, [⟨zeroTag, mintM 1, symT 109 1⟩], []⟩ (symT 109 1) nodeB = (⟨true, zeroTag, 0, L2, []⟩, symT 109 2, 0) := by
  rw [macS_new (by decide) (entL_none fun e he => ?_) (by decide)]; rfl
  rw [List.mem_singleton.1 he]
  exact fun h => mint_nnode h.2
 unfold mintS
 rw [if_neg (by omega)]
 have h3 := nodeS_3 (a := aF) (key := zeroTag) (msg := mintM 1) (by rw [h1]) (by rw [h1]; simp only; rw [h2])
 rw [h1] at h3
 simp only at h3
 rw [h2] at h3
 rw [show (1 : Int).toNat = 1 from rfl, h3, if_pos rfl]
theorem aw_att : attS ⟨true, zeroTag, 0, L2, []⟩ ⟨1, 1, [], symT 109 1⟩ (ridesC 3) = (⟨true, zeroTag, 0, L4 (ridesC 3), []⟩, ⟨1, 1, [ridesC 3], symT 109 3⟩, 0) := by
 have hl := cavM_len (ridesC 3)
 have h1 : macS ⟨true, zeroTag, 0, L2, []⟩ (symT 109 1) (cavM (ridesC 3)) = (⟨true, zeroTag, 0, L2 ++ [⟨symT 109 1, cavM (ridesC 3), symT 109 3⟩], []⟩, symT 109 3, 0) := by
  rw [macS_new (by omega) (entL_none fun e he => ?_) (by decide)]; rfl
  simp only [L2, List.mem_cons, List.not_mem_nil, or_false] at he
  rcases he with rfl | rfl
  ·exact fun h => mint_ncav _ h.2
  ·exact fun h => node_ncav _ h.2
 have h2 : macS ⟨true, zeroTag, 0, L2 ++ [⟨symT 109 1, cavM (ridesC 3), symT 109 3⟩], []⟩ (symT 109 3) nodeB = (⟨true, zeroTag, 0, L4 (ridesC 3), []⟩, symT 109 4, 0) := by
  rw [macS_new (by decide) (entL_none fun e he => ?_) (by decide)]; rfl
  simp only [L2, List.cons_append, List.nil_append, List.mem_cons, List.not_mem_nil, or_false] at he
  rcases he with rfl | rfl | rfl
  ·exact fun h => mint_nnode h.2
  ·exact fun h => by have := symT_inj (by omega) (by omega) (by omega) (by omega) h.1; omega
  ·exact fun h => node_ncav _ h.2.symm
 have h3 := nodeS_3 (a := ⟨true, zeroTag, 0, L2, []⟩) (key := symT 109 1) (msg := cavM (ridesC 3)) (by rw [h1]) (by rw [h1]; simp only; rw [h2])
 rw [h1] at h3
 simp only at h3
 rw [h2] at h3
 unfold attS
 rw [if_neg (by decide), if_neg (by decide), h3, if_pos rfl]
 rfl
set_option maxHeartbeats 1000000 in
theorem awake13_spec (g h : Nat) (hgh : g ≠ h) (k : Nat) : ACall Tryd.prog 17 [] k [(g, shaG), (h, bitsG)] (.lit (.bool true)) [] := by
 have c1 := Mint_spec aF 0 aF_in (by decide) 1 1 zeroTag g
 rw [aw_mint] at c1
 have c2 := rides13_spec 3
 have hin : AlgIn ⟨true, zeroTag, 0, L2, []⟩ 2 := by have := mintS_in aF_in 1 zeroTag 1; rw [aw_mint] at this; exact this
 have c3 := Att_spec _ 2 hin (by decide) ⟨1, 1, [], symT 109 1⟩ (by simp) (fun x hx => by cases hx) (ridesC 3) ⟨by simp [ridesC, firC], by simp [ridesC, firC]⟩ ⟨by decide, by decide, by decide⟩ g h hgh
 rw [aw_att] at c3
 have c4 := pSymbol_spec 109 1 (by decide)
 have c5 := pSymbol_spec 109 3 (by decide)
 have e1 : ((109 : UInt8).toNat : Int) = 109 := rfl
 have e2 : ((1 : Nat) : Int) = 1 := rfl
 have e3 : ((3 : Nat) : Int) = 3 := rfl
 have e0 : ((0 : Nat) : Int) = 0 := rfl
 rw [e1, e2] at c4
 rw [e1, e3] at c5
 unfold mpAV at c1 c3
 have hp1 : paAV ⟨1, 1, [], symT 109 1⟩ = .agg [.lit (.int .i64 1), .lit (.int .i64 1), .slice none [], tagAV (symT 109 1)] := rfl
 have hp2 : paAV ⟨1, 1, [ridesC 3], symT 109 3⟩ = .agg [.lit (.int .i64 1), .lit (.int .i64 1), .slice none [caAV (ridesC 3)], tagAV (symT 109 3)] := rfl
 have ha2 : algAV ⟨true, zeroTag, 0, L4 (ridesC 3), []⟩ = .agg [.lit (.bool true), tagAV zeroTag, .lit (.int .i64 0), .slice none ((L4 (ridesC 3)).map macAV), .slice none []] := rfl
 have hL : ((L4 (ridesC 3)).map macAV).length = 4 := rfl
 simp only [e0, hp1, hp2, aF_eq, ha2] at c1 c3
 generalize (L4 (ridesC 3)).map macAV = M4 at *
 generalize ridesC 3 = C3 at *
 generalize symT 109 1 = s1 at *
 generalize symT 109 3 = s3 at *
 generalize (⟨true, zeroTag, 0, L2, []⟩ : Alg) = A2 at *
 clear hin e0 e1 e2 e3 hp1 hp2 ha2
 refine Bd Tryd.func17 Tryd.ntmps17 fun σ N hp hpn hk hkn hfree => ?_
 simp only [List.mem_cons, List.not_mem_nil, or_false, forall_eq_or_imp, forall_eq] at hp hpn; obtain ⟨hd1, hd2⟩ := hp; obtain ⟨hdn1, hdn2⟩ := hpn
 have hcs := And.intro c1 (And.intro c2 (And.intro c3 (And.intro c4 (And.intro c5 True.intro))))
 clear c1 c2 c3 c4 c5
 exact W0
end

def tagR (b : List UInt8) (u : Nat) : Tg × Nat × Nat := if h : u + 32 ≤ b.length then (⟨(b.drop u).take 32, by rw [List.length_take, List.length_drop]; omega⟩, u + 32, 0) else (zeroTag, u, 3)
theorem tagR_ok {b : List UInt8} {u : Nat} (h : u + 32 ≤ b.length) : tagR b u = (⟨(b.drop u).take 32, by rw [List.length_take, List.length_drop]; omega⟩, u + 32, 0) := by unfold tagR; rw [dif_pos h]
theorem tagR_bad {b : List UInt8} {u : Nat} (h : ¬ u + 32 ≤ b.length) : tagR b u = (zeroTag, u, 3) := by unfold tagR; rw [dif_neg h]
theorem tagR_used {b : List UInt8} {u : Nat} (h : (tagR b u).2.2 = 0) : (tagR b u).2.1 = u + 32 := by
 by_cases h' : u + 32 ≤ b.length
 ·rw [tagR_ok h']
 ·rw [tagR_bad h'] at h; cases h
theorem tagR_len {b : List UInt8} {u : Nat} (h : (tagR b u).2.2 = 0) : u + 32 ≤ b.length := by
 by_cases h' : u + 32 ≤ b.length
 ·exact h'
 ·rw [tagR_bad h'] at h; cases h
theorem RBytes32_short (b : List UInt8) (u : Nat) (hu : u ≤ b.length) (hs : b.length - u < 32) (_hb : b.length ≤ 1000000) (d k : Nat) :
  ACall Tryd.prog 102 [.ptr d [] 0, .lit (.int .i64 32)] k [(d, RdBox b u 0)] (.slice none (List.replicate 32 (.lit (.int .u8 0)))) [(d, RdBox b u 3)] := by
 have hs' : (b.length : Int) - (u : Int) < 32 := by omega
 simp only [RdBox]
 refine Bd Tryd.func102 Tryd.ntmps102 fun σ N hp hpn hk hkn hfree => ?_
 obtain ⟨hd, hdn⟩ := HD0 hp hpn; clear hp hpn
 refine Wk ?_
 exact RV (d) (.box 125 (.agg [.slice none (b.map byteAV), .lit (.int .i64 (u : Int)), .lit (.int .i64 3)]))
theorem RBytes32_spec (b : List UInt8) (u : Nat) (hs : u + 32 ≤ b.length) (hb : b.length ≤ 1000000) (d k : Nat) :
  ACall Tryd.prog 102 [.ptr d [] 0, .lit (.int .i64 32)] k [(d, RdBox b u 0)] (.slice none (((b.drop u).take 32).map byteAV)) [(d, RdBox b (u + 32) 0)] := by
 have hs' : ¬ (b.length : Int) - (u : Int) < 32 := by omega
 have hsl := take_drop_bytes b u 32
 have hu8 : ((u : Int) + 32).toNat = u + 32 := by omega
 generalize (b.drop u).take 32 = L at *
 simp only [RdBox]
 refine Bd Tryd.func102 Tryd.ntmps102 fun σ N hp hpn hk hkn hfree => ?_
 obtain ⟨hd, hdn⟩ := HD0 hp hpn; clear hp hpn
 refine Wk ?_
 exact RV (d) (.box 125 (.agg [.slice none (b.map byteAV), .lit (.int .i64 ((u : Int) + 32)), .lit (.int .i64 0)]))
theorem RTag_ok (b : List UInt8) (u : Nat) (h : u + 32 ≤ b.length) (hb : b.length ≤ 1000000) (d k : Nat) :
  ACall Tryd.prog 68 [.ptr d [] 0] k [(d, RdBox b u 0)] (tagAV (tagR b u).1) [(d, RdBox b (u + 32) 0)] := by
 have c1 := RBytes32_spec b u h hb
 have hkA : tagAV (tagR b u).1 = .agg (((b.drop u).take 32).map byteAV) := by rw [tagR_ok h]; rfl
 rw [hkA]
 clear hkA
 have hl : ((b.drop u).take 32).length = 32 := by rw [List.length_take, List.length_drop]; omega
 generalize (b.drop u).take 32 = L at *
 have htk : (L.map byteAV).take 32 = L.map byteAV := List.take_of_length_le (by rw [List.length_map]; omega)
 have hz0 : (zeroTag.val.map byteAV).drop 32 = [] := rfl
 have hs1 : (AV.agg (L.map byteAV)).sz = 32 := by simp only [AV.sz, szl_bytes]; exact hl
 have hs2 : (AV.agg (L.map byteAV)).cell = true := celll_bytes L
 simp only [RdBox] at *
 refine Bd Tryd.func68 Tryd.ntmps68 fun σ N hp hpn hk hkn hfree => ?_
 obtain ⟨hd, hdn⟩ := HD0 hp hpn; clear hp hpn
 have M : Mut (N + 2) := ⟨⟩
 have hcs := And.intro (c1 d) True.intro
 clear c1
 refine Wk ?_
 exact RW (d) (.box 125 (.agg [.slice none (b.map byteAV), .lit (.int .i64 ((u : Int) + 32)), .lit (.int .i64 0)]))
theorem RTag_zero (b : List UInt8) (u e e' : Nat) (d k : Nat)
  (c1 : ∀ k, ACall Tryd.prog 102 [.ptr d [] 0, .lit (.int .i64 32)] k [(d, RdBox b u e)] (.slice none (List.replicate 32 (.lit (.int .u8 0)))) [(d, RdBox b u e')]) :
  ACall Tryd.prog 68 [.ptr d [] 0] k [(d, RdBox b u e)] (tagAV zeroTag) [(d, RdBox b u e')] := by
 have hz : List.replicate 32 (AV.lit (.int .u8 0)) = zeroTag.1.map byteAV := rfl
 rw [hz] at c1
 obtain ⟨L, hL⟩ : ∃ L, zeroTag.1 = L := ⟨_, rfl⟩
 have hl : L.length = 32 := by rw [← hL]; exact zeroTag.2
 have hkA : tagAV zeroTag = .agg (L.map byteAV) := by rw [← hL]; rfl
 rw [hkA]
 rw [hL] at c1
 have htk : (L.map byteAV).take 32 = L.map byteAV := List.take_of_length_le (by rw [List.length_map]; omega)
 have hz0 : (L.map byteAV).drop 32 = [] := List.drop_eq_nil_of_le (by rw [List.length_map]; omega)
 have hs1 : (AV.agg (L.map byteAV)).sz = 32 := by simp only [AV.sz, szl_bytes]; exact hl
 have hs2 : (AV.agg (L.map byteAV)).cell = true := celll_bytes L
 clear hz
 simp only [RdBox] at *
 refine Bd Tryd.func68 Tryd.ntmps68 fun σ N hp hpn hk hkn hfree => ?_
 obtain ⟨hd, hdn⟩ := HD0 hp hpn; clear hp hpn
 have M : Mut (N + 2) := ⟨⟩
 have hcs := And.intro c1 True.intro
 clear c1
 refine Wk ?_
 exact RW (d) (.box 125 (.agg [.slice none (b.map byteAV), .lit (.int .i64 (u : Int)), .lit (.int .i64 (e' : Int))]))
theorem RTag_spec (b : List UInt8) (u : Nat) (hu : u ≤ b.length) (hb : b.length ≤ 1000000) (d k : Nat) :
  ACall Tryd.prog 68 [.ptr d [] 0] k [(d, RdBox b u 0)] (tagAV (tagR b u).1) [(d, RdBox b (tagR b u).2.1 (tagR b u).2.2)] := by
 by_cases h : u + 32 ≤ b.length
 ·have := RTag_ok b u h hb d k
  rw [tagR_ok h] at this ⊢
  exact this
 ·rw [tagR_bad h]
  exact RTag_zero b u 0 3 d k fun k => RBytes32_short b u hu (by omega) hb d k
section
variable [W : W32]
theorem openS_len (a : Alg) (m : Nat) (ha : AlgIn a m) (key : Tg) (b : List UInt8) (hb : b.length ≤ 100000) : (openS a key b).1.length ≤ 100000 := by
 unfold openS
 split
 ·split
  ·rename_i p hp
   obtain ⟨e, he, _, _, h3⟩ := openL_some hp
   rw [← h3]; exact (ha.bm e he).1
  ·simp
 ·split
  ·simp
  ·split
   ·simp only [strmB_len, List.length_drop, List.length_take]; omega
   ·simp
def soAV (r : List UInt8 × Nat) : AV := .tup [.slice none (r.1.map byteAV), .lit (.int .i64 (r.2 : Nat))]
set_option maxHeartbeats 1000000 in
theorem refOpen_free (sd : Tg) (fs : Int) (L : List MacE) (B : List BoxE) (key : Tg) (b : List UInt8) (hl : B.length ≤ 1000000) (hm : ∀ e ∈ B, e.plain.length ≤ 100000 ∧ e.box.length ≤ 100000) (hb : b.length ≤ 100000) (k : Nat) :
  ACall Tryd.prog 67 [algAV ⟨true, sd, fs, L, B⟩, tagAV key, .slice none (b.map byteAV)] k [] (soAV (openS ⟨true, sd, fs, L, B⟩ key b)) [] := by
 unfold openS
 rw [if_pos rfl]
 simp only
 generalize hR : openL key b B = R
 refine Bd Tryd.func67 Tryd.ntmps67 fun σ N hp hpn hk hkn hfree => ?_
 have haA : algAV ⟨true, sd, fs, L, B⟩ = .agg [.lit (.bool true), tagAV sd, .lit (.int .i64 fs), .slice none (L.map macAV), .slice none (B.map sealAV)] := rfl
 refine Wk ?_
 refine go_loopF mixed (by kernel_rfl) [6, 7, 8, 15, 16, 17, 18, 19, 20, 21, 22, 23, 24, 25, 26, 27, 28, 29, 30, 31, 32, 33, 34, 35, 36, 37, 38, 39, 40, 41, 42, 43, 44, 45, 46, 47] [N, N+1] (fun m_ s_ σ_ n_ => ∃ (u : Nat), m_ = B.length - u ∧ s_ 8 = .lit (.int .i64 u) ∧ σ_ (N) = .box 30 (.agg [.lit (.bool true), tagAV sd, .lit (.int .i64 fs), .slice none (L.map macAV), .slice none (B.map sealAV)]) ∧ σ_ (N+1) = .box 24 (tagAV key) ∧ (u ≤ B.length) ∧ (openL key b (B.drop u) = R)) ⟨_, 0, rfl, WF, WF, WF, WC, WC⟩ ?_
 intro m_1 s_1 σ_1 n_1 hs_1 hf_1 hn_1 hI_1
 obtain ⟨u, hm_1, h1_8, e1_0, e1_1, hu, hd⟩ := hI_1
 have h1_2 := KS hs_1 2
 have h1_3 := KS hs_1 3
 have h1_4 := KS hs_1 4
 have hlow := KL (N := N) (σ := σ) hf_1
 clear haA
 by_cases hul : u = B.length
 ·subst hul
  rw [List.drop_length] at hd
  simp only [openL] at hd
  subst hd
  clear hR hm
  unfold soAV
  simp only [List.map_nil]
  exact WL
 ·have hu1 : u < B.length := by omega
  rw [List.drop_eq_getElem_cons hu1, openL] at hd
  have hmz := hm _ (List.getElem_mem hu1)
  obtain ⟨z, hz⟩ : ∃ z, B[u] = z := ⟨_, rfl⟩
  rw [hz] at hd hmz
  obtain ⟨zk, zn, zp, zb⟩ := z
  simp only at hd hmz
  have hzd : sealAV ⟨zk, zn, zp, zb⟩ = .agg [tagAV zk, .lit (.int .i64 zn), bAV zp, bAV zb] := rfl
  have hzb := bAV_def zp
  have hzb2 := bAV_def zb
  obtain ⟨hmz1, hmz2⟩ := hmz
  have c1 := Same_spec zb b (by omega)
  clear hR hm
  by_cases h1 : zk = key
  ·by_cases h3 : zb = b
   ·rw [if_pos ⟨h1, h3⟩] at hd
    subst hd
    rw [decide_eq_true h3] at c1
    have hcs := And.intro c1 True.intro
    clear c1
    subst h1
    subst h3
    unfold soAV
    simp only
    exact WL
   ·rw [if_neg (fun h => h3 h.2)] at hd
    rw [decide_eq_false h3] at c1
    have hcs := And.intro c1 True.intro
    clear c1
    subst h1
    refine Wk ?_
    exact ⟨WS, WG, WN, _, (show B.length - (u + 1) < m_1 by omega), u + 1, rfl, WF, WF, WF, WC, WC⟩
  ·rw [if_neg (fun h => h1 h.1)] at hd
   have d1 : decide (zk = key) = false := decide_eq_false h1
   clear c1
   refine Wk ?_
   exact ⟨WS, WG, WN, _, (show B.length - (u + 1) < m_1 by omega), u + 1, rfl, WF, WF, WF, WC, WC⟩
set_option maxHeartbeats 1000000 in
theorem refOpen_real (sd : Tg) (fs : Int) (L : List MacE) (B : List BoxE) (key : Tg) (b : List UInt8) (hb : b.length ≤ 100000) (k : Nat) :
  ACall Tryd.prog 67 [algAV ⟨false, sd, fs, L, B⟩, tagAV key, .slice none (b.map byteAV)] k [] (soAV (openS ⟨false, sd, fs, L, B⟩ key b)) [] := by
 unfold openS
 rw [if_neg (by simp)]
 have haA : algAV ⟨false, sd, fs, L, B⟩ = .agg [.lit (.bool false), tagAV sd, .lit (.int .i64 fs), .slice none (L.map macAV), .slice none (B.map sealAV)] := rfl
 unfold soAV
 by_cases h1 : b.length < 40
 ·rw [if_pos (.inl h1)]
  have h1i : (b.length : Int) < 40 := by omega
  simp only [List.map_nil]
  refine Bd Tryd.func67 Tryd.ntmps67 fun σ N hp hpn hk hkn hfree => ?_
  exact WL
 have h1i : ¬ (b.length : Int) < 40 := by omega
 by_cases h2 : 296 < b.length
 ·rw [if_pos (.inr h2)]
  have h2i : (296 : Int) < (b.length : Int) := by omega
  simp only [List.map_nil]
  refine Bd Tryd.func67 Tryd.ntmps67 fun σ N hp hpn hk hkn hfree => ?_
  exact WL
 have h2i : ¬ (296 : Int) < (b.length : Int) := by omega
 rw [if_neg (by omega)]
 have hn32 : ((b.length : Int) - 32).toNat = b.length - 32 := by omega
 have hn32i : (0 : Int) ≤ (b.length : Int) - 32 := by omega
 have hA1 : (b.map byteAV).take (b.length - 32) = (b.take (b.length - 32)).map byteAV := by rw [List.map_take]
 have hD1 : (b.map byteAV).drop (b.length - 32) = (b.drop (b.length - 32)).map byteAV := by rw [List.map_drop]
 have hD2 : ((b.take (b.length - 32)).map byteAV).drop 8 = ((b.take (b.length - 32)).drop 8).map byteAV := by rw [List.map_drop]
 have hl1 : (b.take (b.length - 32)).length = b.length - 32 := by rw [List.length_take]; omega
 have hl2 : (b.drop (b.length - 32)).length = 32 := by rw [List.length_drop]; omega
 have hL8 : (b.take 8).length = 8 := by rw [List.length_take]; omega
 have hbd := be8_bound (L := b.take 8) (i := 8) hL8 (Nat.le_refl _)
 rw [List.take_of_length_le (i := 8) (l := b.take 8) (by omega)] at hbd
 have c1 := Word_spec [98, 111, 120] (b.take (b.length - 32)) (by decide) (by omega)
 have c2 := Hmac_spec key.1 ([98, 111, 120] ++ b.take (b.length - 32)) (by rw [key.2]; decide) (by simp; omega)
 generalize hMs : [98, 111, 120] ++ b.take (b.length - 32) = Ms at *
 generalize hmacT key.1 Ms = T at *
 have c3 := Same_spec T.1 (b.drop (b.length - 32)) (by rw [T.2]; decide)
 have c4 := stream_spec key (be8 (b.take 8)) hbd.1 ((b.take (b.length - 32)).drop 8) (by rw [List.length_drop]; omega)
 have ht1 := tagAV_sz T
 have ht2 := tagAV_cell T
 have hs1 := tagAV_sz key
 have hs2 := tagAV_cell key
 obtain ⟨K, hK⟩ := key
 obtain ⟨T, hT⟩ := T
 have hkA : tagAV ⟨K, hK⟩ = .agg (K.map byteAV) := rfl
 have htA : tagAV ⟨T, hT⟩ = .agg (T.map byteAV) := rfl
 simp only [hkA, htA] at hs1 hs2 ht1 ht2 c2 c3 c4 ⊢
 clear hkA htA
 have hs3 : AV.celll (K.map byteAV) = true := celll_bytes K
 have ht3 : AV.celll (T.map byteAV) = true := celll_bytes T
 have htk : (K.map byteAV).take 32 = K.map byteAV := List.take_of_length_le (by rw [List.length_map]; omega)
 have htk2 : (T.map byteAV).take 32 = T.map byteAV := List.take_of_length_le (by rw [List.length_map]; omega)
 by_cases h3 : T = b.drop (b.length - 32)
 ·rw [if_pos h3]
  rw [decide_eq_true h3] at c3
  simp only
  generalize strmB K (be8 (b.take 8) : Int) ((b.take (b.length - 32)).drop 8) = St at *
  have h0b : be8 (List.take 0 b) = 0 := by simp [be8]
  clear hMs h3
  generalize (b.take (b.length - 32)).drop 8 = Bq at *
  generalize b.drop (b.length - 32) = Dr at *
  generalize b.take (b.length - 32) = Tk at *
  refine Bd Tryd.func67 Tryd.ntmps67 fun σ N hp hpn hk hkn hfree => ?_
  have hcs := And.intro c1 (And.intro c2 (And.intro c3 True.intro))
  clear c1 c2 c3
  refine Wk ?_
  refine go_loopF mixed (by kernel_rfl) [11, 12, 70, 71, 72, 73, 74, 75, 76, 77, 78, 79, 80, 81] [] (fun m_ s_ σ_ n_ => ∃ (i : Nat) (v : Nat), m_ = 8 - i ∧ s_ 12 = .lit (.int .i64 i) ∧ s_ 11 = .lit (.int .u64 v) ∧ (i ≤ 8) ∧ (be8 (b.take i) = v)) ⟨_, 0, 0, rfl, WF, WF, WC, WC⟩ ?_
  intro m_2 s_2 σ_2 n_2 hs_2 hf_2 hn_2 hI_2
  obtain ⟨i, v, hm_2, h2_12, h2_11, hi, hv⟩ := hI_2
  have h2_2 := KS hs_2 2
  have h2_4 := KS hs_2 4
  have h2_6 := KS hs_2 6
  have h2_7 := KS hs_2 7
  have h2_9 := KS hs_2 9
  have k2_0 := KE hf_2 (N+1)
  have hlow := KL (N := N) (σ := σ) hf_2
  clear h0b
  by_cases hi8 : i = 8
  ·subst hi8
   rw [hv] at c4
   have hcs := And.intro c4 True.intro
   clear c4 hv
   exact WL
  ·have hil : i < b.length := by omega
   have hi8i : (i : Int) < 8 := by omega
   obtain ⟨x, hx⟩ : ∃ x, b[i] = x := ⟨_, rfl⟩
   have hxx : byteAV x = .lit (.int .u8 x.toNat) := rfl
   have hxl := x.toNat_lt
   have hm3 := be8_take hil
   rw [hv, hx] at hm3
   have hvb : v < 72057594037927936 := by
    rw [← hv]
    have := (be8_bound (L := b.take 8) (i := i) hL8 (by omega)).2 (by omega)
    rw [List.take_take, Nat.min_eq_left (by omega)] at this
    exact this
   have w1 : IntKind.u64.wrap (256 * (v : Int)) = 256 * (v : Int) := wrap_u64r (by omega) (by omega)
   have w2 : IntKind.u64.wrap (x.toNat : Int) = (x.toNat : Int) := wrap_u64r (by omega) (by omega)
   have w3 : IntKind.u64.wrap (256 * (v : Int) + (x.toNat : Int)) = 256 * (v : Int) + (x.toNat : Int) := wrap_u64r (by omega) (by omega)
   clear hv c4
   refine Wk ?_
   exact ⟨WS, WG, WN, _, (show 8 - (i + 1) < m_2 by omega), i + 1, 256 * v + x.toNat, rfl, WF, WF, WC, WC⟩
 ·rw [if_neg h3]
  rw [decide_eq_false h3] at c3
  simp only [List.map_nil]
  clear hMs h3 c4
  generalize b.drop (b.length - 32) = Dr at *
  generalize b.take (b.length - 32) = Tk at *
  refine Bd Tryd.func67 Tryd.ntmps67 fun σ N hp hpn hk hkn hfree => ?_
  have hcs := And.intro c1 (And.intro c2 (And.intro c3 True.intro))
  clear c1 c2 c3
  exact WL
theorem refOpen_spec (a : Alg) (m : Nat) (ha : AlgIn a m) (hm : m ≤ 900000) (key : Tg) (b : List UInt8) (hb : b.length ≤ 100000) (k : Nat) :
  ACall Tryd.prog 67 [algAV a, tagAV key, .slice none (b.map byteAV)] k [] (soAV (openS a key b)) [] := by
 obtain ⟨fr, sd, fs, L, B⟩ := a
 cases fr with
 | true => exact refOpen_free sd fs L B key b (by have := ha.bl; simp only at this; omega) ha.bm hb k
 | false => exact refOpen_real sd fs L B key b hb k
end

def encPS (p : Pr) : List UInt8 × Nat := if predB p = true then (encP p, 0) else ([], 5)
theorem encPS_len (p : Pr) : (encPS p).1.length ≤ 40 := by
 unfold encPS
 split
 ·rename_i h; exact (encP_len p h).2
 ·simp
def grantM (t : List UInt8) : List UInt8 := [103, 114, 97, 110, 116] ++ t
def condM (p : Pr) : List UInt8 := [99, 111, 110, 100, 105, 116, 105, 111, 110] ++ (encPS p).1
theorem condM_len (p : Pr) : (condM p).length ≤ 49 := by have := encPS_len p; simp [condM]; omega
section
variable [W : W32]
def restrS (a : Alg) (d : Di) (p : Pr) : Alg × Di × Nat :=
 if predB p = false then (alg0, di0, 5) else if p.kind = 7 then (alg0, di0, 6) else if 8 ≤ d.conds.length then (alg0, di0, 2) else
 if (macS a d.tag (condM p)).2.2 = 0 then ((macS a d.tag (condM p)).1, ⟨d.ticket, d.conds ++ [p], (macS a d.tag (condM p)).2.1⟩, 0) else (alg0, di0, (macS a d.tag (condM p)).2.2)
def mdAV (r : Alg × Di × Nat) : AV := .tup [algAV r.1, diAV r.2.1, .lit (.int .i64 (r.2.2 : Nat))]
end

def teB (t : Te) : Bool := decide (0 ≤ t.least) && decide (t.least ≤ t.most) && decide (t.most ≤ 150)
theorem teB_iff {t : Te} : teB t = true ↔ 0 ≤ t.least ∧ t.least ≤ t.most ∧ t.most ≤ 150 := by
 unfold teB; simp [Bool.and_eq_true, and_assoc]
theorem refTerms_spec (t : Te) (k : Nat) : ACall Tryd.prog 28 [teAV t] k [] (.lit (.bool (teB t))) [] := by
 obtain ⟨x, y⟩ := t
 unfold teAV
 by_cases h1 : 0 ≤ x
 ·by_cases h2 : x ≤ y
  ·by_cases h3 : y ≤ 150
   ·have hr : teB ⟨x, y⟩ = true := by simp [teB, *]
    rw [hr]
    refine Bd Tryd.func28 Tryd.ntmps28 fun σ N hp hpn hk hkn hfree => ?_
    exact W0
   ·have hr : teB ⟨x, y⟩ = false := by simp [teB, *]
    rw [hr]
    refine Bd Tryd.func28 Tryd.ntmps28 fun σ N hp hpn hk hkn hfree => ?_
    exact W0
  ·have hr : teB ⟨x, y⟩ = false := by simp [teB, *]
   rw [hr]
   refine Bd Tryd.func28 Tryd.ntmps28 fun σ N hp hpn hk hkn hfree => ?_
   exact W0
 ·have hr : teB ⟨x, y⟩ = false := by simp [teB, *]
  rw [hr]
  refine Bd Tryd.func28 Tryd.ntmps28 fun σ N hp hpn hk hkn hfree => ?_
  exact W0
def readT (b : List UInt8) : Tg × Te × Nat :=
 if (tagR b 0).2.2 ≠ 0 then (zeroTag, te0, 5) else
 if (numR b 32).2.2 ≠ 0 then (zeroTag, te0, 5) else if (numR b (numR b 32).2.1).2.2 ≠ 0 then (zeroTag, te0, 5) else
 if (numR b (numR b 32).2.1).2.1 ≠ b.length ∨ teB ⟨(numR b 32).1, (numR b (numR b 32).2.1).1⟩ = false then (zeroTag, te0, 5) else
 ((tagR b 0).1, ⟨(numR b 32).1, (numR b (numR b 32).2.1).1⟩, 0)
def moAV (r : Tg × Te × Nat) : AV := .tup [tagAV r.1, teAV r.2.1, .lit (.int .i64 (r.2.2 : Nat))]
section
variable [W : W32]
def openT (a : Alg) (c : Co) (t : List UInt8) : Tg × Te × Nat := if (openS a c.key t).2 ≠ 0 then (zeroTag, te0, (openS a c.key t).2) else readT (openS a c.key t).1
set_option maxHeartbeats 1000000 in
theorem refOpenT_spec (a : Alg) (m : Nat) (ha : AlgIn a m) (hm : m ≤ 900000) (c : Co) (t : List UInt8) (ht : t.length ≤ 100000) (k : Nat) :
  ACall Tryd.prog 34 [algAV a, concAV c, .slice none (t.map byteAV)] k [] (moAV (openT a c t)) [] := by
 obtain ⟨cpa, cke, cps⟩ := c
 have c1 := refOpen_spec a m ha hm cke t ht
 have hbl := openS_len a m ha cke t ht
 unfold openT
 simp only
 unfold soAV at c1
 generalize openS a cke t = X at *
 obtain ⟨b, e⟩ := X
 simp only at c1 hbl ⊢
 clear ha
 unfold moAV
 by_cases he : e = 0
 ·subst he
  rw [if_neg (by simp)]
  unfold readT
  have t1 := fun d => RTag_spec b 0 (by omega) (by omega) d
  by_cases hs : (tagR b 0).2.2 = 0
  ·rw [if_neg (by simpa using hs)]
   have hs2 : (tagR b 0).2.1 = 32 := tagR_used hs
   have hs3 : 32 ≤ b.length := tagR_len hs
   generalize tagR b 0 = T at *
   obtain ⟨kt, u0, e0⟩ := T
   simp only at hs hs2 t1 ⊢
   subst hs
   subst hs2
   have n1 := fun d => RNum_spec b 32 hs3 (by omega) d
   have l1 := numR_le (b := b) hs3
   by_cases h1 : (numR b 32).2.2 = 0
   ·rw [if_neg (by simpa using h1)]
    generalize numR b 32 = Y at *
    obtain ⟨v1, u1, e1'⟩ := Y
    simp only at h1 n1 l1 ⊢
    subst h1
    have n2 := fun d => RNum_spec b u1 l1 (by omega) d
    by_cases h2 : (numR b u1).2.2 = 0
    ·rw [if_neg (by simpa using h2)]
     generalize numR b u1 = Z at *
     obtain ⟨v2, u2, e2'⟩ := Z
     simp only at h2 n2 ⊢
     subst h2
     by_cases h3 : u2 = b.length
     ·subst h3
      have n3 := refTerms_spec ⟨(v1 : Nat), (v2 : Nat)⟩
      cases h4 : teB ⟨(v1 : Nat), (v2 : Nat)⟩ with
      | false =>
       rw [if_pos (.inr rfl)]
       rw [h4] at n3
       unfold teAV at *
       simp only [te0] at *
       simp only [RdBox] at *
       refine Bd Tryd.func34 Tryd.ntmps34 fun σ N hp hpn hk hkn hfree => ?_
       have hcs := And.intro c1 (And.intro (t1 (N + 17 + 2)) (And.intro (n1 (N + 17 + 2)) (And.intro (n2 (N + 17 + 2)) (And.intro n3 True.intro))))
       clear c1 t1 n1 n2 n3
       refine Wk ?_
       exact WD
      | true =>
       rw [if_neg (by simp)]
       rw [h4] at n3
       unfold teAV at *
       simp only at *
       simp only [RdBox] at *
       refine Bd Tryd.func34 Tryd.ntmps34 fun σ N hp hpn hk hkn hfree => ?_
       have hcs := And.intro c1 (And.intro (t1 (N + 17 + 2)) (And.intro (n1 (N + 17 + 2)) (And.intro (n2 (N + 17 + 2)) (And.intro n3 True.intro))))
       clear c1 t1 n1 n2 n3
       refine Wk ?_
       exact WD
     ·rw [if_pos (.inl h3)]
      have h3i : ((u2 : Int) != (b.length : Int)) = true := by simp; omega
      unfold teAV
      simp only [te0]
      simp only [RdBox] at *
      refine Bd Tryd.func34 Tryd.ntmps34 fun σ N hp hpn hk hkn hfree => ?_
      have hcs := And.intro c1 (And.intro (t1 (N + 17 + 2)) (And.intro (n1 (N + 17 + 2)) (And.intro (n2 (N + 17 + 2)) True.intro)))
      clear c1 t1 n1 n2
      refine Wk ?_
      exact WD
    ·rw [if_pos (by simpa using h2)]
     generalize numR b u1 = Z at *
     obtain ⟨v2, u2, e2'⟩ := Z
     simp only at h2 n2 ⊢
     have h2i : ((e2' : Int) != 0) = true := by simp; omega
     unfold teAV
     simp only [te0]
     simp only [RdBox] at *
     refine Bd Tryd.func34 Tryd.ntmps34 fun σ N hp hpn hk hkn hfree => ?_
     have hcs := And.intro c1 (And.intro (t1 (N + 17 + 2)) (And.intro (n1 (N + 17 + 2)) (And.intro (n2 (N + 17 + 2)) True.intro)))
     clear c1 t1 n1 n2
     refine Wk ?_
     exact WD
   ·rw [if_pos (by simpa using h1)]
    generalize numR b 32 = Y at *
    obtain ⟨v1, u1, e1'⟩ := Y
    simp only at h1 n1 l1 ⊢
    have h1i : ((e1' : Int) != 0) = true := by simp; omega
    have n2 := fun d => RNum_off b u1 e1' h1 d
    unfold teAV
    simp only [te0]
    simp only [RdBox] at *
    refine Bd Tryd.func34 Tryd.ntmps34 fun σ N hp hpn hk hkn hfree => ?_
    have hcs := And.intro c1 (And.intro (t1 (N + 17 + 2)) (And.intro (n1 (N + 17 + 2)) (And.intro (n2 (N + 17 + 2)) True.intro)))
    clear c1 t1 n1 n2
    refine Wk ?_
    exact WD
  ·rw [if_pos (by simpa using hs)]
   generalize tagR b 0 = T at *
   obtain ⟨kt, u0, e0⟩ := T
   simp only at hs t1 ⊢
   have h1i : ((e0 : Int) != 0) = true := by simp; omega
   have n1 := fun d => RNum_off b u0 e0 hs d
   have n2 := fun d => RNum_off b u0 e0 hs d
   unfold teAV
   simp only [te0]
   simp only [RdBox] at *
   refine Bd Tryd.func34 Tryd.ntmps34 fun σ N hp hpn hk hkn hfree => ?_
   have hcs := And.intro c1 (And.intro (t1 (N + 17 + 2)) (And.intro (n1 (N + 17 + 2)) (And.intro (n2 (N + 17 + 2)) True.intro)))
   clear c1 t1 n1 n2
   refine Wk ?_
   exact WD
 ·rw [if_pos he]
  have h1i : ((e : Int) != 0) = true := by simp; omega
  simp only [te0_eq]
  refine Bd Tryd.func34 Tryd.ntmps34 fun σ N hp hpn hk hkn hfree => ?_
  have hcs := And.intro c1 True.intro
  clear c1
  refine Wk ?_
  exact WD
def plainT (k : Tg) (t : Te) : List UInt8 := k.1 ++ (leb t.least.toNat ++ leb t.most.toNat)
omit W in
theorem plainT_len (k : Tg) (t : Te) (h : teB t = true) : (plainT k t).length ≤ 50 := by
 obtain ⟨h1, h2, h3⟩ := teB_iff.1 h
 have a := leb_len t.least.toNat 7 (by omega)
 have b := leb_len t.most.toNat 7 (by omega)
 simp [plainT, k.2]; omega
def blankS (a : Alg) (c : Co) (t : Te) : Alg × Bl × Nat :=
 if teB t = false ∨ c.party < 0 ∨ 7 < c.party then (alg0, bl0, 1) else
 if (keyS a).2.2 = 0 then
  if (sealS (keyS a).1 c.key (keyS a).1.fresh (plainT (keyS a).2.1 t)).2.2 = 0 then ((sealS (keyS a).1 c.key (keyS a).1.fresh (plainT (keyS a).2.1 t)).1, ⟨c.party, (keyS a).2.1, (sealS (keyS a).1 c.key (keyS a).1.fresh (plainT (keyS a).2.1 t)).2.1⟩, 0)
  else (alg0, bl0, (sealS (keyS a).1 c.key (keyS a).1.fresh (plainT (keyS a).2.1 t)).2.2)
 else (alg0, bl0, (keyS a).2.2)
def mlAV (r : Alg × Bl × Nat) : AV := .tup [algAV r.1, blAV r.2.1, .lit (.int .i64 (r.2.2 : Nat))]
theorem blankS_in {a : Alg} {m : Nat} (h : AlgIn a m) (c : Co) (t : Te) : AlgIn (blankS a c t).1 (m + 2) := by
 unfold blankS
 split
 ·exact alg0_in _
 ·split
  ·split
   ·exact sealS_in (keyS_in h) _ _ _
   ·exact alg0_in _
  ·exact alg0_in _
set_option maxHeartbeats 1000000 in
theorem refBlank_spec (a : Alg) (m : Nat) (ha : AlgIn a m) (hm : m ≤ 900000) (c : Co) (t : Te) (k : Nat) :
  ACall Tryd.prog 25 [algAV a, concAV c, teAV t] k [] (mlAV (blankS a c t)) [] := by
 have c1 := refTerms_spec t
 have c2 := Key_spec a ha.f0
 have hin := keyS_in ha
 have hpl := plainT_len (keyS a).2.1 t
 unfold blankS
 unfold mlAV
 generalize hX : keyS a = X at *
 obtain ⟨a1, kt, e1'⟩ := X
 unfold mkAV at c2
 simp only at c2 hin hpl ⊢
 clear ha hX
 cases ht : teB t with
 | false =>
  rw [if_pos (.inl rfl)]
  rw [ht] at c1
  simp only [alg0_eq, bl0_eq]
  clear c2
  refine Bd Tryd.func25 Tryd.ntmps25 fun σ N hp hpn hk hkn hfree => ?_
  have hcs := And.intro c1 True.intro
  clear c1
  refine Wk ?_
  exact WD
 | true =>
  rw [ht] at c1
  have hpl := hpl ht
  have ht0 := teB_iff.1 ht
  obtain ⟨pa, ck, ps⟩ := c
  simp only
  by_cases hp1 : pa < 0
  ·rw [if_pos (.inr (.inl hp1))]
   simp only [alg0_eq, bl0_eq]
   clear c2
   refine Bd Tryd.func25 Tryd.ntmps25 fun σ N hp hpn hk hkn hfree => ?_
   have hcs := And.intro c1 True.intro
   clear c1
   refine Wk ?_
   exact WD
  ·by_cases hp2 : 7 < pa
   ·rw [if_pos (.inr (.inr hp2))]
    simp only [alg0_eq, bl0_eq]
    clear c2
    refine Bd Tryd.func25 Tryd.ntmps25 fun σ N hp hpn hk hkn hfree => ?_
    have hcs := And.intro c1 True.intro
    clear c1
    refine Wk ?_
    exact WD
   ·rw [if_neg (by rintro (h | h | h); · cases h
                   ·exact hp1 h
                   ·exact hp2 h)]
    by_cases h1 : e1' = 0
    ·subst h1
     rw [if_pos rfl]
     have c5 := Seal_spec a1 ck a1.fresh (plainT kt t) (by have := hin.bl; omega) hin.bm
     obtain ⟨x, y⟩ := t
     simp only at ht0
     obtain ⟨q1, q2, q3⟩ := ht0
     obtain ⟨x, rfl⟩ := Int.eq_ofNat_of_zero_le q1
     obtain ⟨y, rfl⟩ := Int.eq_ofNat_of_zero_le (show 0 ≤ y by omega)
     have c3 := fun k => Number_spec_f x k (by omega)
     have c4 := fun k => Number_spec_f y k (by omega)
     have hl1 := leb_len x 7 (by omega)
     have hl2 := leb_len y 7 (by omega)
     unfold skAV at c5
     obtain ⟨pl, hplE⟩ : ∃ pl, plainT kt ⟨(x : Nat), (y : Nat)⟩ = pl := ⟨_, rfl⟩
     have hplm : (kt.1.map byteAV ++ (leb x).map byteAV) ++ (leb y).map byteAV = pl.map byteAV := by
      rw [← hplE]; simp [plainT]
     have hpll : pl.length = 32 + ((leb x).length + (leb y).length) := by rw [← hplE]; simp [plainT, kt.2]
     rw [hplE] at c5 ⊢
     generalize sealS a1 ck a1.fresh pl = Z at *
     obtain ⟨a2, b2, e2'⟩ := Z
     simp only at c5 ⊢
     generalize leb x = lx at *
     generalize leb y = ly at *
     have hs1 := tagAV_sz kt
     have hs2 := tagAV_cell kt
     obtain ⟨K, hK⟩ := kt
     have hkA : tagAV ⟨K, hK⟩ = .agg (K.map byteAV) := rfl
     simp only [hkA] at hs1 hs2 c2 hplm ⊢
     clear hplE hin hpl ht
     have hs3 : AV.celll (K.map byteAV) = true := celll_bytes K
     have htk : (K.map byteAV).take 32 = K.map byteAV := List.take_of_length_le (by rw [List.length_map]; omega)
     unfold teAV at *
     simp only at c1
     have haA : algAV a1 = .agg [.lit (.bool a1.free), tagAV a1.seed, .lit (.int .i64 a1.fresh), .slice none (a1.macs.map macAV), .slice none (a1.boxes.map sealAV)] := rfl
     by_cases h2 : e2' = 0
     ·subst h2
      rw [if_pos rfl]
      unfold blAV
      simp only [hkA]
      clear hkA
      refine Bd Tryd.func25 Tryd.ntmps25 fun σ N hp hpn hk hkn hfree => ?_
      have hcs := And.intro c1 (And.intro c2 (And.intro c3 (And.intro c4 (And.intro c5 True.intro))))
      clear c1 c2 c3 c4 c5
      refine Wk ?_
      exact WD
     ·rw [if_neg h2]
      have h2i : ((e2' : Int) != 0) = true := by simp; omega
      simp only [alg0_eq, bl0_eq]
      clear hkA
      refine Bd Tryd.func25 Tryd.ntmps25 fun σ N hp hpn hk hkn hfree => ?_
      have hcs := And.intro c1 (And.intro c2 (And.intro c3 (And.intro c4 (And.intro c5 True.intro))))
      clear c1 c2 c3 c4 c5
      refine Wk ?_
      exact WD
    ·rw [if_neg h1]
     have h1i : ((e1' : Int) != 0) = true := by simp; omega
     simp only [alg0_eq, bl0_eq]
     refine Bd Tryd.func25 Tryd.ntmps25 fun σ N hp hpn hk hkn hfree => ?_
     have hcs := And.intro c1 (And.intro c2 True.intro)
     clear c1 c2
     refine Wk ?_
     exact WD
end
end Go.Proofs.YtdmjpolnbmoehaaDoor

namespace Go.Proofs.YtdmjpolnbmoehaaDoor
open Go.Ab
attribute [local irreducible] Go.Ab.tyAV Go.Ab.aw Go.Ab.aops Go.Ab.kReg Go.Ab.aThen Go.Ab.aBlk Go.Ab.acond Go.Ab.aguard Go.Ab.astep Go.Ab.AStepX Go.Ab.aRet
theorem minutes_spec (n : Int) (k : Nat) : ACall Tryd.prog 73 [.lit (.int .i64 n)] k [] (.lit (.bool (decide (0 ≤ n) && decide (n ≤ 67108864)))) [] := by
 by_cases h : 0 ≤ n
 ·rw [decide_eq_true h]
  refine Bd Tryd.func73 Tryd.ntmps73 fun σ N hp hpn hk hkn hfree => ?_
  exact W0
 ·rw [decide_eq_false h]
  refine Bd Tryd.func73 Tryd.ntmps73 fun σ N hp hpn hk hkn hfree => ?_
  exact W0
def ageBad (b m : Int) : Prop := m < 0 ∨ 67108864 < m ∨ b < -67108864 ∨ 67108864 < b ∨ m < b
instance (b m : Int) : Decidable (ageBad b m) := by unfold ageBad; infer_instance
def ageS (b m : Int) : Int := if ageBad b m then 0 else if (m - b) / 525600 < 150 then (m - b) / 525600 else 150
theorem age_A (n : List UInt8) (b m : Int) (h : (decide (0 ≤ m) && decide (m ≤ 67108864)) = false) (k : Nat) :
  ACall Tryd.prog 70 [persAV ⟨n, b⟩, .lit (.int .i64 m)] k [] (.lit (.int .i64 0)) [] := by
 have c1 := minutes_spec m
 rw [h] at c1
 clear h
 refine Bd Tryd.func70 Tryd.ntmps70 fun σ N hp hpn hk hkn hfree => ?_
 have hcs := And.intro c1 True.intro
 exact W0
theorem age_B (n : List UInt8) (b m w x : Int) (h : (decide (0 ≤ m) && decide (m ≤ 67108864)) = true) (hw : IntKind.i64.wrap (-b) = w) (hx : (if b < w then w else b) = x) (h2 : (decide (0 ≤ x) && decide (x ≤ 67108864)) = false) (k : Nat) :
  ACall Tryd.prog 70 [persAV ⟨n, b⟩, .lit (.int .i64 m)] k [] (.lit (.int .i64 0)) [] := by
 have c1 := minutes_spec m
 rw [h] at c1
 have c2 := minutes_spec x
 rw [h2] at c2
 clear h h2
 refine Bd Tryd.func70 Tryd.ntmps70 fun σ N hp hpn hk hkn hfree => ?_
 have hcs := And.intro c1 (And.intro c2 True.intro)
 exact W0
theorem age_C (n : List UInt8) (b m w x : Int) (h : (decide (0 ≤ m) && decide (m ≤ 67108864)) = true) (hw : IntKind.i64.wrap (-b) = w) (hx : (if b < w then w else b) = x) (h2 : (decide (0 ≤ x) && decide (x ≤ 67108864)) = true) (h3 : m < b) (k : Nat) :
  ACall Tryd.prog 70 [persAV ⟨n, b⟩, .lit (.int .i64 m)] k [] (.lit (.int .i64 0)) [] := by
 have c1 := minutes_spec m
 rw [h] at c1
 have c2 := minutes_spec x
 rw [h2] at c2
 clear h h2
 refine Bd Tryd.func70 Tryd.ntmps70 fun σ N hp hpn hk hkn hfree => ?_
 have hcs := And.intro c1 (And.intro c2 True.intro)
 exact W0
theorem age_D (n : List UInt8) (b m w x r : Int) (h : (decide (0 ≤ m) && decide (m ≤ 67108864)) = true) (hw : IntKind.i64.wrap (-b) = w) (hx : (if b < w then w else b) = x) (h2 : (decide (0 ≤ x) && decide (x ≤ 67108864)) = true) (h3 : ¬ m < b) (h4 : -67108864 ≤ b) (h5 : m ≤ 67108864)
  (hr : (if (150 : Int) < (m - b).tdiv 525600 then (150 : Int) else (m - b).tdiv 525600) = r) (k : Nat) :
  ACall Tryd.prog 70 [persAV ⟨n, b⟩, .lit (.int .i64 m)] k [] (.lit (.int .i64 r)) [] := by
 have c1 := minutes_spec m
 rw [h] at c1
 have c2 := minutes_spec x
 rw [h2] at c2
 have hwr : IntKind.i64.wrap (m - b) = m - b := wrap_i64 (by omega) (by omega)
 have hq : (m - b).tdiv 525600 = (m - b) / 525600 := Int.tdiv_eq_ediv_of_nonneg (by omega)
 rw [hq] at hr
 clear h h2
 refine Bd Tryd.func70 Tryd.ntmps70 fun σ N hp hpn hk hkn hfree => ?_
 have hcs := And.intro c1 (And.intro c2 True.intro)
 exact W0
theorem Age_spec (n : List UInt8) (b m : Int) (w : (Lit.int .i64 b).wf = true) (k : Nat) :
  ACall Tryd.prog 70 [persAV ⟨n, b⟩, .lit (.int .i64 m)] k [] (.lit (.int .i64 (ageS b m))) [] := by
 have wb : -9223372036854775808 ≤ b ∧ b ≤ 9223372036854775807 := i64_of_wf w
 unfold ageS
 by_cases h1 : m < 0 ∨ 67108864 < m
 ·rw [if_pos (by unfold ageBad; omega)]
  refine age_A n b m ?_ k
  rw [Bool.and_eq_false_iff, decide_eq_false_iff_not, decide_eq_false_iff_not]; omega
 ·have hm : (decide (0 ≤ m) && decide (m ≤ 67108864)) = true := by
   rw [Bool.and_eq_true, decide_eq_true_iff, decide_eq_true_iff]; omega
  by_cases h2 : b < -67108864 ∨ 67108864 < b
  ·rw [if_pos (by unfold ageBad; omega)]
   by_cases h3 : b = -9223372036854775808
   ·subst h3
    refine age_B n _ m (-9223372036854775808) (-9223372036854775808) hm (by decide +kernel) (by decide +kernel) (by decide +kernel) k
   ·refine age_B n b m (-b) (if b < -b then -b else b) hm (wrap_i64 (by omega) (by omega)) rfl ?_ k
    rw [Bool.and_eq_false_iff, decide_eq_false_iff_not, decide_eq_false_iff_not]; split <;> omega
  ·have hx : (decide (0 ≤ (if b < -b then -b else b)) && decide ((if b < -b then -b else b) ≤ 67108864)) = true := by
    rw [Bool.and_eq_true, decide_eq_true_iff, decide_eq_true_iff]; split <;> omega
   by_cases h3 : m < b
   ·rw [if_pos (by unfold ageBad; omega)]
    exact age_C n b m (-b) _ hm (wrap_i64 (by omega) (by omega)) rfl hx h3 k
   ·rw [if_neg (by unfold ageBad; omega)]
    refine age_D n b m (-b) _ _ hm (wrap_i64 (by omega) (by omega)) rfl hx h3 (by omega) (by omega) ?_ k
    rw [Int.tdiv_eq_ediv_of_nonneg (by omega)]
    split <;> split <;> omega
def findP (l : List Pe) (nm : List UInt8) : Pe × Bool := match l.find? (fun p => decide (p.name = nm)) with
 | some p => (p, true)
 | none => (⟨[], 0⟩, false)
theorem findP_at {l : List Pe} {nm : List UInt8} {u : Nat} {p : Pe} (h : u < l.length) (hx : l[u] = p) (hm : p.name = nm) (hno : ∀ y ∈ l.take u, ¬ y.name = nm) : findP l nm = (p, true) := by
 have : l.find? (fun p => decide (p.name = nm)) = some p := by
  rw [List.find?_eq_some_iff_getElem]
  refine ⟨by simp [hm], u, h, hx, fun j hj => ?_⟩
  have := hno l[j] (by rw [List.mem_iff_getElem]; exact ⟨j, by rw [List.length_take]; omega, by rw [List.getElem_take]⟩)
  simp [this]
 simp only [findP, this]
theorem findP_none {l : List Pe} {nm : List UInt8} (hno : ∀ y ∈ l, ¬ y.name = nm) : findP l nm = (⟨[], 0⟩, false) := by
 have : l.find? (fun p => decide (p.name = nm)) = none := by
  rw [List.find?_eq_none]; intro x hx; simp [hno x hx]
 simp only [findP, this]
theorem pno_succ {l : List Pe} {nm : List UInt8} {u : Nat} {p : Pe} (h : u < l.length) (hx : l[u] = p) (hm : ¬ p.name = nm) (hno : ∀ y ∈ l.take u, ¬ y.name = nm) : ∀ y ∈ l.take (u + 1), ¬ y.name = nm := by
 intro y hy
 rw [List.take_add_one, List.getElem?_eq_getElem h, hx] at hy
 simp only [Option.toList, List.mem_append, List.mem_singleton] at hy
 rcases hy with hy | rfl
 ·exact hno y hy
 ·exact hm
theorem Find_spec (p : Int) (t : Tg) (l : List Pe) (nm : List UInt8) (hl : l.length ≤ 1000000) (k : Nat) :
  ACall Tryd.prog 74 [concAV ⟨p, t, l⟩, strAV nm] k [] (.tup [persAV (findP l nm).1, .lit (.bool (findP l nm).2)]) [] := by
 have hnmv : strAV nm = .lit (.string ⟨nm.toArray⟩) := rfl
 refine Bd Tryd.func74 Tryd.ntmps74 fun σ N hp hpn hk hkn hfree => ?_
 refine Wk ?_
 refine go_loop (aloop mixed (by kernel_rfl) (fun c => ∃ (u : Nat), c.s 1 = strAV nm ∧ c.s 9 = .slice none (l.map persAV) ∧ c.s 10 = .lit (.int .i64 l.length) ∧ c.s 4 = .ptr (N + 1) [] 0 ∧ c.σ (N + 1) = .box 83 (persAV ⟨[], 0⟩) ∧ c.s 11 = .lit (.int .i64 u) ∧ u ≤ l.length ∧ N + 1 < c.n ∧ (∀ id, id < N → c.σ id = σ id) ∧ ∀ y ∈ l.take u, ¬ y.name = nm)
  (fun c => match c.s 11 with | .lit (.int _ m) => l.length - m.toNat | _ => 0) ⟨0, by simp (disch := omega) [go_sem, *, -List.reduceReplicate], by simp (disch := omega) [go_sem, *, -List.reduceReplicate], by simp (disch := omega) [go_sem, *, -List.reduceReplicate], by simp (disch := omega) [go_sem, *, -List.reduceReplicate], by simp (disch := omega) [go_sem, *, -List.reduceReplicate]; try rfl, by simp (disch := omega) [go_sem, *, -List.reduceReplicate], by omega, by simp only; omega, (fun id hid => by simp (disch := omega) only [upd_ne]; try exact hlow id hid), by simp⟩ ?_)
 rintro ⟨s, σ', n'⟩ ⟨u, h1, h9, h10, h4, hN1, h6, hu, hn', hlow, hno⟩
 simp only at h1 h9 h10 h4 hN1 h6 hn' hlow
 by_cases hul : u = l.length
 ·rw [findP_none (by rw [hul, List.take_length] at hno; exact hno)]
  clear hno
  exact W0
 ·have hu2 : u < l.length := by omega
  obtain ⟨x, hx⟩ : ∃ x, l[u] = x := ⟨_, rfl⟩
  by_cases hm : x.name = nm
  ·rw [findP_at hu2 hx hm hno]
   clear hno
   obtain ⟨xn, xb⟩ := x
   simp only at hm
   subst hm
   exact W0
  ·have hno2 := pno_succ hu2 hx hm hno
   clear hno
   obtain ⟨xn, xb⟩ := x
   simp only at hm
   refine Wk ?_
   refine ⟨⟨u + 1, by simp (disch := omega) [go_sem, *, -List.reduceReplicate], by simp (disch := omega) [go_sem, *, -List.reduceReplicate], by simp (disch := omega) [go_sem, *, -List.reduceReplicate], by simp (disch := omega) [go_sem, *, -List.reduceReplicate], by simp (disch := omega) [go_sem, *, -List.reduceReplicate], by simp (disch := omega) [go_sem, *, -List.reduceReplicate], by omega, by simp only; omega, (fun id hid => by simp (disch := omega) only [upd_ne]; try exact hlow id hid), hno2⟩, ?_⟩
   simp (disch := omega) [go_sem, *, -List.reduceReplicate]
   omega
end Go.Proofs.YtdmjpolnbmoehaaDoor

namespace Go.Proofs.YtdmjpolnbmoehaaDoor
open Go.Ab
attribute [local irreducible] Go.Ab.tyAV Go.Ab.aw Go.Ab.aops Go.Ab.kReg Go.Ab.aThen Go.Ab.aBlk Go.Ab.acond Go.Ab.aguard Go.Ab.astep Go.Ab.AStepX Go.Ab.aRet
attribute [local irreducible] shaG
section
variable [W : W32]
def holdP (h : List UInt8) : Pr := ⟨6, 0, 0, 0, h, 0⟩
def grantS (a : Alg) (c : Co) (t : List UInt8) (holder : List UInt8) (minute : Int) : Alg × Di × Nat :=
 if nameB holder = false then (alg0, di0, 7) else if minute < 0 ∨ 67108864 < minute then (alg0, di0, 1) else
 if (openT a c t).2.2 ≠ 0 then (alg0, di0, (openT a c t).2.2) else if (findP c.ps holder).2 = false then (alg0, di0, 12) else
 if ageS (findP c.ps holder).1.born minute < (openT a c t).2.1.least ∨ (openT a c t).2.1.most < ageS (findP c.ps holder).1.born minute then (alg0, di0, 25) else
 if (macS a (openT a c t).1 (grantM t)).2.2 = 0 then restrS (macS a (openT a c t).1 (grantM t)).1 ⟨t, [], (macS a (openT a c t).1 (grantM t)).2.1⟩ (holdP holder) else (alg0, di0, (macS a (openT a c t).1 (grantM t)).2.2)
end

section
variable [W : W32]
theorem nodeS_ok {a : Alg} {m : Nat} (h : AlgIn a m) (hm : m ≤ 60000) (key : Tg) {msg : List UInt8} (hl : msg.length ≤ 4096) : (macS a key msg).2.2 = 0 ∧ (macS (macS a key msg).1 (macS a key msg).2.1 nodeB).2.2 = 0 ∧ nodeS a key msg = ((macS (macS a key msg).1 (macS a key msg).2.1 nodeB).1, (macS a key msg).2.1, 0) := by
 have h1 : (macS a key msg).2.2 = 0 := macS_ok key hl (by have := h.ml; omega)
 have h2 : (macS (macS a key msg).1 (macS a key msg).2.1 nodeB).2.2 = 0 := macS_ok _ (by decide) (by have := (macS_in h key msg).ml; omega)
 exact ⟨h1, h2, nodeS_3 h1 h2⟩
theorem nodeS_keeps {a : Alg} {m : Nat} (h : AlgIn a m) (hm : m ≤ 60000) (key : Tg) {msg : List UInt8} (hl : msg.length ≤ 4096) : (nodeS a key msg).2.2 = 0 ∧ (nodeS a key msg).1.free = a.free ∧ (nodeS a key msg).1.fresh = a.fresh ∧ (nodeS a key msg).1.boxes = a.boxes := by
 obtain ⟨h1, h2, h3⟩ := nodeS_ok h hm key hl
 obtain ⟨a1, _, a3, a4⟩ := macS_free h1
 obtain ⟨b1, _, b3, b4⟩ := macS_free h2
 rw [h3]
 exact ⟨rfl, b1.trans a1, b3.trans a3, b4.trans a4⟩
theorem AlgOk.node {a : Alg} {m : Nat} (ok : AlgOk a) (h : AlgIn a m) (hm : m ≤ 60000) (key : Tg) {msg : List UInt8} (hl : msg.length ≤ 4096) : AlgOk (nodeS a key msg).1 := by
 obtain ⟨h1, h2, h3⟩ := nodeS_ok h hm key hl
 rw [h3]
 exact (ok.mac key msg).mac _ _
theorem attS_ok {a : Alg} {m : Nat} (h : AlgIn a m) (hm : m ≤ 60000) {p : Pa} {c : Ca} (hc : cavB c = true) (hl : p.cavs.length < 64) (ht : c.third = true → thirdsS p.cavs < 8) :
  attS a p c = ((nodeS a p.tag (cavM c)).1, ⟨p.epoch, p.serial, p.cavs ++ [c], (nodeS a p.tag (cavM c)).2.1⟩, 0) := by
 have h1 := (nodeS_keeps h hm p.tag (msg := cavM c) (by have := cavM_len c; omega)).1
 unfold attS
 rw [if_neg (by rw [hc]; simp), if_neg (by rintro (h | ⟨h, h'⟩); · omega
                                           ·have := ht h; omega), if_pos h1]
theorem restrS_ok {a : Alg} {m : Nat} (h : AlgIn a m) (hm : m ≤ 60000) {d : Di} {p : Pr} (hp : predB p = true) (hk : p.kind ≠ 7) (hl : d.conds.length < 8) :
  (macS a d.tag (condM p)).2.2 = 0 ∧ restrS a d p = ((macS a d.tag (condM p)).1, ⟨d.ticket, d.conds ++ [p], (macS a d.tag (condM p)).2.1⟩, 0) := by
 have h1 : (macS a d.tag (condM p)).2.2 = 0 := macS_ok _ (by have := condM_len p; omega) (by have := h.ml; omega)
 refine ⟨h1, ?_⟩
 unfold restrS
 rw [if_neg (by rw [hp]; simp), if_neg hk, if_neg (by omega), if_pos h1]
theorem blankS_ok {a : Alg} {m : Nat} (h : AlgIn a m) (hm : m ≤ 60000) {c : Co} {t : Te} (ht : teB t = true) (h0 : 0 ≤ c.party) (h7 : c.party ≤ 7) :
  keyS a = ({ a with fresh := a.fresh + 1 }, if a.free then symT 107 (a.fresh + 1) else derT a.seed (a.fresh + 1), 0) ∧ (sealS (keyS a).1 c.key (keyS a).1.fresh (plainT (keyS a).2.1 t)).2.2 = 0 ∧
  blankS a c t = ((sealS (keyS a).1 c.key (keyS a).1.fresh (plainT (keyS a).2.1 t)).1, ⟨c.party, (keyS a).2.1, (sealS (keyS a).1 c.key (keyS a).1.fresh (plainT (keyS a).2.1 t)).2.1⟩, 0) := by
 have hk := keyS_ok (a := a) (by have := h.f1; omega)
 have h2 : (sealS (keyS a).1 c.key (keyS a).1.fresh (plainT (keyS a).2.1 t)).2.2 = 0 := by
  refine sealS_ok _ ?_ ?_ (by have := plainT_len (keyS a).2.1 t ht; omega) ?_
  ·rw [hk]; have := h.f0; simp only; omega
  ·rw [hk]; have := h.f1; simp only; omega
  ·rw [hk]; have := h.bl; simp only; omega
 refine ⟨hk, h2, ?_⟩
 unfold blankS
 rw [if_neg (by rintro (h | h | h); · rw [ht] at h; cases h
                ·omega
                ·omega), if_pos (by rw [hk]), if_pos h2]
theorem sealS_box {a : Alg} (ok : AlgOk a) {key : Tg} {nonce : Int} {plain : List UInt8} (h : (sealS a key nonce plain).2.2 = 0) : (sealS a key nonce plain).2.1.length = plain.length + 40 := by
 unfold sealS at h ⊢
 split at h
 ·cases h
 ·rename_i h1
  split at h
  ·cases h
  ·rename_i h2
   rw [if_neg h1, if_neg h2]
   split at h
   ·rename_i b hb
    obtain ⟨e, he, k1, k2, k3, k4⟩ := boxL_mem hb
    simp only
    rw [← k4, ← k3]
    cases hfr : a.free with
    | true =>
     obtain ⟨i, hi, rfl⟩ := List.getElem_of_mem he
     rw [ok.bf hfr i hi, List.length_append, List.length_replicate, (symT _ _).2]; omega
    | false => rw [ok.bn hfr e he, sealB_len]
   ·split at h
    ·cases h
    ·rename_i h3
     rw [if_neg h3]
     simp only
     unfold sealN
     split
     ·rw [List.length_append, List.length_replicate, (symT _ _).2]; omega
     ·rw [sealB_len]
end

section
variable [W : W32]
theorem macS_sub {a : Alg} {key : Tg} {msg : List UInt8} (h : (macS a key msg).2.2 = 0) : ∀ e ∈ a.macs, e ∈ (macS a key msg).1.macs := fun e he => by
 by_cases h1 : 4096 < msg.length
 ·rw [macS_long h1] at h; cases h
 ·cases hE : entL key msg a.macs with
  | some t => rw [macS_found h1 hE]; exact he
  | none =>
   by_cases hf : 65536 ≤ a.macs.length
   ·rw [macS_full h1 hE hf] at h; cases h
   ·rw [macS_new h1 hE hf]; exact List.mem_append_left _ he
theorem macS_mem {a : Alg} {key : Tg} {msg : List UInt8} (h : (macS a key msg).2.2 = 0) : (⟨key, msg, (macS a key msg).2.1⟩ : MacE) ∈ (macS a key msg).1.macs := by
 by_cases h1 : 4096 < msg.length
 ·rw [macS_long h1] at h; cases h
 ·cases hE : entL key msg a.macs with
  | some t =>
   rw [macS_found h1 hE]
   obtain ⟨⟨x, y, z⟩, he, h2, h3, h4⟩ := entL_mem hE
   simp only at h2 h3 h4
   subst h2 h3 h4
   exact he
  | none =>
   by_cases hf : 65536 ≤ a.macs.length
   ·rw [macS_full h1 hE hf] at h; cases h
   ·rw [macS_new h1 hE hf]; exact List.mem_append_right _ (List.mem_singleton.2 rfl)
omit W in
def nodeIn (M : List MacE) (k : Tg) (m : List UInt8) (t : Tg) : Prop := (⟨k, m, t⟩ : MacE) ∈ M ∧ ∃ id, (⟨t, nodeB, id⟩ : MacE) ∈ M
omit W in
def pathIn (M : List MacE) : Tg → List (List UInt8) → Tg → Prop
 | k, [], t => k = t
 | k, m :: r, t => ∃ t', nodeIn M k m t' ∧ pathIn M t' r t
omit W in
theorem nodeIn.sub {M M' : List MacE} (hs : ∀ e ∈ M, e ∈ M') {k : Tg} {m : List UInt8} {t : Tg} (h : nodeIn M k m t) : nodeIn M' k m t := by
 obtain ⟨h1, id, h2⟩ := h
 exact ⟨hs _ h1, id, hs _ h2⟩
omit W in
theorem pathIn.sub {M M' : List MacE} (hs : ∀ e ∈ M, e ∈ M') : ∀ {L : List (List UInt8)} {k t : Tg}, pathIn M k L t → pathIn M' k L t
 | [], _, _, h => h
 | _ :: _, _, _, h => by
  obtain ⟨t', h1, h2⟩ := h
  exact ⟨t', h1.sub hs, h2.sub hs⟩
omit W in
theorem pathIn.snoc {M : List MacE} {m : List UInt8} {t t0 : Tg} (hn : nodeIn M t0 m t) : ∀ {L : List (List UInt8)} {k : Tg}, pathIn M k L t0 → pathIn M k (L ++ [m]) t
 | [], k, h => by
  have h : k = t0 := h
  subst h
  exact ⟨t, hn, rfl⟩
 | _ :: _, _, h => by
  obtain ⟨t', h1, h2⟩ := h
  exact ⟨t', h1, h2.snoc hn⟩
theorem nodeS_mem {a : Alg} {m : Nat} (h : AlgIn a m) (hm : m ≤ 60000) (key : Tg) {msg : List UInt8} (hl : msg.length ≤ 4096) :
  nodeIn (nodeS a key msg).1.macs key msg (nodeS a key msg).2.1 ∧ ∀ e ∈ a.macs, e ∈ (nodeS a key msg).1.macs := by
 obtain ⟨h1, h2, h3⟩ := nodeS_ok h hm key hl
 rw [h3]
 exact ⟨⟨macS_sub h2 _ (macS_mem h1), _, macS_mem h2⟩, fun e he => macS_sub h2 e (macS_sub h1 e he)⟩
theorem look_in {a : Alg} (ok : AlgOk a) {e : MacE} (he : e ∈ a.macs) : lookO a e.key e.msg = some e.tag := by
 unfold lookO
 cases hf : a.free with
 | true => rw [if_pos rfl]; exact ok.mu e he
 | false =>
  have := ok.ml e he
  rw [if_neg (by simp), if_neg (by omega), ok.mn hf e he]
end

section
variable [W : W32]
end

section
variable [W : W32]
theorem mint_step {a : Alg} {m : Nat} (h : AlgIn a m) (ok : AlgOk a) (hm : m ≤ 1000) {num : Int} (n0 : 1 ≤ num) (n1 : num ≤ 1000) (key : Tg) {s : Nat} (s0 : 1 ≤ s) (s1 : s ≤ 1073741824) :
  ∃ a' t, mintS a num key s = (a', ⟨num, s, [], t⟩, 0) ∧ AlgIn a' (m + 2) ∧ AlgOk a' ∧ a'.free = a.free ∧ (∀ e ∈ a.macs, e ∈ a'.macs) ∧ pathIn a'.macs key [mintM s] t := by
 have hml := mintM_len s (by omega)
 obtain ⟨k1, k2, _, _⟩ := nodeS_keeps h (by omega) key (msg := mintM s) (by omega)
 obtain ⟨z1, z2⟩ := nodeS_mem h (by omega) key (msg := mintM s) (by omega)
 refine ⟨(nodeS a key (mintM s)).1, (nodeS a key (mintM s)).2.1, ?_, nodeS_in h _ _, ok.node h (by omega) key (by omega), k2, z2, _, z1, rfl⟩
 unfold mintS
 rw [if_neg (by omega), if_pos (by rw [Int.toNat_natCast]; exact k1), Int.toNat_natCast]
theorem att_step {a : Alg} {m : Nat} (h : AlgIn a m) (ok : AlgOk a) (hm : m ≤ 1000) {p : Pa} {c : Ca} (hc : cavB c = true) (hl : p.cavs.length < 8) {key : Tg} {M : List (List UInt8)} (hp : pathIn a.macs key M p.tag) :
  ∃ a' t, attS a p c = (a', ⟨p.epoch, p.serial, p.cavs ++ [c], t⟩, 0) ∧ AlgIn a' (m + 2) ∧ AlgOk a' ∧ a'.free = a.free ∧ (∀ e ∈ a.macs, e ∈ a'.macs) ∧ pathIn a'.macs key (M ++ [cavM c]) t ∧ nodeIn a'.macs p.tag (cavM c) t := by
 have hml := cavM_len c
 obtain ⟨k1, k2, _, _⟩ := nodeS_keeps h (by omega) p.tag (msg := cavM c) (by omega)
 obtain ⟨z1, z2⟩ := nodeS_mem h (by omega) p.tag (msg := cavM c) (by omega)
 exact ⟨_, _, attS_ok h (by omega) hc (by omega) (fun _ => by unfold thirdsS; omega), nodeS_in h _ _, ok.node h (by omega) p.tag (by omega), k2, z2, (hp.sub z2).snoc z1, z1⟩
theorem tag_inj {a : Alg} (ok : AlgOk a) (hf : a.free = true) (hl : a.macs.length ≤ 100000) {e e' : MacE} (h : e ∈ a.macs) (h' : e' ∈ a.macs) (ht : e.tag = e'.tag) : e = e' := by
 obtain ⟨i, hi, rfl⟩ := List.getElem_of_mem h
 obtain ⟨j, hj, rfl⟩ := List.getElem_of_mem h'
 rw [ok.mf hf i hi, ok.mf hf j hj] at ht
 have := symT_inj (by omega) (by omega) (by omega) (by omega) ht
 obtain rfl : i = j := by omega
 rfl
omit W in
def pathR (M : List MacE) (k : Tg) : List (List UInt8) → Tg → Prop
 | [], t => t = k
 | m :: r, t => ∃ t0, pathR M k r t0 ∧ nodeIn M t0 m t
omit W in
theorem pathR_of {M : List MacE} {k0 : Tg} : ∀ {L : List (List UInt8)} {k t : Tg} {acc : List (List UInt8)}, pathIn M k L t → pathR M k0 acc k → pathR M k0 (L.reverse ++ acc) t
 | [], k, t, acc, h, h0 => by
  have h : k = t := h
  subst h
  simpa using h0
 | m :: r, k, t, acc, h, h0 => by
  obtain ⟨t', h1, h2⟩ := h
  rw [List.reverse_cons, List.append_assoc]
  exact pathR_of h2 ⟨k, h0, h1⟩
omit W in
theorem sym_kind {n i : Int} : symT 109 i ≠ symT 107 n := by
 intro h
 have h1 := congrArg (fun x : Tg => x.1[6]?) h
 simp [symT] at h1
theorem pathR_inj {a : Alg} (ok : AlgOk a) (hf : a.free = true) (hl : a.macs.length ≤ 100000) {n : Int} : ∀ {R R' : List (List UInt8)} {t : Tg}, pathR a.macs (symT 107 n) R t → pathR a.macs (symT 107 n) R' t → R = R'
 | [], [], _, _, _ => rfl
 | [], m :: r, t, h, h' => by
  have h : t = symT 107 n := h
  obtain ⟨t0, _, h2, _⟩ := h'
  obtain ⟨i, hi, he⟩ := List.getElem_of_mem h2
  have := ok.mf hf i hi
  rw [he] at this
  exact absurd (this.symm.trans h) sym_kind
 | m :: r, [], t, h', h => by
  have h : t = symT 107 n := h
  obtain ⟨t0, _, h2, _⟩ := h'
  obtain ⟨i, hi, he⟩ := List.getElem_of_mem h2
  have := ok.mf hf i hi
  rw [he] at this
  exact absurd (this.symm.trans h) sym_kind
 | m :: r, m' :: r', t, h, h' => by
  obtain ⟨t0, h1, h2, _⟩ := h
  obtain ⟨t0', h1', h2', _⟩ := h'
  have := tag_inj ok hf hl h2 h2' rfl
  rw [MacE.mk.injEq] at this
  obtain ⟨rfl, rfl, _⟩ := this
  rw [pathR_inj ok hf hl h1 h1']
theorem path_inj {a : Alg} (ok : AlgOk a) (hf : a.free = true) (hl : a.macs.length ≤ 100000) {n : Int} {M M' : List (List UInt8)} {t : Tg} (h : pathIn a.macs (symT 107 n) M t) (h' : pathIn a.macs (symT 107 n) M' t) : M = M' := by
 have h1 := pathR_of (k0 := symT 107 n) (acc := []) h rfl
 have h2 := pathR_of (k0 := symT 107 n) (acc := []) h' rfl
 have := pathR_inj ok hf hl h1 h2
 simpa using this
theorem path_det {a : Alg} (ok : AlgOk a) : ∀ {M : List (List UInt8)} {k t t' : Tg}, pathIn a.macs k M t → pathIn a.macs k M t' → t = t'
 | [], k, t, t', h, h' => by
  have h : k = t := h
  have h' : k = t' := h'
  rw [← h, ← h']
 | m :: r, k, t, t', h, h' => by
  obtain ⟨x, ⟨h1, _⟩, h2⟩ := h
  obtain ⟨y, ⟨h1', _⟩, h2'⟩ := h'
  have e1 := look_in ok h1
  have e2 := look_in ok h1'
  simp only at e1 e2
  rw [e1] at e2
  injection e2 with e2
  subst e2
  exact path_det ok h2 h2'
omit W in
theorem cavM_inj {c d : Ca} (hc : cavB c = true) (hd : cavB d = true) (pc : PrOk c.first) (pd : PrOk d.first) (h : cavM c = cavM d) : c = d := by
 unfold cavM encS at h
 rw [if_pos hc, if_pos hd] at h
 exact encC_inj hc hd pc pd (List.append_cancel_left h)
omit W in
theorem cavs_inj : ∀ {L L' : List Ca}, (∀ c ∈ L, cavB c = true ∧ PrOk c.first) → (∀ c ∈ L', cavB c = true ∧ PrOk c.first) → L.map cavM = L'.map cavM → L = L'
 | [], [], _, _, _ => rfl
 | [], _ :: _, _, _, h => by simp at h
 | _ :: _, [], _, _, h => by simp at h
 | c :: r, d :: r', h1, h2, h => by
  rw [List.map_cons, List.map_cons, List.cons.injEq] at h
  have a1 := h1 c (List.mem_cons_self ..)
  have a2 := h2 d (List.mem_cons_self ..)
  rw [cavM_inj a1.1 a2.1 a1.2 a2.2 h.1, cavs_inj (fun x hx => h1 x (List.mem_cons_of_mem _ hx)) (fun x hx => h2 x (List.mem_cons_of_mem _ hx)) h.2]
omit W in
theorem mintM_inj {s s' : Nat} (h0 : 1 ≤ s) (h1 : s ≤ 3) (h2 : 1 ≤ s') (h3 : s' ≤ 3) (h : mintM s = mintM s') : s = s' := by
 have hs : s = 1 ∨ s = 2 ∨ s = 3 := by omega
 have hs' : s' = 1 ∨ s' = 2 ∨ s' = 3 := by omega
 rcases hs with rfl | rfl | rfl <;> rcases hs' with rfl | rfl | rfl <;> first | rfl | (exact absurd h (by decide +kernel))
theorem chain_free {a : Alg} (ok : AlgOk a) (hf : a.free = true) (hl : a.macs.length ≤ 100000) {n : Int} {s s' : Nat} (h0 : 1 ≤ s) (h1 : s ≤ 3) (h2 : 1 ≤ s') (h3 : s' ≤ 3) {L L' : List Ca} (v : ∀ c ∈ L, cavB c = true ∧ PrOk c.first) (v' : ∀ c ∈ L', cavB c = true ∧ PrOk c.first) {t t' : Tg}
  (p : pathIn a.macs (symT 107 n) (mintM s :: L.map cavM) t) (p' : pathIn a.macs (symT 107 n) (mintM s' :: L'.map cavM) t') : t = t' ↔ s = s' ∧ L = L' := by
 constructor
 ·rintro rfl
  have := path_inj ok hf hl p p'
  rw [List.cons.injEq] at this
  exact ⟨mintM_inj h0 h1 h2 h3 this.1, cavs_inj v v' this.2⟩
 ·rintro ⟨rfl, rfl⟩
  exact path_det ok p p'
end

def CAD (l : List Int) (j : Nat) (c : Ca) (j1 : Nat) : Prop := cavB c = true ∧ PrOk c.first ∧ CaSm c ∧ Dk l j1 ∧ ∀ d k, ACall Tryd.prog 53 [.ptr d [] 0] k [(d, deckBox l j)] (caAV c) [(d, deckBox l j1)]
def gRun (l : List Int) : Nat → Nat → List Ca → (List Ca × Nat) → Prop
 | 0, j, acc, R => R = (acc, j)
 | f + 1, j, acc, R => ((nextD l (nextD l j 3).2 3).1 ≠ 0 → gRun l f (nextD l (nextD l j 3).2 3).2 (acc ++ [ridesC ((nextD l j 3).1 : Nat)]) R) ∧
  ((nextD l (nextD l j 3).2 3).1 = 0 → ∃ c j1, CAD l (nextD l (nextD l j 3).2 3).2 c j1 ∧ gRun l f j1 (acc ++ [c]) R)
theorem ridesC_ok {n : Nat} (h : n ≤ 1000000) : cavB (ridesC n) = true ∧ PrOk (ridesC n).first ∧ CaSm (ridesC n) := by
 have hp : predB ⟨7, 0, 0, 0, [], (n : Int)⟩ = true := by simp [predB]; omega
 exact ⟨(CV.first _ hp).ok, ⟨by simp [ridesC, firC], by simp [ridesC, firC], by simp [ridesC, firC]⟩, by simp [CaSm, ridesC, firC]⟩
theorem gRun_ex {l : List Int} : ∀ (f j : Nat) (acc : List Ca), Dk l j → (∀ c ∈ acc, cavB c = true ∧ PrOk c.first ∧ CaSm c) → ∃ R, gRun l f j acc R ∧ Dk l R.2 ∧ (∀ c ∈ R.1, cavB c = true ∧ PrOk c.first ∧ CaSm c) ∧ R.1.length = acc.length + f
 | 0, j, acc, h, ha => ⟨_, rfl, h, ha, rfl⟩
 | f + 1, j, acc, h, ha => by
  have d1 := nextD_dk 3 h
  have d2 := nextD_dk 3 d1
  have b1 := nextD_lt l j 3 (by omega)
  have app : ∀ c, (cavB c = true ∧ PrOk c.first ∧ CaSm c) → ∀ x ∈ acc ++ [c], cavB x = true ∧ PrOk x.first ∧ CaSm x := fun c hc x hx => by
   rcases List.mem_append.1 hx with hx | hx
   ·exact ha x hx
   ·rw [List.mem_singleton.1 hx]; exact hc
  by_cases hy : (nextD l (nextD l j 3).2 3).1 = 0
  ·obtain ⟨c, j1, h1, h2, h3, h4, h5⟩ := Caveat_ex l (nextD l (nextD l j 3).2 3).2 d2
   obtain ⟨R, hR, k1, k2, k3⟩ := gRun_ex f j1 (acc ++ [c]) h4 (app c ⟨h1, h2, h3⟩)
   exact ⟨R, ⟨fun h => absurd hy h, fun _ => ⟨c, j1, ⟨h1, h2, h3, h4, h5⟩, hR⟩⟩, k1, k2, by rw [k3]; simp; omega⟩
  ·obtain ⟨R, hR, k1, k2, k3⟩ := gRun_ex f (nextD l (nextD l j 3).2 3).2 (acc ++ [ridesC ((nextD l j 3).1 : Nat)]) d2 (app _ (ridesC_ok (by omega)))
   exact ⟨R, ⟨fun _ => hR, fun h => absurd h hy⟩, k1, k2, by rw [k3]; simp; omega⟩
def mtAV (s : Nat) (L : List Ca) : AV := .agg [.lit (.int .i64 s), .lit (.int .i64 0), .slice none (L.map caAV)]
set_option maxHeartbeats 2000000 in
theorem grown_core (l : List Int) (i : Nat) (h : Dk l i) (R : List Ca) (j : Nat) (hR : gRun l (nextD l (rangeD l i 1 3).2 5).1 (nextD l (rangeD l i 1 3).2 5).2 [] (R, j)) (d k : Nat) :
  ACall Tryd.prog 19 [.ptr d [] 0] k [(d, deckBox l i)] (mtAV (rangeD l i 1 3).1 R) [(d, deckBox l j)] := by
 have c1 := Range_spec l i 1 3 3 h (by omega) (by omega) rfl (by omega)
 have h1 := rangeD_dk (lo := 1) (n := 3) h
 generalize rangeD l i 1 3 = X at *
 obtain ⟨sv, j0⟩ := X
 simp only at *
 have c2 := Next_spec l j0 5 h1 (by omega) (by omega)
 have h2 := nextD_dk 5 h1
 have b2 := nextD_lt l j0 5 (by omega)
 clear h h1
 generalize nextD l j0 5 = Y at *
 obtain ⟨f0, j1⟩ := Y
 unfold mtAV
 have e1 : ((1 : Nat) : Int) = 1 := rfl
 have e3 : ((3 : Nat) : Int) = 3 := rfl
 have e5 : ((5 : Nat) : Int) = 5 := rfl
 simp only [e1, e3, e5] at *
 refine Bd Tryd.func19 Tryd.ntmps19 fun σ N hp hpn hk hkn hfree => ?_
 obtain ⟨hd, hdn⟩ := HD0 hp hpn; clear hp hpn
 have hcs := And.intro (c1 d) (And.intro (c2 d) True.intro)
 clear c1 c2
 refine Wk ?_
 clear hcs
 refine go_nilrowIn (N + 1 + 3) [2] 57 10 (bt := 49) (c := .agg [.lit (.int .i64 sv), .lit (.int .i64 0), .nils]) (by simp (disch := omega) [go_sem, *, -List.reduceReplicate]) rfl ?_
 refine go_loopF mixed (by kernel_rfl) [4, 5, 11, 12, 13, 14, 15, 16, 17, 18, 19, 20, 21, 22, 23, 24, 25, 26, 27, 28] [d, N+1+3, N+9] (fun m_ s_ σ_ n_ => ∃ (f : Nat) (acc : List Ca) (j' : Nat), m_ = f ∧ s_ 4 = .lit (.int .i64 f) ∧ σ_ (d) = deckBox l j' ∧ σ_ (N+1+3) = .box 49 (.agg [.lit (.int .i64 sv), .lit (.int .i64 0), .slice (some (N + 9)) (acc.map caAV)]) ∧ σ_ (N+9) = .row 57 10 acc.length ∧ (acc.length + f ≤ 10) ∧ (Dk l j') ∧ (gRun l f j' acc (R, j))) ⟨_, f0, [], j1, rfl, WF, WF, WF, WF, WC, WC, WC⟩ ?_
 intro m_1 s_1 σ_1 n_1 hs_1 hf_1 hn_1 hI_1
 obtain ⟨f, acc, j', hm_1, h1_4, e1_0, e1_1, e1_2, hal, hj, hrun⟩ := hI_1
 have h1_0 := KS hs_1 0
 have h1_2 := KS hs_1 2
 have h1_3 := KS hs_1 3
 have k1_0 := KE hf_1 (N)
 have hlow := KD (N := N) (d := d) (σ := σ) hf_1
 clear hR h2 b2 e1 e5
 cases f with
 | zero =>
  have hrun : (R, j) = (acc, j') := hrun
  simp only [Prod.mk.injEq] at hrun
  obtain ⟨rfl, rfl⟩ := hrun
  clear hj
  refine Wk ?_
  exact RV (d) (deckBox l j)
 | succ f =>
  obtain ⟨hr1, hr2⟩ := hrun
  have d1 := nextD_dk 3 hj
  have c1 := Next_spec l j' 3 hj (by omega) (by omega)
  have c3 := Next_spec l (nextD l j' 3).2 3 d1 (by omega) (by omega)
  have d2 := nextD_dk 3 d1
  clear hj
  generalize nextD l (nextD l j' 3).2 3 = Y at *
  generalize nextD l j' 3 = X at *
  obtain ⟨x, jx⟩ := X
  obtain ⟨y, jy⟩ := Y
  simp only at *
  have c2 := rides13_spec (x : Nat)
  have hb26 : (acc.length + 1) * 120 ≤ 140737488355328 := by omega
  clear e3 d1
  by_cases hy : y = 0
  ·subst hy
   obtain ⟨c, jc, ⟨q1, q2, q3, q4, q5⟩, hr⟩ := hr2 rfl
   have hcs := And.intro (c1 d) (And.intro c2 (And.intro (c3 d) (And.intro (q5 d) True.intro)))
   clear c1 c2 c3 q5 hr1 hr2 q1 q2 q3 d2
   generalize ridesC x = C0 at *
   refine Wk ?_
   exact ⟨WS, WG, WN, _, (show (f) < m_1 by omega), f, acc ++ [c], jc, rfl, WF, WF, WF, WF, WC, WC, WC⟩
  ·have hr := hr1 hy
   have hyi : ((y : Int) == 0) = false := by rw [beq_eq_false_iff_ne]; omega
   have hcs := And.intro (c1 d) (And.intro c2 (And.intro (c3 d) True.intro))
   clear c1 c2 c3 hr1 hr2
   generalize ridesC x = C0 at *
   refine Wk ?_
   exact ⟨WS, WG, WN, _, (show (f) < m_1 by omega), f, acc ++ [C0], jy, rfl, WF, WF, WF, WF, WC, WC, WC⟩
theorem grown_ex (l : List Int) (i : Nat) (h : Dk l i) : ∃ (s : Nat) (L : List Ca) (j : Nat), 1 ≤ s ∧ s ≤ 3 ∧ L.length ≤ 4 ∧ (∀ c ∈ L, cavB c = true ∧ PrOk c.first ∧ CaSm c) ∧ ∀ d k, ACall Tryd.prog 19 [.ptr d [] 0] k [(d, deckBox l i)] (mtAV s L) [(d, deckBox l j)] := by
 have h1 := rangeD_dk (lo := 1) (n := 3) h
 obtain ⟨⟨R, j⟩, hR, _, h3, h4⟩ := gRun_ex (nextD l (rangeD l i 1 3).2 5).1 (nextD l (rangeD l i 1 3).2 5).2 [] (nextD_dk _ h1) (fun p hp => by cases hp)
 have b1 := nextD_lt l i 3 (by omega)
 have b2 := nextD_lt l (rangeD l i 1 3).2 5 (by omega)
 simp only [List.length_nil] at h4
 exact ⟨(rangeD l i 1 3).1, R, j, by unfold rangeD; simp only; omega, by unfold rangeD; simp only; omega, by omega, h3, fun d k => grown_core l i h R j hR d k⟩
section
variable [W : W32]
theorem aK_ok : AlgOk ⟨true, zeroTag, 1, [], []⟩ := .nil _ _ _
omit W in
theorem aK_in : AlgIn ⟨true, zeroTag, 1, [], []⟩ 1 := ⟨by simp, by simp, by simp, by simp, fun e he => by simp at he, fun e he => by simp at he⟩
theorem key_aF : keyS aF = (⟨true, zeroTag, 1, [], []⟩, symT 107 1, 0) := (keyS_ok (by simp [aF])).trans rfl
set_option maxHeartbeats 16000000 in
theorem ChainFree_core (xs ys : List Int) (hx : xs.length ≤ 9223372036854775807) (hy : ys.length ≤ 9223372036854775807) (same : Bool) (g h : Nat) (hgh : g ≠ h) (k : Nat) :
  ACall Tryd.prog 4 [.slice none (xs.map intAV), .slice none (ys.map intAV), .lit (.bool same)] k [(g, shaG), (h, bitsG)] (.lit (.bool true)) [] := by
 have c0 := Key_spec aF (by simp [aF])
 rw [key_aF] at c0
 have c1 := New_spec xs
 have c2 := New_spec ys
 obtain ⟨s1, L1, j1, u1, u2, u3, u4, c3⟩ := grown_ex xs 0 ⟨hx, Nat.zero_le _⟩
 obtain ⟨s2, L2, j2, v1, v2, v3, v4, c4⟩ := grown_ex ys 0 ⟨hy, Nat.zero_le _⟩
 have c9 := awake13_spec g h hgh
 unfold mkAV at c0
 unfold mtAV at c3 c4
 have e0 : ((0 : Nat) : Int) = 0 := rfl
 rw [aF_eq] at c0
 simp only [e0] at c0
 obtain ⟨A0, hA0⟩ : ∃ A0, A0 = (⟨true, zeroTag, 1, [], []⟩ : Alg) := ⟨_, rfl⟩
 have hin0 : AlgIn A0 1 := by rw [hA0]; exact aK_in
 have hok0 : AlgOk A0 := by rw [hA0]; exact aK_ok
 have hfr0 : A0.free = true := by rw [hA0]
 rw [← hA0] at c0
 clear hA0 hx hy
 obtain ⟨A1, t1, m1, hin1, hok1, hfr1, _, hp1⟩ := mint_step hin0 hok0 (by omega) (num := 1) (by omega) (by omega) (symT 107 1) u1 (by omega)
 rw [hfr0] at hfr1
 have c5 := Mint_spec A0 1 hin0 (by decide) 1 s1 (symT 107 1) g
 rw [m1] at c5
 unfold mpAV at c5
 simp only [e0] at c5
 have hep : ∀ K : Tg, (AV.agg [.lit (.int .i64 1), tagAV K]) = .agg [.lit (.int .i64 1), tagAV K] := fun _ => rfl
 clear m1 hin0 hok0 hfr0 hep
 cases same with
 | false =>
  refine Bd Tryd.func4 Tryd.ntmps4 fun σ N hp hpn hk hkn hfree => ?_
  simp only [List.mem_cons, List.not_mem_nil, or_false, forall_eq_or_imp, forall_eq] at hp hpn; obtain ⟨hd1, hd2⟩ := hp; obtain ⟨hdn1, hdn2⟩ := hpn
  have hcs := And.intro c0 (And.intro c1 (And.intro (c3 (N + 12 + 1)) (And.intro c2 (And.intro (c4 (N + 12 + 4)) (And.intro c5 True.intro)))))
  clear c0 c1 c2 c3 c4
  refine Wk ?_
  clear hcs c5
  refine go_loopF mixed (by kernel_rfl) [14, 15, 45, 46, 47, 48, 49, 50, 51, 52, 53, 54, 55, 56, 57, 58, 59, 60, 61, 62, 63, 64, 65, 66, 67] [N+1+6, N+27+9] (fun m_ s_ σ_ n_ => ∃ (i : Nat) (A : Alg) (P : Pa), m_ = L1.length - i ∧ s_ 15 = .lit (.int .i64 i) ∧ s_ 14 = .lit (.int .i64 0) ∧ σ_ (N+1+6) = .box 30 (algAV A) ∧ σ_ (N+27+9) = .box 34 (paAV P) ∧ (i ≤ L1.length) ∧ (AlgIn A (3 + 2 * i)) ∧ (AlgOk A) ∧ (A.free = true) ∧ (P.cavs = L1.take i) ∧ (pathIn A.macs (symT 107 1) (mintM s1 :: (L1.take i).map cavM) P.tag)) ⟨_, 0, A1, ⟨1, s1, [], t1⟩, rfl, WF, WF, WF, WF, WC, WC, WC, WC, WC, WC⟩ ?_
  intro m_2 s_2 σ_2 n_2 hs_2 hf_2 hn_2 hI_2
  obtain ⟨i, A, P, hm_2, h2_15, h2_14, e2_0, e2_1, hi, hin, hok, hfr, hpc, hp⟩ := hI_2
  have h2_6 := KS hs_2 6
  have h2_7 := KS hs_2 7
  have h2_10 := KS hs_2 10
  have h2_11 := KS hs_2 11
  have h2_12 := KS hs_2 12
  have h2_13 := KS hs_2 13
  have k2_0 := KE hf_2 (N + 1 + 7)
  have k2_1 := KE hf_2 (N + 12 + 6)
  have k2_2 := KE hf_2 (N + 12 + 7)
  have k2_3 := KE hf_2 (N + 23 + 2)
  have k2_4 := KE hf_2 (g)
  have k2_5 := KE hf_2 (h)
  have hlow := KL (N := N) (σ := σ) hf_2
  clear hin1 hok1 hfr1 hp1
  by_cases hil : i = L1.length
  ·subst hil
   rw [List.take_length] at hpc hp
   obtain ⟨A2, t2, m2, hin2, hok2, hfr2, hsb2, hp2⟩ := mint_step hin hok (by omega) (num := 1) (by omega) (by omega) (symT 107 1) v1 (show s2 ≤ 1073741824 by omega)
   rw [hfr] at hfr2
   have hq2 := hp.sub hsb2
   have hin2b : AlgIn A2 (5 + 2 * L1.length) := hin2.more (by omega)
   have c5 := Mint_spec A (3 + 2 * L1.length) hin (by omega) 1 s2 (symT 107 1) g
   rw [m2] at c5
   unfold mpAV at c5
   simp only [e0] at c5
   have hcs := And.intro c5 True.intro
   clear c5 m2 hin hok hfr hpc hp hsb2
   refine Wk ?_
   clear hcs
   refine go_loopF mixed (by kernel_rfl) [14, 17, 79, 80, 81, 82, 83, 84, 85, 86, 87, 88, 89, 90, 91, 92, 93, 94, 95, 96, 97, 98, 99, 100, 101] [N+1+6, n_2+11+9] (fun m_ s_ σ_ n_ => ∃ (q : Nat) (D : Alg) (Z : Pa), m_ = L2.length - q ∧ s_ 17 = .lit (.int .i64 q) ∧ s_ 14 = .lit (.int .i64 0) ∧ σ_ (N+1+6) = .box 30 (algAV D) ∧ σ_ (n_2+11+9) = .box 34 (paAV Z) ∧ (q ≤ L2.length) ∧ (AlgIn D (5 + 2 * L1.length + 2 * q)) ∧ (AlgOk D) ∧ (D.free = true) ∧ (Z.cavs = L2.take q) ∧ (pathIn D.macs (symT 107 1) (mintM s2 :: (L2.take q).map cavM) Z.tag) ∧ (pathIn D.macs (symT 107 1) (mintM s1 :: L1.map cavM) P.tag)) ⟨_, 0, A2, ⟨1, s2, [], t2⟩, rfl, WF, WF, WF, WF, WC, WC, WC, WC, WC, WC, WC⟩ ?_
   intro m_3 s_3 σ_3 n_3 hs_3 hf_3 hn_3 hI_3
   obtain ⟨q, D, Z, hm_3, h3_17, h3_14, e3_0, e3_1, hq, hin, hok, hfr, hzc, hz, hpz⟩ := hI_3
   have h3_6 := KS hs_3 6
   have h3_7 := KS hs_3 7
   have h3_10 := KS hs_3 10
   have h3_11 := KS hs_3 11
   have h3_13 := KS hs_3 13
   have h3_16 := KS hs_3 16
   have k3_0 := KE hf_3 (N + 27 + 9)
   have k3_1 := KE hf_3 (N + 12 + 6)
   have k3_2 := KE hf_3 (N + 12 + 7)
   have k3_3 := KE hf_3 (g)
   have k3_4 := KE hf_3 (h)
   have hlow := KL (N := N) (σ := σ) hf_3
   clear hin2 hok2 hfr2 hp2 hq2
   by_cases hql : q = L2.length
   ·subst hql
    rw [List.take_length] at hzc hz
    have hiff := chain_free hok hfr (by have := hin.ml; omega) u1 u2 v1 v2 (fun c hc => ⟨(u4 c hc).1, (u4 c hc).2.1⟩) (fun c hc => ⟨(v4 c hc).1, (v4 c hc).2.1⟩) hpz hz
    have c6 := refSame_cav L1 L2 (fun c hc => (u4 c hc).2.2) (fun c hc => (v4 c hc).2.2) (by omega) (by omega)
    obtain ⟨pe, ps, pc, pt⟩ := P
    obtain ⟨ze, zs, zc, zt⟩ := Z
    simp only at hiff
    have hpA : paAV ⟨pe, ps, pc, pt⟩ = .agg [.lit (.int .i64 pe), .lit (.int .i64 ps), .slice none (pc.map caAV), tagAV pt] := rfl
    have hzA : paAV ⟨ze, zs, zc, zt⟩ = .agg [.lit (.int .i64 ze), .lit (.int .i64 zs), .slice none (zc.map caAV), tagAV zt] := rfl
    simp only [hpA, hzA] at *
    clear hpA hzA hin hok hfr hz hpz hzc
    by_cases hse : s1 = s2
    ·have hdec : decide (pt = zt) = decide (L1 = L2) := by
      by_cases hL : L1 = L2
      ·rw [decide_eq_true hL]; exact decide_eq_true (hiff.2 ⟨hse, hL⟩)
      ·rw [decide_eq_false hL]; exact decide_eq_false (fun hh => hL (hiff.1 hh).2)
     have hsi : ((s1 : Int) == (s2 : Int)) = true := by rw [hse]; simp
     generalize decide (L1 = L2) = bb at *
     have hcs := And.intro c6 (And.intro c9 True.intro)
     clear c6 c9 hiff hse u4 v4
     exact W0
    ·have hdec : decide (pt = zt) = false := decide_eq_false (fun hh => hse (hiff.1 hh).1)
     have hsi : ((s1 : Int) == (s2 : Int)) = false := by rw [beq_eq_false_iff_ne]; omega
     have hcs := And.intro c9 True.intro
     clear c6 c9 hiff hse u4 v4
     exact W0
   ·have hq1 : q < L2.length := by omega
    have hq1i : (q : Int) < (L2.length : Int) := by omega
    obtain ⟨z, hz0⟩ : ∃ z, L2[q] = z := ⟨_, rfl⟩
    have hzm : (L2.map caAV)[q]? = some (caAV z) := by rw [List.getElem?_map, List.getElem?_eq_getElem hq1, hz0]; rfl
    have hzv := v4 z (by rw [← hz0]; exact List.getElem_mem _)
    have htk : L2.take (q + 1) = L2.take q ++ [z] := by rw [List.take_add_one, List.getElem?_eq_getElem hq1, hz0]; rfl
    obtain ⟨D2, t3, m3, hin3, hok3, hfr3, hsb3, hp3, _⟩ := att_step hin hok (by omega) hzv.1 (p := Z) (by rw [hzc, List.length_take]; omega) hz
    rw [hfr] at hfr3
    have c5 := Att_spec D (5 + 2 * L1.length + 2 * q) hin (by omega) Z (by rw [hzc, List.length_take]; omega) (fun c hc => (v4 c (List.mem_of_mem_take (by rw [hzc] at hc; exact hc))).2.2) z hzv.2.2 hzv.2.1 g h hgh
    rw [m3] at c5
    unfold mpAV at c5
    simp only [e0] at c5
    have hzc3 : Z.cavs ++ [z] = L2.take (q + 1) := by rw [htk, hzc]
    have hp3b : pathIn D2.macs (symT 107 1) (mintM s2 :: (L2.take (q + 1)).map cavM) t3 := by rw [htk, List.map_append]; exact hp3
    have hpz3 := hpz.sub hsb3
    have hin3b : AlgIn D2 (5 + 2 * L1.length + 2 * (q + 1)) := hin3.more (by omega)
    have hcs := And.intro c5 True.intro
    clear c5 c9 m3 hin hok hfr hzc hz hpz hin3 hp3 htk hzv u4 v4 hsb3
    refine Wk ?_
    exact ⟨WS, WG, WN, _, (show L2.length - (q + 1) < m_3 by omega), q + 1, D2, ⟨Z.epoch, Z.serial, Z.cavs ++ [z], t3⟩, rfl, WF, WF, WF, WF, WC, WC, WC, WC, WC, WC, WC⟩
  ·have hi1 : i < L1.length := by omega
   have hi1i : (i : Int) < (L1.length : Int) := by omega
   obtain ⟨z, hz⟩ : ∃ z, L1[i] = z := ⟨_, rfl⟩
   have hzm : (L1.map caAV)[i]? = some (caAV z) := by rw [List.getElem?_map, List.getElem?_eq_getElem hi1, hz]; rfl
   have hzv := u4 z (by rw [← hz]; exact List.getElem_mem _)
   have htk : L1.take (i + 1) = L1.take i ++ [z] := by rw [List.take_add_one, List.getElem?_eq_getElem hi1, hz]; rfl
   obtain ⟨D2, t3, m3, hin3, hok3, hfr3, hsb3, hp3, _⟩ := att_step hin hok (by omega) hzv.1 (p := P) (by rw [hpc, List.length_take]; omega) hp
   rw [hfr] at hfr3
   have c5 := Att_spec A (3 + 2 * i) hin (by omega) P (by rw [hpc, List.length_take]; omega) (fun c hc => (u4 c (List.mem_of_mem_take (by rw [hpc] at hc; exact hc))).2.2) z hzv.2.2 hzv.2.1 g h hgh
   rw [m3] at c5
   unfold mpAV at c5
   simp only [e0] at c5
   have hpc3 : P.cavs ++ [z] = L1.take (i + 1) := by rw [htk, hpc]
   have hp3b : pathIn D2.macs (symT 107 1) (mintM s1 :: (L1.take (i + 1)).map cavM) t3 := by rw [htk, List.map_append]; exact hp3
   have hin3b : AlgIn D2 (3 + 2 * (i + 1)) := hin3.more (by omega)
   have hcs := And.intro c5 True.intro
   clear c5 c9 m3 hin hok hfr hpc hp hin3 hp3 htk hzv u4 v4 hsb3
   refine Wk ?_
   exact ⟨WS, WG, WN, _, (show L1.length - (i + 1) < m_2 by omega), i + 1, D2, ⟨P.epoch, P.serial, P.cavs ++ [z], t3⟩, rfl, WF, WF, WF, WF, WC, WC, WC, WC, WC, WC⟩
 | true =>
  refine Bd Tryd.func4 Tryd.ntmps4 fun σ N hp hpn hk hkn hfree => ?_
  simp only [List.mem_cons, List.not_mem_nil, or_false, forall_eq_or_imp, forall_eq] at hp hpn; obtain ⟨hd1, hd2⟩ := hp; obtain ⟨hdn1, hdn2⟩ := hpn
  have hcs := And.intro c0 (And.intro c1 (And.intro (c3 (N + 12 + 1)) (And.intro c2 (And.intro (c4 (N + 12 + 4)) (And.intro c1 (And.intro (c3 (N + 23 + 1)) (And.intro c5 True.intro)))))))
  clear c0 c1 c2 c3 c4
  refine Wk ?_
  clear hcs c5
  refine go_loopF mixed (by kernel_rfl) [14, 15, 45, 46, 47, 48, 49, 50, 51, 52, 53, 54, 55, 56, 57, 58, 59, 60, 61, 62, 63, 64, 65, 66, 67] [N+1+6, N+31+9] (fun m_ s_ σ_ n_ => ∃ (i : Nat) (A : Alg) (P : Pa), m_ = L1.length - i ∧ s_ 15 = .lit (.int .i64 i) ∧ s_ 14 = .lit (.int .i64 0) ∧ σ_ (N+1+6) = .box 30 (algAV A) ∧ σ_ (N+31+9) = .box 34 (paAV P) ∧ (i ≤ L1.length) ∧ (AlgIn A (3 + 2 * i)) ∧ (AlgOk A) ∧ (A.free = true) ∧ (P.cavs = L1.take i) ∧ (pathIn A.macs (symT 107 1) (mintM s1 :: (L1.take i).map cavM) P.tag)) ⟨_, 0, A1, ⟨1, s1, [], t1⟩, rfl, WF, WF, WF, WF, WC, WC, WC, WC, WC, WC⟩ ?_
  intro m_4 s_4 σ_4 n_4 hs_4 hf_4 hn_4 hI_4
  obtain ⟨i, A, P, hm_4, h4_15, h4_14, e4_0, e4_1, hi, hin, hok, hfr, hpc, hp⟩ := hI_4
  have h4_6 := KS hs_4 6
  have h4_7 := KS hs_4 7
  have h4_10 := KS hs_4 10
  have h4_11 := KS hs_4 11
  have h4_12 := KS hs_4 12
  have h4_13 := KS hs_4 13
  have k4_0 := KE hf_4 (N + 1 + 7)
  have k4_1 := KE hf_4 (N + 12 + 6)
  have k4_2 := KE hf_4 (N + 12 + 7)
  have k4_3 := KE hf_4 (N + 27 + 2)
  have k4_4 := KE hf_4 (g)
  have k4_5 := KE hf_4 (h)
  have hlow := KL (N := N) (σ := σ) hf_4
  clear hin1 hok1 hfr1 hp1
  by_cases hil : i = L1.length
  ·subst hil
   rw [List.take_length] at hpc hp
   obtain ⟨A2, t2, m2, hin2, hok2, hfr2, hsb2, hp2⟩ := mint_step hin hok (by omega) (num := 1) (by omega) (by omega) (symT 107 1) u1 (show s1 ≤ 1073741824 by omega)
   rw [hfr] at hfr2
   have hq2 := hp.sub hsb2
   have hin2b : AlgIn A2 (5 + 2 * L1.length) := hin2.more (by omega)
   have c5 := Mint_spec A (3 + 2 * L1.length) hin (by omega) 1 s1 (symT 107 1) g
   rw [m2] at c5
   unfold mpAV at c5
   simp only [e0] at c5
   have hcs := And.intro c5 True.intro
   clear c5 m2 hin hok hfr hpc hp hsb2
   refine Wk ?_
   clear hcs
   refine go_loopF mixed (by kernel_rfl) [14, 17, 79, 80, 81, 82, 83, 84, 85, 86, 87, 88, 89, 90, 91, 92, 93, 94, 95, 96, 97, 98, 99, 100, 101] [N+1+6, n_4+11+9] (fun m_ s_ σ_ n_ => ∃ (q : Nat) (D : Alg) (Z : Pa), m_ = L1.length - q ∧ s_ 17 = .lit (.int .i64 q) ∧ s_ 14 = .lit (.int .i64 0) ∧ σ_ (N+1+6) = .box 30 (algAV D) ∧ σ_ (n_4+11+9) = .box 34 (paAV Z) ∧ (q ≤ L1.length) ∧ (AlgIn D (5 + 2 * L1.length + 2 * q)) ∧ (AlgOk D) ∧ (D.free = true) ∧ (Z.cavs = L1.take q) ∧ (pathIn D.macs (symT 107 1) (mintM s1 :: (L1.take q).map cavM) Z.tag) ∧ (pathIn D.macs (symT 107 1) (mintM s1 :: L1.map cavM) P.tag)) ⟨_, 0, A2, ⟨1, s1, [], t2⟩, rfl, WF, WF, WF, WF, WC, WC, WC, WC, WC, WC, WC⟩ ?_
   intro m_5 s_5 σ_5 n_5 hs_5 hf_5 hn_5 hI_5
   obtain ⟨q, D, Z, hm_5, h5_17, h5_14, e5_0, e5_1, hq, hin, hok, hfr, hzc, hz, hpz⟩ := hI_5
   have h5_6 := KS hs_5 6
   have h5_7 := KS hs_5 7
   have h5_10 := KS hs_5 10
   have h5_11 := KS hs_5 11
   have h5_13 := KS hs_5 13
   have h5_16 := KS hs_5 16
   have k5_0 := KE hf_5 (N + 31 + 9)
   have k5_1 := KE hf_5 (N + 12 + 6)
   have k5_2 := KE hf_5 (N + 12 + 7)
   have k5_3 := KE hf_5 (g)
   have k5_4 := KE hf_5 (h)
   have hlow := KL (N := N) (σ := σ) hf_5
   clear hin2 hok2 hfr2 hp2 hq2
   by_cases hql : q = L1.length
   ·subst hql
    rw [List.take_length] at hzc hz
    have hiff := chain_free hok hfr (by have := hin.ml; omega) u1 u2 u1 u2 (fun c hc => ⟨(u4 c hc).1, (u4 c hc).2.1⟩) (fun c hc => ⟨(u4 c hc).1, (u4 c hc).2.1⟩) hpz hz
    have htt : P.tag = Z.tag := hiff.2 ⟨rfl, rfl⟩
    have c6 := refSame_cav L1 L1 (fun c hc => (u4 c hc).2.2) (fun c hc => (u4 c hc).2.2) (by omega) (by omega)
    rw [show decide (L1 = L1) = true from decide_eq_true rfl] at c6
    clear hiff
    obtain ⟨pe, ps, pc, pt⟩ := P
    obtain ⟨ze, zs, zc, zt⟩ := Z
    simp only at htt
    subst htt
    have hpA : paAV ⟨pe, ps, pc, pt⟩ = .agg [.lit (.int .i64 pe), .lit (.int .i64 ps), .slice none (pc.map caAV), tagAV pt] := rfl
    have hzA : paAV ⟨ze, zs, zc, pt⟩ = .agg [.lit (.int .i64 ze), .lit (.int .i64 zs), .slice none (zc.map caAV), tagAV pt] := rfl
    simp only [hpA, hzA] at *
    clear hpA hzA hin hok hfr hz hpz hzc
    have hcs := And.intro c6 (And.intro c9 True.intro)
    clear c6 c9 u4 v4
    exact W0
   ·have hq1 : q < L1.length := by omega
    have hq1i : (q : Int) < (L1.length : Int) := by omega
    obtain ⟨z, hz0⟩ : ∃ z, L1[q] = z := ⟨_, rfl⟩
    have hzm : (L1.map caAV)[q]? = some (caAV z) := by rw [List.getElem?_map, List.getElem?_eq_getElem hq1, hz0]; rfl
    have hzv := u4 z (by rw [← hz0]; exact List.getElem_mem _)
    have htk : L1.take (q + 1) = L1.take q ++ [z] := by rw [List.take_add_one, List.getElem?_eq_getElem hq1, hz0]; rfl
    obtain ⟨D2, t3, m3, hin3, hok3, hfr3, hsb3, hp3, _⟩ := att_step hin hok (by omega) hzv.1 (p := Z) (by rw [hzc, List.length_take]; omega) hz
    rw [hfr] at hfr3
    have c5 := Att_spec D (5 + 2 * L1.length + 2 * q) hin (by omega) Z (by rw [hzc, List.length_take]; omega) (fun c hc => (u4 c (List.mem_of_mem_take (by rw [hzc] at hc; exact hc))).2.2) z hzv.2.2 hzv.2.1 g h hgh
    rw [m3] at c5
    unfold mpAV at c5
    simp only [e0] at c5
    have hzc3 : Z.cavs ++ [z] = L1.take (q + 1) := by rw [htk, hzc]
    have hp3b : pathIn D2.macs (symT 107 1) (mintM s1 :: (L1.take (q + 1)).map cavM) t3 := by rw [htk, List.map_append]; exact hp3
    have hpz3 := hpz.sub hsb3
    have hin3b : AlgIn D2 (5 + 2 * L1.length + 2 * (q + 1)) := hin3.more (by omega)
    have hcs := And.intro c5 True.intro
    clear c5 c9 m3 hin hok hfr hzc hz hpz hin3 hp3 htk hzv u4 v4 hsb3
    refine Wk ?_
    exact ⟨WS, WG, WN, _, (show L1.length - (q + 1) < m_5 by omega), q + 1, D2, ⟨Z.epoch, Z.serial, Z.cavs ++ [z], t3⟩, rfl, WF, WF, WF, WF, WC, WC, WC, WC, WC, WC, WC⟩
  ·have hi1 : i < L1.length := by omega
   have hi1i : (i : Int) < (L1.length : Int) := by omega
   obtain ⟨z, hz⟩ : ∃ z, L1[i] = z := ⟨_, rfl⟩
   have hzm : (L1.map caAV)[i]? = some (caAV z) := by rw [List.getElem?_map, List.getElem?_eq_getElem hi1, hz]; rfl
   have hzv := u4 z (by rw [← hz]; exact List.getElem_mem _)
   have htk : L1.take (i + 1) = L1.take i ++ [z] := by rw [List.take_add_one, List.getElem?_eq_getElem hi1, hz]; rfl
   obtain ⟨D2, t3, m3, hin3, hok3, hfr3, hsb3, hp3, _⟩ := att_step hin hok (by omega) hzv.1 (p := P) (by rw [hpc, List.length_take]; omega) hp
   rw [hfr] at hfr3
   have c5 := Att_spec A (3 + 2 * i) hin (by omega) P (by rw [hpc, List.length_take]; omega) (fun c hc => (u4 c (List.mem_of_mem_take (by rw [hpc] at hc; exact hc))).2.2) z hzv.2.2 hzv.2.1 g h hgh
   rw [m3] at c5
   unfold mpAV at c5
   simp only [e0] at c5
   have hpc3 : P.cavs ++ [z] = L1.take (i + 1) := by rw [htk, hpc]
   have hp3b : pathIn D2.macs (symT 107 1) (mintM s1 :: (L1.take (i + 1)).map cavM) t3 := by rw [htk, List.map_append]; exact hp3
   have hin3b : AlgIn D2 (3 + 2 * (i + 1)) := hin3.more (by omega)
   have hcs := And.intro c5 True.intro
   clear c5 c9 m3 hin hok hfr hpc hp hin3 hp3 htk hzv u4 v4 hsb3
   refine Wk ?_
   exact ⟨WS, WG, WN, _, (show L1.length - (i + 1) < m_4 by omega), i + 1, D2, ⟨P.epoch, P.serial, P.cavs ++ [z], t3⟩, rfl, WF, WF, WF, WF, WC, WC, WC, WC, WC, WC⟩
end
theorem ChainFree_spec (xs : List Int) (_ : ∀ n ∈ xs, (Lit.int .i64 n).wf = true) (hx : xs.length ≤ 9223372036854775807) (ys : List Int) (_ : ∀ n ∈ ys, (Lit.int .i64 n).wf = true) (hy : ys.length ≤ 9223372036854775807) (same : Bool) (g h : Nat) (hgh : g ≠ h) (k : Nat) :
  ACall Tryd.prog 4 [.slice none (xs.map intAV), .slice none (ys.map intAV), .lit (.bool same)] k [(g, shaG), (h, bitsG)] (.lit (.bool true)) [] :=
 @ChainFree_core w32 xs ys hx hy same g h hgh k
end Go.Proofs.YtdmjpolnbmoehaaDoor
