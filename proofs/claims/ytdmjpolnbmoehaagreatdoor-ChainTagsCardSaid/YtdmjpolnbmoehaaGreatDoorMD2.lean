/- Texts W9, W10, W17, W13, joined. -/
import Derived.Test.YtdmjpolnbmoehaaGreatDoorMD1

namespace Go.Proofs.YtdmjpolnbmoehaaGreatDoor
open Go.Ab
attribute [local irreducible] Go.Ab.tyAV Go.Ab.aw Go.Ab.aops Go.Ab.kReg Go.Ab.aThen Go.Ab.aBlk Go.Ab.acond Go.Ab.aguard Go.Ab.astep Go.Ab.AStepX Go.Ab.aRet
attribute [local irreducible] shaG
section
variable [W : W32]
omit W in
theorem cavM_pos (c : Ca) : 0 < (cavM c).length := by simp [cavM]
omit W in
theorem any_take {l : List Ca} {u : Nat} (hu : u < l.length) (hb : cavB l[u] = false) : (l.any fun c => !cavB c) = true := by
 rw [List.any_eq_true]
 exact ⟨l[u], List.getElem_mem hu, by rw [hb]; rfl⟩
set_option maxHeartbeats 4000000 in
theorem cTags_spec (a : Alg) (m : Nat) (ha : AlgIn a m) (hm : m ≤ 900000) (num : Int) (key : Tg) (ser : Int) (l : List Ca) (hl : l.length ≤ 10000) (hpk : ∀ c ∈ l, PrOk c.first) (g h k : Nat) (_hgh : g ≠ h) :
  ACall Tryz.prog 40 [algAV a, .agg [.lit (.int .i64 num), tagAV key], .lit (.int .i64 ser), .slice none (l.map caAV)] k [(g, shaG), (h, bitsG)] (tsAV (tagsS a num key ser l)) [] := by
 unfold tagsS
 by_cases hr : num < 1 ∨ 1000 < num ∨ ser < 1 ∨ 1073741824 < ser
 ·rw [if_pos hr]
  unfold tsAV
  simp only [List.map_nil]
  have c1 := ranges_no num ser hr
  refine Bd Tryz.func40 Tryz.ntmps40 fun σ N hp hpn hk hkn hfree => ?_
  simp only [List.mem_cons, List.not_mem_nil, or_false, forall_eq_or_imp, forall_eq] at hp hpn; obtain ⟨hd1, hd2⟩ := hp; obtain ⟨hdn1, hdn2⟩ := hpn
  have hcs := And.intro c1 True.intro
  clear c1 ha hpk
  exact WL
 ·rw [if_neg hr]
  have c1 := ranges_ok num ser (by omega) (by omega) (by omega) (by omega)
  obtain ⟨n, rfl⟩ := Int.eq_ofNat_of_zero_le (show 0 ≤ ser by omega)
  have c2 := mint_spec n (by omega)
  have hM : msgsL (n : Int) l = mintM n :: l.map cavM := by unfold msgsL; rw [Int.toNat_natCast]
  rw [hM]
  have hml := mintM_len n (by omega)
  have hM0 : 0 < (mintM n).length := by simp [mintM]
  have hmm : ∀ x ∈ mintM n :: l.map cavM, 0 < x.length ∧ x.length ≤ 100000 := fun x hx => by
   rcases List.mem_cons.1 hx with rfl | hx
   ·exact ⟨hM0, by omega⟩
   ·obtain ⟨c, _, rfl⟩ := List.mem_map.1 hx
    exact ⟨cavM_pos c, by have := cavM_len c; omega⟩
  have c3 := fun b => walk_spec a m ha hm key (mintM n :: l.map cavM) (by simp; omega) hmm b g
  have hw := walkA_acc a [key] (mintM n :: l.map cavM) [] key
  rw [List.append_nil] at hw
  rw [hw] at c3
  obtain ⟨R, hR⟩ : ∃ R, walkA a [] key (mintM n :: l.map cavM) = R := ⟨_, rfl⟩
  rw [hR] at c3 ⊢
  clear hw hR hmm hM hml hM0 ha hr
  generalize mintM n = M0 at *
  obtain ⟨v, hv⟩ : ∃ v, (if (l.any fun c => !cavB c) = true then ([], 5) else orTag R) = v := ⟨_, rfl⟩
  rw [hv]
  have hb24 : (l.length + 1) * 24 ≤ 140737488355328 := by omega
  refine Bd Tryz.func40 Tryz.ntmps40 fun σ N hp hpn hk hkn hfree => ?_
  simp only [List.mem_cons, List.not_mem_nil, or_false, forall_eq_or_imp, forall_eq] at hp hpn; obtain ⟨hd1, hd2⟩ := hp; obtain ⟨hdn1, hdn2⟩ := hpn
  have hcs := And.intro c1 (And.intro c2 True.intro)
  clear c1 c2
  refine Wk ?_
  clear hcs
  refine go_loopF mixed (by kernel_rfl) [8, 9, 10, 12, 13, 14, 27, 28, 29, 30, 31, 32, 33, 34, 35, 36, 37, 38, 39, 40, 41, 42, 43, 44] [N+11] (fun m_ s_ σ_ n_ => ∃ (u : Nat) (acc : List (List UInt8)), m_ = l.length - u ∧ s_ 27 = .lit (.int .i64 u) ∧ s_ 10 = .slice (some (N + 11)) (acc.map bAV) ∧ σ_ (N+11) = .row 26 1 acc.length ∧ (u ≤ l.length) ∧ (acc.length = u + 1) ∧ (M0 :: (l.take u).map cavM = acc) ∧ (∀ c ∈ l.take u, cavB c = true)) ⟨_, 0, [M0], rfl, WF, WF, WF, WC, WC, WC, WC⟩ ?_
  intro m_1 s_1 σ_1 n_1 hs_1 hf_1 hn_1 hI_1
  obtain ⟨u, acc, hm_1, h1_27, h1_10, e1_0, hu, hal, hacc, hok⟩ := hI_1
  have h1_4 := KS hs_1 4
  have h1_5 := KS hs_1 5
  have h1_25 := KS hs_1 25
  have h1_26 := KS hs_1 26
  have k1_0 := KE hf_1 (N)
  have k1_1 := KE hf_1 (N + 1)
  have k1_2 := KE hf_1 (g)
  have k1_3 := KE hf_1 (h)
  have hlow := KL (N := N) (σ := σ) hf_1
  by_cases hul : u = l.length
  ·subst hul
   rw [List.take_length] at hacc hok
   subst hacc
   have hany : (l.any fun c => !cavB c) = false := by
    rw [List.any_eq_false]
    intro c hc
    rw [hok c hc]; simp
   rw [hany, if_neg (by simp)] at hv
   subst hv
   clear hok hany hpk hal
   cases R with
   | none =>
    unfold wkAV at c3
    unfold tsAV orTag
    simp only [Option.map_none, Option.getD_none, Option.isSome_none, List.map_nil] at c3 ⊢
    have hcs := And.intro (c3 N) True.intro
    clear c3
    exact WL
   | some ts =>
    unfold wkAV at c3
    unfold tsAV orTag
    simp only [Option.map_some, Option.getD_some, Option.isSome_some, List.cons_append, List.nil_append, List.map_cons] at c3 ⊢
    have hcs := And.intro (c3 N) True.intro
    clear c3
    exact WL
  ·have hu1 : u < l.length := by omega
   obtain ⟨z, hz⟩ : ∃ z, l[u] = z := ⟨_, rfl⟩
   have hzp := hpk z (by rw [← hz]; exact List.getElem_mem _)
   have hzm : (l.map caAV)[u]? = some (caAV z) := by rw [List.getElem?_map, List.getElem?_eq_getElem hu1, hz]; rfl
   have c1 := cEnc_spec z hzp h
   unfold encAV at c1
   cases hzb : cavB z with
   | false =>
    have he : encS z = ([], 5) := by unfold encS; rw [hzb]; rfl
    rw [he] at c1
    simp only [List.map_nil] at c1
    rw [any_take hu1 (by rw [hz]; exact hzb), if_pos rfl] at hv
    subst hv
    unfold tsAV
    simp only [List.map_nil]
    have e5 : ((5 : Nat) : Int) = 5 := rfl
    simp only [e5] at c1 ⊢
    have hcs := And.intro c1 True.intro
    clear c1 c3 hpk hok
    exact WL
   | true =>
    have he : (encS z).2 = 0 := by unfold encS; rw [hzb]; rfl
    have hMz : [99, 97, 118, 101, 97, 116] ++ (encS z).1 = cavM z := rfl
    have hMl := cavM_len z
    have c2 := Message_spec [99, 97, 118, 101, 97, 116] (encS z).1 (by decide) (by unfold cavM at hMl; rw [List.length_append] at hMl; omega)
    rw [hMz] at c2
    have hacc2 : M0 :: (l.take (u + 1)).map cavM = acc ++ [cavM z] := by
     rw [List.take_add_one, List.getElem?_eq_getElem hu1, hz, List.map_append, ← hacc]; rfl
    have hok2 : ∀ c ∈ l.take (u + 1), cavB c = true := fun c hc => by
     rw [List.take_add_one, List.getElem?_eq_getElem hu1, hz] at hc
     rcases List.mem_append.1 hc with hc | hc
     ·exact hok c hc
     ·have hc : c = z := by simpa using hc
      rw [hc]; exact hzb
    rw [he] at c1
    generalize (encS z).1 = B at *
    generalize cavM z = Mz at *
    have e0 : ((0 : Nat) : Int) = 0 := rfl
    simp only [e0] at c1
    have hal2 : (acc ++ [Mz]).length = u + 1 + 1 := by rw [List.length_append, List.length_singleton, hal]
    have hb26 : (acc.length + 1) * 24 ≤ 140737488355328 := by omega
    have hcs := And.intro c1 (And.intro c2 True.intro)
    clear c1 c2 c3 hpk hok hacc hMz he hMl hzp
    refine Wk ?_
    exact ⟨WS, WG, WN, _, (show l.length - (u + 1) < m_1 by omega), u + 1, acc ++ [Mz], rfl, WF, WF, WF, WC, WC, WC, WC⟩
set_option maxHeartbeats 2000000 in
theorem refTags_spec (a : Alg) (m : Nat) (ha : AlgIn a m) (hm : m ≤ 900000) (num : Int) (key : Tg) (ser : Int) (l : List Ca) (hl : l.length ≤ 10000) (hpk : ∀ c ∈ l, PrOk c.first) (k : Nat) :
  ACall Tryz.prog 41 [algAV a, .agg [.lit (.int .i64 num), tagAV key], .lit (.int .i64 ser), .slice none (l.map caAV)] k [] (tsAV (tagsS a num key ser l)) [] := by
 unfold tagsS
 by_cases hr : num < 1 ∨ 1000 < num ∨ ser < 1 ∨ 1073741824 < ser
 ·rw [if_pos hr]
  unfold tsAV
  simp only [List.map_nil]
  clear ha hpk
  by_cases g1 : num < 1
  ·refine Bd Tryz.func41 Tryz.ntmps41 fun σ N hp hpn hk hkn hfree => ?_
   exact WL
  ·by_cases g2 : 1000 < num
   ·refine Bd Tryz.func41 Tryz.ntmps41 fun σ N hp hpn hk hkn hfree => ?_
    exact WL
   ·by_cases g3 : ser < 1
    ·refine Bd Tryz.func41 Tryz.ntmps41 fun σ N hp hpn hk hkn hfree => ?_
     exact WL
    ·have g4 : 1073741824 < ser := by omega
     refine Bd Tryz.func41 Tryz.ntmps41 fun σ N hp hpn hk hkn hfree => ?_
     exact WL
 ·rw [if_neg hr]
  have g1 : ¬ num < 1 := by omega
  have g2 : ¬ 1000 < num := by omega
  have g3 : ¬ ser < 1 := by omega
  have g4 : ¬ 1073741824 < ser := by omega
  have c1 := AllValid_spec l (by omega) hpk
  cases hany : (l.any fun c => !cavB c) with
  | true =>
   rw [if_pos rfl]
   rw [hany] at c1
   unfold tsAV
   simp only [List.map_nil]
   clear hpk ha
   refine Bd Tryz.func41 Tryz.ntmps41 fun σ N hp hpn hk hkn hfree => ?_
   have hcs := And.intro c1 True.intro
   clear c1
   exact WL
  | false =>
   rw [if_neg (by simp)]
   rw [hany] at c1
   clear hany
   obtain ⟨n, rfl⟩ := Int.eq_ofNat_of_zero_le (show 0 ≤ ser by omega)
   have c2 := refmint_spec n (by omega)
   have hM : msgsL (n : Int) l = mintM n :: l.map cavM := by unfold msgsL; rw [Int.toNat_natCast]
   rw [hM]
   have c3 := refLook_spec a key (mintM n) (by have := ha.ml; omega) ha.mm
   obtain ⟨R, hR⟩ : ∃ R, walkA a [] key (mintM n :: l.map cavM) = R := ⟨_, rfl⟩
   rw [hR]
   rw [walkA] at hR
   have hR0 : (if (lookO a key (mintM n)).isSome = true then walkA a [(lookO a key (mintM n)).getD zeroTag] ((lookO a key (mintM n)).getD zeroTag) (l.map cavM) else none) = R := by
    rw [← hR]
    cases lookO a key (mintM n) <;> simp
   clear hR hM
   generalize lookO a key (mintM n) = o at *
   unfold entAV at c3
   generalize o.getD zeroTag = t0 at *
   generalize o.isSome = ok0 at *
   generalize mintM n = M0 at *
   have hb24 : (l.length + 2) * 32 ≤ 140737488355328 := by omega
   refine Bd Tryz.func41 Tryz.ntmps41 fun σ N hp hpn hk hkn hfree => ?_
   have hcs := And.intro c1 (And.intro c2 (And.intro c3 True.intro))
   clear c1 c2 c3
   refine Wk ?_
   clear hcs
   refine go_loopF mixed (by kernel_rfl) [11, 12, 13, 44, 45, 46, 47, 48, 49, 50, 51, 52, 53, 54, 55, 56, 57, 58, 59, 60, 61, 62, 63, 64, 65, 66, 67] [N+32, N+36] (fun m_ s_ σ_ n_ => ∃ (u : Nat) (t : Tg) (ok : Bool) (acc : List Tg), m_ = l.length - u ∧ s_ 13 = .lit (.int .i64 u) ∧ s_ 11 = .lit (.bool ok) ∧ s_ 12 = .slice (some (N + 36)) (acc.map tagAV) ∧ σ_ (N+32) = .box 29 (tagAV t) ∧ σ_ (N+36) = .row 29 32 acc.length ∧ (u ≤ l.length) ∧ (acc.length = u + 1) ∧ ((if ok = true then walkA a acc t ((l.drop u).map cavM) else none) = R)) ⟨_, 0, t0, ok0, [t0], rfl, WF, WF, WF, WF, WF, WC, WC, WC⟩ ?_
   intro m_2 s_2 σ_2 n_2 hs_2 hf_2 hn_2 hI_2
   obtain ⟨u, t, ok, acc, hm_2, h2_13, h2_11, h2_12, e2_0, e2_1, hu, hal, hrun⟩ := hI_2
   have h2_3 := KS hs_2 3
   have h2_4 := KS hs_2 4
   have h2_8 := KS hs_2 8
   have h2_9 := KS hs_2 9
   have h2_10 := KS hs_2 10
   have k2_0 := KE hf_2 (N)
   have k2_1 := KE hf_2 (N + 1)
   have hlow := KL (N := N) (σ := σ) hf_2
   clear hR0
   cases ok with
   | false =>
    rw [if_neg (by simp)] at hrun
    subst hrun
    unfold tsAV orTag
    simp only [List.map_nil]
    clear hpk ha
    by_cases hul : u = l.length
    ·subst hul
     exact WL
    ·have hu1 : u < l.length := by omega
     have hu1i : (u : Int) < (l.length : Int) := by omega
     exact WL
   | true =>
    rw [if_pos rfl] at hrun
    by_cases hul : u = l.length
    ·subst hul
     rw [List.drop_length, List.map_nil, walkA] at hrun
     subst hrun
     unfold tsAV orTag
     simp only
     clear hpk ha
     exact WL
    ·have hu1 : u < l.length := by omega
     have hu1i : (u : Int) < (l.length : Int) := by omega
     obtain ⟨z, hz⟩ : ∃ z, l[u] = z := ⟨_, rfl⟩
     have hzp := hpk z (by rw [← hz]; exact List.getElem_mem _)
     have hzm : (l.map caAV)[u]? = some (caAV z) := by rw [List.getElem?_map, List.getElem?_eq_getElem hu1, hz]; rfl
     rw [List.drop_eq_getElem_cons hu1, hz, List.map_cons, walkA] at hrun
     have c1 := refcavM_spec z hzp
     have c2 := refLook_spec a t (cavM z) (by have := ha.ml; omega) ha.mm
     have hrun2 : (if (lookO a t (cavM z)).isSome = true then walkA a (acc ++ [(lookO a t (cavM z)).getD zeroTag]) ((lookO a t (cavM z)).getD zeroTag) ((l.drop (u + 1)).map cavM) else none) = R := by
      rw [← hrun]
      cases lookO a t (cavM z) <;> simp
     clear hrun
     generalize lookO a t (cavM z) = o at *
     unfold entAV at c2
     generalize o.getD zeroTag = t2 at *
     generalize o.isSome = ok2 at *
     generalize cavM z = Mz at *
     have hal2 : (acc ++ [t2]).length = u + 1 + 1 := by rw [List.length_append, List.length_singleton, hal]
     have hb26 : (acc.length + 1) * 32 ≤ 140737488355328 := by omega
     have hcs := And.intro c1 (And.intro c2 True.intro)
     clear c1 c2 hpk ha hzp
     refine Wk ?_
     exact ⟨WS, WG, WN, _, (show l.length - (u + 1) < m_2 by omega), u + 1, t2, ok2, acc ++ [t2], rfl, WF, WF, WF, WF, WF, WC, WC, WC⟩
set_option maxHeartbeats 2000000 in
theorem cNodes_spec (a : Alg) (m : Nat) (ha : AlgIn a m) (hm : m ≤ 900000) (l : List Tg) (hl : l.length ≤ 10000) (g k : Nat) :
  ACall Tryz.prog 43 [algAV a, .slice none (l.map tagAV)] k [(g, shaG)] (tsAV (nodesS a l)) [] := by
 unfold nodesS
 obtain ⟨R, hR⟩ : ∃ R, nodesA a [] l = R := ⟨_, rfl⟩
 rw [hR]
 have hcl := fun t => Look_spec a t nodeB (by have := ha.ml; omega) ha.mm (by decide) (by decide) g
 clear ha
 have h110 : byteAV 110 = .lit (.int .u8 110) := rfl
 have h111 : byteAV 111 = .lit (.int .u8 111) := rfl
 have h100 : byteAV 100 = .lit (.int .u8 100) := rfl
 have h101 : byteAV 101 = .lit (.int .u8 101) := rfl
 have hnB : nodeB.map byteAV = [.lit (.int .u8 110), .lit (.int .u8 111), .lit (.int .u8 100), .lit (.int .u8 101)] := rfl
 simp only [hnB] at hcl
 clear h110 h111 h100 h101 hnB
 refine Bd Tryz.func43 Tryz.ntmps43 fun σ N hp hpn hk hkn hfree => ?_
 obtain ⟨hd, hdn⟩ := HD0 hp hpn; clear hp hpn
 refine Wk ?_
 refine ALoop.nilrow 6 29 32 (by simp (disch := omega) [go_sem, *, -List.reduceReplicate]) ?_
 refine go_loopB (N + 1) mixed (by kernel_rfl) [4, 5, 6, 8, 9, 10, 13, 14, 15, 16, 17, 18, 19, 20, 21, 22, 23, 24, 25, 26, 27, 28, 29, 30, 31] [] (fun m_ s_ σ_ n_ => ∃ (u : Nat) (q : Nat) (acc : List Tg), m_ = l.length - u ∧ s_ 13 = .lit (.int .i64 u) ∧ s_ 6 = .slice (some q) (acc.map tagAV) ∧ σ_ (q) = .row 29 32 acc.length ∧ (u ≤ l.length) ∧ (N + 1 ≤ q) ∧ (q < n_) ∧ (acc.length = u) ∧ (nodesA a acc (l.drop u) = R)) ⟨_, 0, _, [], rfl, WF, WF, WF, WC, WC, WC, WC, WC⟩ ?_
 intro m_3 s_3 σ_3 n_3 hs_3 hf_3 hn_3 hI_3
 obtain ⟨u, q, acc, hm_3, h3_13, h3_6, e3_0, hu, hq, hqn, hal, hrun⟩ := hI_3
 have h3_2 := KS hs_3 2
 have h3_11 := KS hs_3 11
 have h3_12 := KS hs_3 12
 have k3_0 := KE hf_3 (N)
 have k3_1 := KE hf_3 (g)
 have hlow := KL (N := N) (σ := σ) hf_3
 clear hR
 by_cases hul : u = l.length
 ·rw [hul, List.drop_length, nodesA] at hrun
  subst hul hrun
  unfold tsAV orTag
  simp only
  clear hcl
  exact WL
 ·have hu1 : u < l.length := by omega
  obtain ⟨z, hz⟩ : ∃ z, l[u] = z := ⟨_, rfl⟩
  have hzm : (l.map tagAV)[u]? = some (tagAV z) := by rw [List.getElem?_map, List.getElem?_eq_getElem hu1, hz]; rfl
  rw [List.drop_eq_getElem_cons hu1, hz, nodesA] at hrun
  have c1 := hcl z
  clear hcl
  unfold entAV at c1
  have hb26 : (acc.length + 1) * 32 ≤ 140737488355328 := by omega
  have M : Mut (n_3 + 5 + 2) := ⟨⟩
  cases ho : lookO a z nodeB with
  | none =>
   rw [ho] at hrun c1
   simp only at hrun
   subst hrun
   unfold tsAV orTag
   simp only [Option.getD_none, Option.isSome_none, List.map_nil] at c1 ⊢
   have hcs := And.intro c1 True.intro
   clear c1 ho
   exact WL
  | some t2 =>
   rw [ho] at hrun c1
   simp only at hrun
   simp only [Option.getD_some, Option.isSome_some] at c1
   have hcs := And.intro c1 True.intro
   clear c1 ho
   refine Wk ?_
   exact ⟨WS, WG, WN, _, (show l.length - (u + 1) < m_3 by omega), u + 1, q, acc ++ [t2], rfl, WF, WF, WF, WC, WC, WC, WC, WC⟩
set_option maxHeartbeats 2000000 in
theorem refNodes_spec (a : Alg) (m : Nat) (ha : AlgIn a m) (hm : m ≤ 900000) (l : List Tg) (hl : l.length ≤ 10000) (k : Nat) :
  ACall Tryz.prog 44 [algAV a, .slice none (l.map tagAV)] k [] (tsAV (nodesS a l)) [] := by
 unfold nodesS
 obtain ⟨R, hR⟩ : ∃ R, nodesA a [] l = R := ⟨_, rfl⟩
 rw [hR]
 have hcl := fun t => refLook_spec a t nodeB (by have := ha.ml; omega) ha.mm
 clear ha
 have hnB : nodeB.map byteAV = [.lit (.int .u8 110), .lit (.int .u8 111), .lit (.int .u8 100), .lit (.int .u8 101)] := rfl
 simp only [hnB] at hcl
 clear hnB
 refine Bd Tryz.func44 Tryz.ntmps44 fun σ N hp hpn hk hkn hfree => ?_
 refine Wk ?_
 refine ALoop.nilrow 6 29 32 (by simp (disch := omega) [go_sem, *, -List.reduceReplicate]) ?_
 refine go_loopB (N + 1) mixed (by kernel_rfl) [4, 5, 6, 7, 8, 9, 10, 11, 12, 13, 14, 15, 16, 17, 18, 19, 20, 21, 22, 23, 24, 25, 26, 27, 28, 29, 30, 31, 32] [] (fun m_ s_ σ_ n_ => ∃ (u : Nat) (q : Nat) (acc : List Tg), m_ = l.length - u ∧ s_ 7 = .lit (.int .i64 u) ∧ s_ 6 = .slice (some q) (acc.map tagAV) ∧ σ_ (q) = .row 29 32 acc.length ∧ (u ≤ l.length) ∧ (N + 1 ≤ q) ∧ (q < n_) ∧ (acc.length = u) ∧ (nodesA a acc (l.drop u) = R)) ⟨_, 0, _, [], rfl, WF, WF, WF, WC, WC, WC, WC, WC⟩ ?_
 intro m_4 s_4 σ_4 n_4 hs_4 hf_4 hn_4 hI_4
 obtain ⟨u, q, acc, hm_4, h4_7, h4_6, e4_0, hu, hq, hqn, hal, hrun⟩ := hI_4
 have h4_1 := KS hs_4 1
 have h4_2 := KS hs_4 2
 have k4_0 := KE hf_4 (N)
 have hlow := KL (N := N) (σ := σ) hf_4
 clear hR
 by_cases hul : u = l.length
 ·rw [hul, List.drop_length, nodesA] at hrun
  subst hul hrun
  unfold tsAV orTag
  simp only
  clear hcl
  exact WL
 ·have hu1 : u < l.length := by omega
  have hu1i : (u : Int) < (l.length : Int) := by omega
  obtain ⟨z, hz⟩ : ∃ z, l[u] = z := ⟨_, rfl⟩
  have hzm : (l.map tagAV)[u]? = some (tagAV z) := by rw [List.getElem?_map, List.getElem?_eq_getElem hu1, hz]; rfl
  rw [List.drop_eq_getElem_cons hu1, hz, nodesA] at hrun
  have c1 := hcl z
  clear hcl
  unfold entAV at c1
  have hb26 : (acc.length + 1) * 32 ≤ 140737488355328 := by omega
  have M : Mut (n_4 + 4 + 5) := ⟨⟩
  cases ho : lookO a z nodeB with
  | none =>
   rw [ho] at hrun c1
   simp only at hrun
   subst hrun
   unfold tsAV orTag
   simp only [Option.getD_none, Option.isSome_none, List.map_nil] at c1 ⊢
   have hcs := And.intro c1 True.intro
   clear c1 ho
   exact WL
  | some t2 =>
   rw [ho] at hrun c1
   simp only at hrun
   simp only [Option.getD_some, Option.isSome_some] at c1
   have hcs := And.intro c1 True.intro
   clear c1 ho
   refine Wk ?_
   exact ⟨WS, WG, WN, _, (show l.length - (u + 1) < m_4 by omega), u + 1, q, acc ++ [t2], rfl, WF, WF, WF, WC, WC, WC, WC, WC⟩
end

section
variable [W : W32]
end
end Go.Proofs.YtdmjpolnbmoehaaGreatDoor

namespace Go.Proofs.YtdmjpolnbmoehaaGreatDoor
open Go.Ab
attribute [local irreducible] Go.Ab.tyAV Go.Ab.aw Go.Ab.aops Go.Ab.kReg Go.Ab.aThen Go.Ab.aBlk Go.Ab.acond Go.Ab.aguard Go.Ab.astep Go.Ab.AStepX Go.Ab.aRet
theorem u64W {a : Int} (h : (Lit.int .u64 a).wf = true) : 0 ≤ a ∧ a < 18446744073709551616 := by
 have hw : IntKind.u64.min ≤ a ∧ a ≤ IntKind.u64.max := by simpa [Lit.wf] using h
 have e1 : IntKind.u64.min = 0 := by decide
 have e2 : IntKind.u64.max = 18446744073709551615 := by decide
 omega
theorem predW {m : Nat} {x : AV} (h : tyAV Tryz.prog (m + 2) 25 x) : ∃ p : Pr, PrOk p ∧ x = prAV p := by
 obtain ⟨xs, rfl, h1, h2⟩ := ty_struct Tryz.underlying25 h
 obtain ⟨a, b, c, d, e, f, rfl⟩ : ∃ a b c d e f, xs = [a, b, c, d, e, f] := by
  match xs, h1 with
  | [a, b, c, d, e, f], _ => exact ⟨a, b, c, d, e, f, rfl⟩
 obtain ⟨v1, _, rfl⟩ := ty_int it3 (h2 0 _ _ rfl rfl)
 obtain ⟨v2, w2, rfl⟩ := ty_int it23 (h2 1 _ _ rfl rfl)
 obtain ⟨v3, _, rfl⟩ := ty_int it3 (h2 2 _ _ rfl rfl)
 obtain ⟨v4, _, rfl⟩ := ty_int it3 (h2 3 _ _ rfl rfl)
 obtain ⟨v5, w5, rfl⟩ := ty_str st9 (h2 4 _ _ rfl rfl)
 obtain ⟨v6, _, rfl⟩ := ty_int it3 (h2 5 _ _ rfl rfl)
 exact ⟨⟨v1, v2, v3, v4, v5, v6⟩, ⟨(u64W w2).1, (u64W w2).2, w5⟩, rfl⟩
structure DiW (d : Di) : Prop where
 tl : d.ticket.length ≤ 140737488351232
 cl : d.conds.length ≤ 9223372036854775807
 ok : ∀ p ∈ d.conds, PrOk p
def CaW (c : Ca) : Prop := PrOk c.first ∧ CaSm c
theorem caveatW {m : Nat} {x : AV} (h : tyAV Tryz.prog (m + 4) 76 x) : ∃ c : Ca, CaW c ∧ x = caAV c := by
 obtain ⟨ys, rfl, h3, h4⟩ := ty_struct Tryz.underlying76 h
 obtain ⟨a, b, c, d, e, rfl⟩ : ∃ a b c d e, ys = [a, b, c, d, e] := by
  match ys, h3 with
  | [a, b, c, d, e], _ => exact ⟨a, b, c, d, e, rfl⟩
 obtain ⟨v1, rfl⟩ := ty_bool bt4 (h4 0 _ _ rfl rfl)
 obtain ⟨v2, w2, rfl⟩ := predW (h4 1 _ _ rfl rfl)
 obtain ⟨v3, _, rfl⟩ := ty_int it3 (h4 2 _ _ rfl rfl)
 obtain ⟨v4, w4, rfl⟩ := ty_bytesW sl26 by5 (by kernel_rfl) (h4 3 _ _ rfl rfl)
 obtain ⟨v5, w5, rfl⟩ := ty_bytesW sl26 by5 (by kernel_rfl) (h4 4 _ _ rfl rfl)
 exact ⟨⟨v1, v2, v3, v4, v5⟩, ⟨w2, w4, w5⟩, rfl⟩
theorem caveatW_of {x : AV} (h : tyAV Tryz.prog 8 76 x) : ∃ c : Ca, CaW c ∧ x = caAV c := caveatW h
structure PaW (p : Pa) : Prop where
 cl : p.cavs.length ≤ 9223372036854775807
 ok : ∀ c ∈ p.cavs, CaW c
end Go.Proofs.YtdmjpolnbmoehaaGreatDoor

namespace Go.Proofs.YtdmjpolnbmoehaaGreatDoor
open Go.Ab
attribute [local irreducible] Go.Ab.tyAV Go.Ab.aw Go.Ab.aops Go.Ab.kReg Go.Ab.aThen Go.Ab.aBlk Go.Ab.acond Go.Ab.aguard Go.Ab.astep Go.Ab.AStepX Go.Ab.aRet
attribute [local irreducible] shaG
theorem SameT_refl (l : List Tg) (hl : l.length ≤ 100000) (k : Nat) : ACall Tryz.prog 42 [.slice none (l.map tagAV), .slice none (l.map tagAV)] k [] (.lit (.bool true)) [] := by
 refine Bd Tryz.func42 Tryz.ntmps42 fun σ N hp hpn hk hkn hfree => ?_
 refine Wk ?_
 refine go_loopF mixed (by kernel_rfl) [4, 5, 11, 12, 13, 14, 15, 16, 17, 18, 19, 20, 21, 22, 23, 24, 25] [] (fun m_ s_ σ_ n_ => ∃ (u : Nat), m_ = l.length - u ∧ s_ 5 = .lit (.int .i64 u) ∧ (u ≤ l.length)) ⟨_, 0, rfl, WF, WC⟩ ?_
 intro m_1 s_1 σ_1 n_1 hs_1 hf_1 hn_1 hI_1
 obtain ⟨u, hm_1, h1_5, hu⟩ := hI_1
 have h1_0 := KS hs_1 0
 have h1_1 := KS hs_1 1
 have hlow := KL (N := N) (σ := σ) hf_1
 by_cases hul : u = l.length
 ·subst hul
  exact W0
 ·have hu1 : u < l.length := by omega
  obtain ⟨z, hz⟩ : ∃ z, l[u] = z := ⟨_, rfl⟩
  have hzm : (l.map tagAV)[u]? = some (tagAV z) := by rw [List.getElem?_map, List.getElem?_eq_getElem hu1, hz]; rfl
  refine Wk ?_
  exact ⟨WS, WG, WN, _, (show l.length - (u + 1) < m_1 by omega), u + 1, rfl, WF, WC⟩
theorem szl_cas : ∀ L : List Ca, AV.szl (L.map caAV) = L.length * 10
 | [] => rfl
 | c :: r => by rw [List.map_cons, AV.szl, caAV_sz, szl_cas r, List.length_cons]; omega
def casA (L : List Ca) : AV := .slice none (L.map caAV)
@[go_sem] theorem casA_sz (L : List Ca) : (casA L).sz = 1 := rfl
@[go_sem] theorem casA_isAgg (L : List Ca) : (casA L).isAgg = false := rfl
theorem four_le (pc : List Ca) (c : Ca) (K : List Ca) (w r x y : Nat) : AV.le (.slice (some r) [.slice none (pc.map caAV), .slice (some x) (pc.map caAV ++ [caAV c]), .slice (some y) (K.map caAV), .slice none ((pc.map caAV ++ [caAV c]).take w)]) (.slice none ([pc, pc ++ [c], K, (pc ++ [c]).take w].map casA)) := by
 have e1 : casA (pc ++ [c]) = .slice none (pc.map caAV ++ [caAV c]) := by simp [casA]
 have e2 : casA ((pc ++ [c]).take w) = .slice none ((pc.map caAV ++ [caAV c]).take w) := by simp [casA, List.map_take]
 simp only [List.map_cons, List.map_nil, e1, e2]
 exact fun g v h => AV.le_own _ _ g v (AV.le_sliceS (some r) (.cons (AV.le_refl _) (.cons (AV.le_own _ _) (.cons (AV.le_own _ _) (.cons (AV.le_refl _) .nil)))) g v h)
section
variable [W : W32]
def TgQ (a : Alg) (root : Tg) (num : Int) (L : List Ca) (g h : Nat) : Prop := ∃ (ts : List Tg) (e : Nat) (ids : List Tg) (e2 : Nat),
 (∀ k, ACall Tryz.prog 40 [algAV a, .agg [.lit (.int .i64 2), tagAV root], .lit (.int .i64 num), .slice none (L.map caAV)] k [(g, shaG), (h, bitsG)] (tsAV (ts, e)) []) ∧
 (∀ k, ACall Tryz.prog 41 [algAV a, .agg [.lit (.int .i64 2), tagAV root], .lit (.int .i64 num), .slice none (L.map caAV)] k [] (tsAV (ts, e)) []) ∧
 (∀ k, ACall Tryz.prog 42 [.slice none (ts.map tagAV), .slice none (ts.map tagAV)] k [] (.lit (.bool true)) []) ∧
 (∀ k, ACall Tryz.prog 43 [algAV a, .slice none (ts.map tagAV)] k [(g, shaG)] (tsAV (ids, e2)) []) ∧
 (∀ k, ACall Tryz.prog 44 [algAV a, .slice none (ts.map tagAV)] k [] (tsAV (ids, e2)) []) ∧
 (∀ k, ACall Tryz.prog 42 [.slice none (ids.map tagAV), .slice none (ids.map tagAV)] k [] (.lit (.bool true)) [])
theorem TgQ_ex {a : Alg} (ha : AlgIn a 1000) (root : Tg) (num : Int) {L : List Ca} (hL : L.length ≤ 10 ∧ ∀ y ∈ L, PrOk y.first) {g h : Nat} (hgh : g ≠ h) : TgQ a root num L g h := by
 have h1 := tagsS_len a 2 root num L
 have h2 := nodesS_len a (tagsS a 2 root num L).1
 exact ⟨(tagsS a 2 root num L).1, (tagsS a 2 root num L).2, (nodesS a (tagsS a 2 root num L).1).1, (nodesS a (tagsS a 2 root num L).1).2, fun k => cTags_spec a 1000 ha (by decide) 2 root num L (by omega) hL.2 g h k hgh, refTags_spec a 1000 ha (by decide) 2 root num L (by omega) hL.2, SameT_refl _ (by omega), cNodes_spec a 1000 ha (by decide) _ (by omega) g, refNodes_spec a 1000 ha (by decide) _ (by omega), SameT_refl _ (by omega)⟩
set_option maxHeartbeats 16000000 in
theorem ChainTags_core (xs : List Int) (hx : xs.length ≤ 9223372036854775807) (at' : Int) (x : Ca) (hxo : PrOk x.first) (hxt : x.ticket.length ≤ 9223372036854775807) (hxb : x.box.length ≤ 9223372036854775807) (ser : Int) (g h : Nat) (hgh : g ≠ h) (k : Nat) :
  ACall Tryz.prog 6 [.slice none (xs.map intAV), .lit (.int .i64 at'), caAV x, .lit (.int .i64 ser)] k [(g, shaG), (h, bitsG)] (.lit (.bool true)) [] := by
 have c9 := awake13_spec g h hgh
 obtain ⟨xt, xf, xp, xk, xb⟩ := x
 have hxA : caAV ⟨xt, xf, xp, xk, xb⟩ = .agg [.lit (.bool xt), prAV xf, .lit (.int .i64 xp), .slice none (xk.map byteAV), .slice none (xb.map byteAV)] := rfl
 simp only at hxo hxt hxb
 by_cases h1 : 1100 < xk.length
 ·have h1i : (1100 : Int) < (xk.length : Int) := by omega
  rw [hxA]
  clear hxo hxA
  refine Bd Tryz.func6 Tryz.ntmps6 fun σ N hp hpn hk hkn hfree => ?_
  simp only [List.mem_cons, List.not_mem_nil, or_false, forall_eq_or_imp, forall_eq] at hp hpn; obtain ⟨hd1, hd2⟩ := hp; obtain ⟨hdn1, hdn2⟩ := hpn
  have hcs := And.intro c9 True.intro
  clear c9
  exact W0
 ·have h1i : ¬ (1100 : Int) < (xk.length : Int) := by omega
  by_cases h2 : 1100 < xb.length
  ·have h2i : (1100 : Int) < (xb.length : Int) := by omega
   rw [hxA]
   clear hxo hxA
   refine Bd Tryz.func6 Tryz.ntmps6 fun σ N hp hpn hk hkn hfree => ?_
   simp only [List.mem_cons, List.not_mem_nil, or_false, forall_eq_or_imp, forall_eq] at hp hpn; obtain ⟨hd1, hd2⟩ := hp; obtain ⟨hdn1, hdn2⟩ := hpn
   have hcs := And.intro c9 True.intro
   clear c9
   exact W0
  ·have h2i : ¬ (1100 : Int) < (xb.length : Int) := by omega
   obtain ⟨x0, hx0⟩ : ∃ x0 : Ca, x0 = ⟨xt, xf, xp, xk, xb⟩ := ⟨_, rfl⟩
   have hxo0 : PrOk x0.first := by rw [hx0]; exact hxo
   have hxA0 : caAV x0 = .agg [.lit (.bool xt), prAV xf, .lit (.int .i64 xp), .slice none (xk.map byteAV), .slice none (xb.map byteAV)] := by rw [hx0]; rfl
   rw [← hx0]
   have c1 := New_spec xs
   obtain ⟨s, j, hs, hj, c2⟩ := Scene_ex xs 0 ⟨hx, Nat.zero_le _⟩
   obtain ⟨c, j2, hc, hco, hcm, hj2, c3⟩ := Caveat_ex xs j hj
   obtain ⟨root, hri, _⟩ := hs.ri
   obtain ⟨se, hG, s1, s2⟩ := hs.good
   have hcl := hG.cl
   simp only at hcl
   have hlv : ∀ y ∈ s.pass.cavs ++ [c], PrOk y.first := fun y hy => by
    rcases List.mem_append.1 hy with hy | hy
    ·exact (hG.cv y hy).2.1
    ·rw [List.mem_singleton.1 hy]; exact hco
   have hin := hG.ain
   have c4 := Tag_spec xs j2 hj2
   generalize tagD xs j2 = TD at *
   obtain ⟨t, j3⟩ := TD
   simp only at c4
   obtain ⟨sa, sr, sc, ⟨pe, ps, pc, pt⟩, sg, sq, sh, sm⟩ := s
   simp only at *
   subst hri
   clear hG hs hx0 hxo hxA s1 s2 hj hj2 hc hcm
   have hsA : scAV ⟨sa, ⟨[⟨2, root⟩], 3⟩, sc, ⟨pe, ps, pc, pt⟩, sg, sq, sh, sm⟩ = .agg [algAV sa, .agg [.slice none [.agg [.lit (.int .i64 2), tagAV root]], .lit (.int .i64 3)], concAV sc, .agg [.lit (.int .i64 pe), .lit (.int .i64 ps), .slice none (pc.map caAV), tagAV pt], .slice none (sg.map diAV), rqAV sq, .lit (.string ⟨sh.toArray⟩), .lit (.int .i64 sm)] := rfl
   rw [hsA] at c2
   clear hsA
   have hll : (pc ++ [c]).length = pc.length + 1 := by simp
   obtain ⟨w, hw0⟩ := Int.eq_ofNat_of_zero_le (Int.emod_nonneg at' (show ((pc.length : Int) + 1) ≠ 0 by omega))
   have hw1 : w < pc.length + 1 := by
    have := Int.emod_lt_of_pos at' (show (0 : Int) < (pc.length : Int) + 1 by omega)
    omega
   have c5 := Within_spec at' ((pc.length : Int) + 1) (by omega) (by omega)
   rw [hw0] at c5
   have hset : ((pc ++ [c]).map caAV).set w (caAV x0) = ((pc ++ [c]).set w x0).map caAV := by rw [List.map_set]
   have hkl : ((pc ++ [c]).set w x0).length = pc.length + 1 := by simp
   have hkv : ∀ y ∈ (pc ++ [c]).set w x0, PrOk y.first := fun y hy => by
    rcases List.mem_or_eq_of_mem_set hy with hy | hy
    ·exact hlv y hy
    ·rw [hy]; exact hxo0
   have hmapl : (pc ++ [c]).map caAV = pc.map caAV ++ [caAV c] := by simp
   have htl : ((pc ++ [c]).take w).length = w := by rw [List.length_take]; omega
   have hsl : ((pc.map caAV ++ [caAV c]).take w).drop 0 = ((pc ++ [c]).take w).map caAV := by simp
   have htv : ∀ y ∈ (pc ++ [c]).take w, PrOk y.first := fun y hy => hlv y (List.mem_of_mem_take hy)
   have hpv : ∀ y ∈ pc, PrOk y.first := fun y hy => hlv y (List.mem_append_left _ hy)
   obtain ⟨all, hall⟩ : ∃ all : List (List Ca), all = [pc, pc ++ [c], (pc ++ [c]).set w x0, (pc ++ [c]).take w] := ⟨_, rfl⟩
   have hal4 : all.length = 4 := by rw [hall]; rfl
   have hav : ∀ L ∈ all, L.length ≤ 10 ∧ ∀ y ∈ L, PrOk y.first := fun L hL => by
    rw [hall] at hL
    simp only [List.mem_cons, List.not_mem_nil, or_false] at hL
    rcases hL with rfl | rfl | rfl | rfl
    ·exact ⟨by omega, hpv⟩
    ·exact ⟨by omega, hlv⟩
    ·exact ⟨by omega, hkv⟩
    ·exact ⟨by omega, htv⟩
   have hget : (pc.map caAV ++ [caAV c])[w]? = some (caAV ((pc ++ [c])[w]'(by simp; omega))) := by rw [← hmapl, List.getElem?_map, List.getElem?_eq_getElem (by simp; omega)]; rfl
   generalize (pc ++ [c])[w]'(by simp; omega) = cw at hget
   have hoff : AV.szl ((pc.map caAV ++ [caAV c]).take w) = w * 10 := by rw [← hmapl, ← List.map_take, szl_cas, htl]
   have hsetA : (pc.map caAV ++ [caAV c]).set w (.agg [.lit (.bool xt), prAV xf, .lit (.int .i64 xp), .slice none (xk.map byteAV), .slice none (xb.map byteAV)]) = ((pc ++ [c]).set w x0).map caAV := by rw [← hxA0, ← hmapl, hset]
   have hb26 : (pc.length + 1) * 120 ≤ 140737488355328 := by omega
   have hb27 : pc.length * 120 ≤ 140737488355328 := by omega
   obtain ⟨K, hK⟩ : ∃ K, K = (pc ++ [c]).set w x0 := ⟨_, rfl⟩
   rw [← hK] at hsetA hkl hall
   clear hset hmapl hK hkv
   refine Bd Tryz.func6 Tryz.ntmps6 fun σ N hp hpn hk hkn hfree => ?_
   have M : Mut (N + 36) := ⟨⟩
   simp only [List.mem_cons, List.not_mem_nil, or_false, forall_eq_or_imp, forall_eq] at hp hpn; obtain ⟨hd1, hd2⟩ := hp; obtain ⟨hdn1, hdn2⟩ := hpn
   have hcs := And.intro c1 (And.intro (c2 (N + 12 + 1)) (And.intro (c3 (N + 12 + 1)) (And.intro c5 (And.intro c5 True.intro))))
   clear c1 c2 c3
   refine Wm ?_
   iterate 8 refine Wz ?_
   clear hcs
   refine go_freeze 13 (id := N + 36) (ver := 1) (size := 10) (e := 76) (xs := K.map caAV) (k := pc.length + 1) (by simp (disch := omega) [go_sem, *, -List.reduceReplicate]) (by simp (disch := omega) [go_sem, *, -List.reduceReplicate]) (by rw [List.length_map, hkl]) ?_
   clear M
   have hcs := And.intro c5 True.intro
   refine Wk ?_
   clear hcs
   have hle : ∀ r x y : Nat, AV.le (.slice (some r) [.slice none (pc.map caAV), .slice (some x) (pc.map caAV ++ [caAV c]), .slice (some y) (K.map caAV), .slice none ((pc.map caAV ++ [caAV c]).take w)]) (.slice none (all.map casA)) := fun r x y => by rw [hall]; exact four_le pc c K w r x y
   refine go_less 14 (by simp (disch := omega) [go_sem, *]; try first | rfl | exact ⟨rfl, rfl, rfl⟩) (hle _ _ _) ?_
   clear hle hall hsetA hsl hget hoff
   have d1 := cNodes_spec sa 1000 hin (by decide) [pt, t] (by simp) g
   have d2 := refNodes_spec sa 1000 hin (by decide) [pt, t] (by simp)
   have d3 := SameT_refl (nodesS sa [pt, t]).1 (Nat.le_trans (nodesS_len sa [pt, t]) (by simp))
   unfold tsAV at d1 d2
   generalize nodesS sa [pt, t] = NN at *
   obtain ⟨NN1, NN2⟩ := NN
   simp only [List.map_cons, List.map_nil] at d1 d2 d3
   refine go_loopF mixed (by kernel_rfl) (8 :: 15 :: 16 :: 17 :: 18 :: 19 :: 20 :: 21 :: 22 :: 23 :: 24 :: 25 :: 82 :: 83 :: 84 :: 85 :: 86 :: 87 :: 88 :: 89 :: 90 :: 91 :: 92 :: 93 :: 94 :: 95 :: 96 :: 97 :: 98 :: 99 :: 100 :: 101 :: 102 :: 103 :: 104 :: 105 :: 106 :: 107 :: 108 :: 109 :: 110 :: 111 :: 112 :: 113 :: 114 :: 115 :: 116 :: 117 :: 118 :: 119 :: 120 :: 121 :: 122 :: 123 :: 124 :: 125 :: 126 :: 127 :: 128 :: 129 :: 130 :: 131 :: 132 :: 133 :: 134 :: 135 :: 136 :: 137 :: 138 :: 139 :: 140 :: 141 :: 142 :: 143 :: 144 :: 145 :: 146 :: 147 :: 148 :: 149 :: 150 :: 151 :: 152 :: 153 :: []) [] (fun m_ s_ σ_ n_ => ∃ (i : Nat), m_ = 4 - i ∧ s_ 15 = .lit (.int .i64 i) ∧ (i ≤ 4)) ⟨_, 0, rfl, WF, WC⟩ ?_
   intro m_2 s_2 σ_2 n_2 hs_2 hf_2 hn_2 hI_2
   obtain ⟨i, hm_2, h2_15, hi⟩ := hI_2
   have h2_3 := KS hs_2 3
   have h2_9 := KS hs_2 9
   have h2_10 := KS hs_2 10
   have h2_11 := KS hs_2 11
   have h2_14 := KS hs_2 14
   have k2_0 := KE hf_2 (N)
   have k2_1 := KE hf_2 (N + 12 + 1)
   have k2_2 := KE hf_2 (N + 15 + 2)
   have k2_3 := KE hf_2 (N + 19 + 5)
   have k2_4 := KE hf_2 (g)
   have k2_5 := KE hf_2 (h)
   have hlow := KL (N := N) (σ := σ) hf_2
   by_cases hil : i = 4
   ·subst hil
    have hcs := And.intro (c4 (N + 12 + 1)) (And.intro d1 (And.intro d2 (And.intro d3 (And.intro c9 True.intro))))
    clear c4 d1 d2 d3 c9 hav hin
    exact W0
   ·have hi1 : i < all.length := by omega
    have hi4 : (i : Int) < 4 := by omega
    obtain ⟨L, hL⟩ : ∃ L, all[i] = L := ⟨_, rfl⟩
    have hLm : (all.map casA)[i]? = some (.slice none (L.map caAV)) := by rw [List.getElem?_map, List.getElem?_eq_getElem hi1, hL]; rfl
    have hLv := hav L (by rw [← hL]; exact List.getElem_mem _)
    have e1 := TgQ_ex hin root ps hLv hgh
    have e2 := TgQ_ex hin root ser hLv hgh
    clear hav hin hLv d1 d2 d3 c4 c9 hL
    have hcs := True.intro
    refine Wk ?_
    clear hcs
    refine go_loopF mixed (by kernel_rfl) (8 :: 16 :: 17 :: 18 :: 19 :: 20 :: 21 :: 22 :: 23 :: 24 :: 25 :: 88 :: 89 :: 90 :: 91 :: 92 :: 93 :: 94 :: 95 :: 96 :: 97 :: 98 :: 99 :: 100 :: 101 :: 102 :: 103 :: 104 :: 105 :: 106 :: 107 :: 108 :: 109 :: 110 :: 111 :: 112 :: 113 :: 114 :: 115 :: 116 :: 117 :: 118 :: 119 :: 120 :: 121 :: 122 :: 123 :: 124 :: 125 :: 126 :: 127 :: 128 :: 129 :: 130 :: 131 :: 132 :: 133 :: 134 :: 135 :: 136 :: 137 :: 138 :: 139 :: 140 :: 141 :: 142 :: 143 :: 144 :: 145 :: 146 :: 147 :: 148 :: 149 :: 150 :: 151 :: 152 :: 153 :: []) [] (fun m_ s_ σ_ n_ => ∃ (v : Nat), m_ = 2 - v ∧ s_ 16 = .lit (.int .i64 v) ∧ (v ≤ 2)) ⟨_, 0, rfl, WF, WC⟩ ?_
    intro m_3 s_3 σ_3 n_3 hs_3 hf_3 hn_3 hI_3
    obtain ⟨v, hm_3, h3_16, hv⟩ := hI_3
    have h3_3 := KS hs_3 3
    have h3_9 := KS hs_3 9
    have h3_10 := KS hs_3 10
    have h3_11 := KS hs_3 11
    have h3_14 := KS hs_3 14
    have h3_15 := KS hs_3 15
    have h3_82 := KS hs_3 82
    have h3_83 := KS hs_3 83
    have h3_84 := KS hs_3 84
    have h3_85 := KS hs_3 85
    have k3_0 := KE hf_3 (N)
    have k3_1 := KE hf_3 (N + 12 + 1)
    have k3_2 := KE hf_3 (N + 15 + 2)
    have k3_3 := KE hf_3 (N + 19 + 5)
    have k3_4 := KE hf_3 (g)
    have k3_5 := KE hf_3 (h)
    have hlow := KL (N := N) (σ := σ) hf_3
    obtain hvl | hvl : v = 2 ∨ v < 2 := by omega
    ·subst hvl
     have hcs := True.intro
     refine Wk ?_
     exact ⟨WS, WG, WN, _, (show 4 - (i + 1) < m_2 by omega), i + 1, rfl, WF, WC⟩
    ·obtain hv0 | hv0 : v = 0 ∨ v = 1 := by omega
     all_goals subst hv0
     ·obtain ⟨ts, e, ids, ee, a1, a2, a3, a4, a5, a6⟩ := e1
      unfold tsAV at a1 a2 a4 a5
      simp only at a1 a2 a4 a5
      have hcs := And.intro a1 (And.intro a2 (And.intro a3 (And.intro a4 (And.intro a5 (And.intro a6 True.intro)))))
      clear a1 a2 a3 a4 a5 a6 e2
      refine Wk ?_
      exact ⟨WS, WG, WN, _, (show 2 - (0 + 1) < m_3 by omega), 0 + 1, rfl, WF, WC⟩
     ·obtain ⟨ts, e, ids, ee, a1, a2, a3, a4, a5, a6⟩ := e2
      unfold tsAV at a1 a2 a4 a5
      simp only at a1 a2 a4 a5
      have hcs := And.intro a1 (And.intro a2 (And.intro a3 (And.intro a4 (And.intro a5 (And.intro a6 True.intro)))))
      clear a1 a2 a3 a4 a5 a6 e1
      refine Wk ?_
      exact ⟨WS, WG, WN, _, (show 2 - (1 + 1) < m_3 by omega), 1 + 1, rfl, WF, WC⟩
end
theorem ChainTags_spec (xs : List Int) (_ : ∀ n ∈ xs, (Lit.int .i64 n).wf = true) (hx : xs.length ≤ 9223372036854775807) (at' : Int) (x : Ca) (hc : CaW x) (ser : Int) (g h : Nat) (hgh : g ≠ h) (k : Nat) :
  ACall Tryz.prog 6 [.slice none (xs.map intAV), .lit (.int .i64 at'), caAV x, .lit (.int .i64 ser)] k [(g, shaG), (h, bitsG)] (.lit (.bool true)) [] :=
 @ChainTags_core w32 xs hx at' x hc.1 (by have := hc.2.1; omega) (by have := hc.2.2; omega) ser g h hgh k
end Go.Proofs.YtdmjpolnbmoehaaGreatDoor
