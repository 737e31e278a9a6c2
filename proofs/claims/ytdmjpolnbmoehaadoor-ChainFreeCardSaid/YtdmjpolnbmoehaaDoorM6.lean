/- Texts V1, Q3, K4, K5, D11, D8, U2, N5, C12, M6, M7, R2, joined. -/
import Derived.Test.YtdmjpolnbmoehaaDoorM5

namespace Go.Proofs.YtdmjpolnbmoehaaDoor
open Go.Ab
attribute [local irreducible] Go.Ab.tyAV Go.Ab.aw Go.Ab.aops Go.Ab.kReg Go.Ab.aThen Go.Ab.aBlk Go.Ab.acond Go.Ab.aguard Go.Ab.astep Go.Ab.AStepX Go.Ab.aRet
structure Dv where
 a0 : List UInt8
 a1 : List UInt8
 act : Int
 cap : Int
 wr : Int
 cutAt : Int
 torn : Int
 off : Bool
section
theorem CloneM_cons (b : List UInt8) (he : b.isEmpty = false) (hl : b.length ≤ 140737488351232) (k : Nat) :
  ACall Tryd.prog 98 [.slice none (b.map byteAV)] k [] (.ms k 1 1 0 b.length) [(k, .mrow 1 5 1 (b.map byteAV))] := by
 refine Bd Tryd.func98 Tryd.ntmps98 fun σ N hp hpn hk hkn hfree => ?_
 have M : Mut (N + 3) := ⟨⟩
 refine Wk ?_
 refine go_result1 (r0 := N+3) (by simp (disch := omega) [go_sem, *, -List.reduceReplicate]; rfl) (by omega) (by simp (disch := omega) [go_sem]; try rfl) (fun id hid => by simp (disch := omega) only [upd_ne]; try exact hlow id hid) (by simp (disch := omega) only [upd_same]; rfl) (by simp (disch := omega) [go_sem])
theorem CloneM_empty (A : Addr) (c k : Nat) :
  ACall Tryd.prog 98 [.lit (.slice (some A) 0 c)] k [] (.ms k 1 1 0 0) [(k, .mrow 1 5 1 [])] := by
 refine Bd Tryd.func98 Tryd.ntmps98 fun σ N hp hpn hk hkn hfree => ?_
 have M : Mut (N + 3) := ⟨⟩
 refine Wk ?_
 refine go_result1 (r0 := N+3) (by simp (disch := omega) [go_sem, *, -List.reduceReplicate]; rfl) (by omega) (by simp (disch := omega) [go_sem]; try rfl) (fun id hid => by simp (disch := omega) only [upd_ne]; try exact hlow id hid) (by simp (disch := omega) only [upd_same]; rfl) (by simp (disch := omega) [go_sem])
theorem Clone_nil (c k : Nat) : ACall Tryd.prog 98 [.lit (.slice none 0 c)] k [] .nils [] := by
 refine Bd Tryd.func98 Tryd.ntmps98 fun σ N hp hpn hk hkn hfree => ?_
 exact W0
theorem CloneM_spec (b : List UInt8) (hl : b.length ≤ 140737488351232) (k : Nat) :
  ACall Tryd.prog 98 [.slice none (b.map byteAV)] k [] (.ms k 1 1 0 b.length) [(k, .mrow 1 5 1 (b.map byteAV))] := by
 cases b with
 | cons x r => exact CloneM_cons (x :: r) rfl hl k
 | nil =>
  refine ACall.empty fun A c => ?_
  cases A with
  | none => exact ACall.nilM (by decide) (Clone_nil c k)
  | some A => exact CloneM_empty A c k
theorem Clone_cons (b : List UInt8) (he : b.isEmpty = false) (hl : b.length ≤ 140737488351232) (k : Nat) :
  ACall Tryd.prog 98 [.slice none (b.map byteAV)] k [] (.slice none (b.map byteAV)) [] := by
 refine Bd Tryd.func98 Tryd.ntmps98 fun σ N hp hpn hk hkn hfree => ?_
 exact WM
theorem Clone_empty (A : Addr) (c k : Nat) : ACall Tryd.prog 98 [.lit (.slice (some A) 0 c)] k [] (.slice none []) [] := by
 refine Bd Tryd.func98 Tryd.ntmps98 fun σ N hp hpn hk hkn hfree => ?_
 exact WM
theorem Clone_spec (b : List UInt8) (hl : b.length ≤ 140737488351232) (k : Nat) :
  ACall Tryd.prog 98 [.slice none (b.map byteAV)] k [] (.slice none (b.map byteAV)) [] := by
 cases b with
 | cons x r => exact Clone_cons (x :: r) rfl hl k
 | nil =>
  refine ACall.empty fun A c => ?_
  cases A with
  | none => exact (Clone_nil c k).result AV.le_nils
  | some A => exact Clone_empty A c k
end
end Go.Proofs.YtdmjpolnbmoehaaDoor

namespace Go.Proofs.YtdmjpolnbmoehaaDoor
open Go.Ab
attribute [local irreducible] Go.Ab.tyAV Go.Ab.aw Go.Ab.aops Go.Ab.kReg Go.Ab.aThen Go.Ab.aBlk Go.Ab.acond Go.Ab.aguard Go.Ab.astep Go.Ab.AStepX Go.Ab.aRet
attribute [local irreducible] shaG
theorem shaG_nbox {t : TypeId} {x : AV} (h : shaG = .box t x) : False := by unfold shaG at h; cases h
theorem shaG_nrow {t : TypeId} {n m : Nat} (h : shaG = .row t n m) : False := by unfold shaG at h; cases h
theorem makAV_eq (fr : Bool) (sd : Tg) (fs : Int) (L : List MacE) (B : List BoxE) (e r1 r2 : Nat) : makB ⟨fr, sd, fs, L, B⟩ e r1 r2 = .box 140 (.agg [.agg [.lit (.bool fr), tagAV sd, .lit (.int .i64 fs), .slice (some r1) (L.map macAV), .slice (some r2) (B.map sealAV)], .lit (.int .i64 (e : Int))]) := rfl
section
variable [W : W32]
def mMac (a : Alg) (e : Nat) (key : Tg) (msg : List UInt8) : Alg × Nat × Tg :=
 if e ≠ 0 then (a, e, zeroTag) else if (macS a key msg).2.2 = 0 then ((macS a key msg).1, 0, (macS a key msg).2.1) else (a, (macS a key msg).2.2, zeroTag)
theorem mMac_err {a : Alg} {e : Nat} {key : Tg} {msg : List UInt8} (h : e ≠ 0) : mMac a e key msg = (a, e, zeroTag) := by unfold mMac; rw [if_pos h]
theorem mMac_long {a : Alg} {key : Tg} {msg : List UInt8} (h : 4096 < msg.length) : mMac a 0 key msg = (a, 2, zeroTag) := by unfold mMac; rw [macS_long h]; rfl
theorem mMac_found {a : Alg} {key : Tg} {msg : List UInt8} {t : Tg} (h : ¬ 4096 < msg.length) (he : entL key msg a.macs = some t) : mMac a 0 key msg = (a, 0, t) := by unfold mMac; rw [macS_found h he]; rfl
theorem mMac_full {a : Alg} {key : Tg} {msg : List UInt8} (h : ¬ 4096 < msg.length) (he : entL key msg a.macs = none) (hf : 65536 ≤ a.macs.length) : mMac a 0 key msg = (a, 2, zeroTag) := by unfold mMac; rw [macS_full h he hf]; rfl
theorem mMac_new {a : Alg} {key : Tg} {msg : List UInt8} (h : ¬ 4096 < msg.length) (he : entL key msg a.macs = none) (hf : ¬ 65536 ≤ a.macs.length) : mMac a 0 key msg = ({ a with macs := a.macs ++ [⟨key, msg, if a.free then symT 109 (a.macs.length + 1) else hmacT key.1 msg⟩] }, 0, if a.free then symT 109 (a.macs.length + 1) else hmacT key.1 msg) := by unfold mMac; rw [macS_new h he hf]; rfl
set_option maxHeartbeats 4000000 in
theorem mMac_spec (a : Alg) (e : Nat) (key : Tg) (msg : List UInt8) (hl : a.macs.length ≤ 1000000) (hm : ∀ x ∈ a.macs, x.msg.length ≤ 100000) (h0 : e = 0 → 0 < msg.length) (hmsg : msg.length ≤ 100000) (d r1 r2 g k : Nat) :
  ACall Tryd.prog 75 [.ptr d [] 0, tagAV key, .slice none (msg.map byteAV)] k (makE a e d r1 r2 ++ [(g, shaG)]) (tagAV (mMac a e key msg).2.2) [(d, makB (mMac a e key msg).1 (mMac a e key msg).2.1 r1 r2), (r1, rowM (mMac a e key msg).1.macs.length)] := by
 obtain ⟨fr, sd, fs, L, B⟩ := a
 simp only at hl hm
 unfold makE
 simp only [List.cons_append, List.nil_append]
 by_cases he0 : e = 0
 ·subst he0
  have h0 := h0 rfl
  by_cases h1 : 4096 < msg.length
  ·rw [mMac_long h1]
   have h1i : (4096 : Int) < (msg.length : Int) := by omega
   have c1 := Fail_spec ⟨fr, sd, fs, L, B⟩ 0 2
   rw [if_pos rfl] at c1
   unfold makE at c1
   simp only [makAV_eq, rowM_eq, rowB_eq] at *
   refine Bd Tryd.func75 Tryd.ntmps75 fun σ N hp hpn hk hkn hfree => ?_
   simp only [List.mem_cons, List.not_mem_nil, or_false, forall_eq_or_imp, forall_eq] at hp hpn; obtain ⟨hd1, hd2, hd3, hd4⟩ := hp; obtain ⟨hdn1, hdn2, hdn3, hdn4⟩ := hpn
   have hne : d ≠ r1 := by rintro rfl; rw [hd1] at hd2; cases hd2
   have hne3 : d ≠ r2 := by rintro rfl; rw [hd1] at hd3; cases hd3
   have hneg : g ≠ d := by rintro rfl; rw [hd4] at hd1; exact shaG_nbox hd1
   have hneg1 : g ≠ r1 := by rintro rfl; rw [hd4] at hd2; exact shaG_nrow hd2
   have hcs := And.intro (c1 d r1 r2) True.intro
   clear c1 hm
   refine Wk ?_
   refine go_resultW [(d, (.box 140 (.agg [.agg [.lit (.bool fr), tagAV sd, .lit (.int .i64 fs), .slice (some r1) (L.map macAV), .slice (some r2) (B.map sealAV)], .lit (.int .i64 2)]))), (r1, (.row 102 65 L.length))] (by simp (disch := omega) [go_sem, *, -List.reduceReplicate]; rfl) (by first | rfl | (simp (disch := omega) [go_sem]; done) | (simp (disch := omega) [go_sem, *]; done) | simp (disch := omega) [go_sem]) (fun id hid => by simp only [wr_cons, wr_nil]; (by_cases hdd : id = d; (· (subst hdd; simp (disch := omega) [go_sem, *])); (· (by_cases hdd2 : id = r1; (· (subst hdd2; simp (disch := omega) [go_sem, *])); (· (simp (disch := omega) only [upd_ne]; try (first | exact hlow id hid hdd hdd2 | exact hlow id hid))))))) (by simp) (by simp (disch := omega) [go_sem, *])
  ·have h1i : ¬ (4096 : Int) < (msg.length : Int) := by omega
   have c2 := find_spec L key msg hl hm (by omega)
   cases he : entL key msg L with
   | some t =>
    rw [mMac_found h1 he]
    obtain ⟨i, hi, hfi, hti⟩ := fI_some L 0 he
    rw [hfi, Nat.zero_add] at c2
    have hz : ∃ z, L[i] = z := ⟨_, rfl⟩
    obtain ⟨z, hz⟩ := hz
    rw [hz] at hti
    obtain ⟨zk, zm, zt⟩ := z
    simp only at hti
    subst hti
    have hzd : macAV ⟨zk, zm, zt⟩ = .agg [tagAV zk, bAV zm, tagAV zt] := rfl
    simp only [makAV_eq, rowM_eq, rowB_eq] at *
    refine Bd Tryd.func75 Tryd.ntmps75 fun σ N hp hpn hk hkn hfree => ?_
    simp only [List.mem_cons, List.not_mem_nil, or_false, forall_eq_or_imp, forall_eq] at hp hpn; obtain ⟨hd1, hd2, hd3, hd4⟩ := hp; obtain ⟨hdn1, hdn2, hdn3, hdn4⟩ := hpn
    have hne : d ≠ r1 := by rintro rfl; rw [hd1] at hd2; cases hd2
    have hne3 : d ≠ r2 := by rintro rfl; rw [hd1] at hd3; cases hd3
    have hneg : g ≠ d := by rintro rfl; rw [hd4] at hd1; exact shaG_nbox hd1
    have hneg1 : g ≠ r1 := by rintro rfl; rw [hd4] at hd2; exact shaG_nrow hd2
    have hcs := And.intro c2 True.intro
    clear c2 hm he hfi
    refine Wk ?_
    refine go_resultW [(d, (.box 140 (.agg [.agg [.lit (.bool fr), tagAV sd, .lit (.int .i64 fs), .slice (some r1) (L.map macAV), .slice (some r2) (B.map sealAV)], .lit (.int .i64 0)]))), (r1, (.row 102 65 L.length))] (by simp (disch := omega) [go_sem, *, -List.reduceReplicate]; rfl) (by first | rfl | (simp (disch := omega) [go_sem]; done) | (simp (disch := omega) [go_sem, *]; done) | simp (disch := omega) [go_sem]) (fun id hid => by simp only [wr_cons, wr_nil]; (by_cases hdd : id = d; (· (subst hdd; simp (disch := omega) [go_sem, *])); (· (by_cases hdd2 : id = r1; (· (subst hdd2; simp (disch := omega) [go_sem, *])); (· (simp (disch := omega) only [upd_ne]; try (first | exact hlow id hid hdd hdd2 | exact hlow id hid))))))) (by simp) (by simp (disch := omega) [go_sem, *])
   | none =>
    rw [fI_none L 0 he] at c2
    have c3 := pSymbol_spec 109 (L.length + 1) (by omega)
    have e109 : ((109 : UInt8).toNat : Int) = 109 := rfl
    have hn1 : ((L.length + 1 : Nat) : Int) = (L.length : Int) + 1 := by omega
    by_cases hf : 65536 ≤ L.length
    ·rw [mMac_full h1 he hf]
     have hfi : (65536 : Int) < (L.length : Int) + 1 := by omega
     have c1 := Fail_spec ⟨fr, sd, fs, L, B⟩ 0 2
     rw [if_pos rfl] at c1
     unfold makE at c1
     clear c3 e109 hn1
     simp only [makAV_eq, rowM_eq, rowB_eq] at *
     refine Bd Tryd.func75 Tryd.ntmps75 fun σ N hp hpn hk hkn hfree => ?_
     simp only [List.mem_cons, List.not_mem_nil, or_false, forall_eq_or_imp, forall_eq] at hp hpn; obtain ⟨hd1, hd2, hd3, hd4⟩ := hp; obtain ⟨hdn1, hdn2, hdn3, hdn4⟩ := hpn
     have hne : d ≠ r1 := by rintro rfl; rw [hd1] at hd2; cases hd2
     have hne3 : d ≠ r2 := by rintro rfl; rw [hd1] at hd3; cases hd3
     have hneg : g ≠ d := by rintro rfl; rw [hd4] at hd1; exact shaG_nbox hd1
     have hneg1 : g ≠ r1 := by rintro rfl; rw [hd4] at hd2; exact shaG_nrow hd2
     have hcs := And.intro c2 (And.intro (c1 d r1 r2) True.intro)
     clear c1 c2 hm he
     refine Wk ?_
     refine go_resultW [(d, (.box 140 (.agg [.agg [.lit (.bool fr), tagAV sd, .lit (.int .i64 fs), .slice (some r1) (L.map macAV), .slice (some r2) (B.map sealAV)], .lit (.int .i64 2)]))), (r1, (.row 102 65 L.length))] (by simp (disch := omega) [go_sem, *, -List.reduceReplicate]; rfl) (by first | rfl | (simp (disch := omega) [go_sem]; done) | (simp (disch := omega) [go_sem, *]; done) | simp (disch := omega) [go_sem]) (fun id hid => by simp only [wr_cons, wr_nil]; (by_cases hdd : id = d; (· (subst hdd; simp (disch := omega) [go_sem, *])); (· (by_cases hdd2 : id = r1; (· (subst hdd2; simp (disch := omega) [go_sem, *])); (· (simp (disch := omega) only [upd_ne]; try (first | exact hlow id hid hdd hdd2 | exact hlow id hid))))))) (by simp) (by simp (disch := omega) [go_sem, *])
    ·rw [mMac_new h1 he hf]
     have hfi : ¬ (65536 : Int) < (L.length : Int) + 1 := by omega
     have c5 := Clone_spec msg (by omega)
     have hb : (L.length + 1) * 88 ≤ 140737488355328 := by omega
     have hb0 : L.length * 88 ≤ 140737488355328 := by omega
     have hb1 : L.length ≤ 140737488355327 := by omega
     rw [e109, hn1] at c3
     clear e109 hn1
     cases fr with
     | true =>
      simp only [if_true]
      generalize symT 109 ((L.length : Int) + 1) = t at *
      have hL2 : (L ++ [(⟨key, msg, t⟩ : MacE)]).map macAV = L.map macAV ++ [.agg [tagAV key, .slice none (msg.map byteAV), tagAV t]] := by rw [List.map_append]; rfl
      have hL3 : (L ++ [(⟨key, msg, t⟩ : MacE)]).length = L.length + 1 := by simp
      simp only [makAV_eq, rowM_eq, rowB_eq, hL2, hL3] at *
      refine Bd Tryd.func75 Tryd.ntmps75 fun σ N hp hpn hk hkn hfree => ?_
      simp only [List.mem_cons, List.not_mem_nil, or_false, forall_eq_or_imp, forall_eq] at hp hpn; obtain ⟨hd1, hd2, hd3, hd4⟩ := hp; obtain ⟨hdn1, hdn2, hdn3, hdn4⟩ := hpn
      have hne : d ≠ r1 := by rintro rfl; rw [hd1] at hd2; cases hd2
      have hne3 : d ≠ r2 := by rintro rfl; rw [hd1] at hd3; cases hd3
      have hneg : g ≠ d := by rintro rfl; rw [hd4] at hd1; exact shaG_nbox hd1
      have hneg1 : g ≠ r1 := by rintro rfl; rw [hd4] at hd2; exact shaG_nrow hd2
      have hcs := And.intro c2 (And.intro c3 (And.intro c5 True.intro))
      clear c2 c3 c5 hm he hL2 hL3
      refine Wk ?_
      refine go_resultW [(d, (.box 140 (.agg [.agg [.lit (.bool true), tagAV sd, .lit (.int .i64 fs), .slice (some r1) (L.map macAV ++ [.agg [tagAV key, .slice none (msg.map byteAV), tagAV t]]), .slice (some r2) (B.map sealAV)], .lit (.int .i64 0)]))), (r1, (.row 102 65 (L.length + 1)))] (by simp (disch := omega) [go_sem, *, -List.reduceReplicate]; rfl) (by first | rfl | (simp (disch := omega) [go_sem]; done) | (simp (disch := omega) [go_sem, *]; done) | simp (disch := omega) [go_sem]) (fun id hid => by simp only [wr_cons, wr_nil]; (by_cases hdd : id = d; (· (subst hdd; simp (disch := omega) [go_sem, *])); (· (by_cases hdd2 : id = r1; (· (subst hdd2; simp (disch := omega) [go_sem, *])); (· (simp (disch := omega) only [upd_ne]; try (first | exact hlow id hid hdd hdd2 | exact hlow id hid))))))) (by simp) (by simp (disch := omega) [go_sem, *])
     | false =>
      simp only [Bool.false_eq_true, if_false]
      have c4 := hmacOf_spec key.1 msg (by rw [key.2]; decide) h0 hmsg g
      generalize hmacT key.1 msg = t at *
      generalize symT 109 ((L.length : Int) + 1) = t0 at *
      have hL2 : (L ++ [(⟨key, msg, t⟩ : MacE)]).map macAV = L.map macAV ++ [.agg [tagAV key, .slice none (msg.map byteAV), tagAV t]] := by rw [List.map_append]; rfl
      have hL3 : (L ++ [(⟨key, msg, t⟩ : MacE)]).length = L.length + 1 := by simp
      have hs1 := tagAV_sz key
      have hs2 := tagAV_cell key
      obtain ⟨K, hK⟩ := key
      have hkA : tagAV ⟨K, hK⟩ = .agg (K.map byteAV) := rfl
      simp only [hkA] at hs1 hs2 c2 c4 hL2 ⊢
      clear hkA
      have hs3 : AV.celll (K.map byteAV) = true := celll_bytes K
      have htk : (K.map byteAV).take 32 = K.map byteAV := List.take_of_length_le (by rw [List.length_map]; omega)
      simp only [makAV_eq, rowM_eq, rowB_eq, hL2, hL3] at *
      refine Bd Tryd.func75 Tryd.ntmps75 fun σ N hp hpn hk hkn hfree => ?_
      simp only [List.mem_cons, List.not_mem_nil, or_false, forall_eq_or_imp, forall_eq] at hp hpn; obtain ⟨hd1, hd2, hd3, hd4⟩ := hp; obtain ⟨hdn1, hdn2, hdn3, hdn4⟩ := hpn
      have hne : d ≠ r1 := by rintro rfl; rw [hd1] at hd2; cases hd2
      have hne3 : d ≠ r2 := by rintro rfl; rw [hd1] at hd3; cases hd3
      have hneg : g ≠ d := by rintro rfl; rw [hd4] at hd1; exact shaG_nbox hd1
      have hneg1 : g ≠ r1 := by rintro rfl; rw [hd4] at hd2; exact shaG_nrow hd2
      have hcs := And.intro c2 (And.intro c3 (And.intro c4 (And.intro c5 True.intro)))
      clear c2 c3 c4 c5 hm he hL2 hL3
      refine Wk ?_
      refine go_resultW [(d, (.box 140 (.agg [.agg [.lit (.bool false), tagAV sd, .lit (.int .i64 fs), .slice (some r1) (L.map macAV ++ [.agg [.agg (K.map byteAV), .slice none (msg.map byteAV), tagAV t]]), .slice (some r2) (B.map sealAV)], .lit (.int .i64 0)]))), (r1, (.row 102 65 (L.length + 1)))] (by simp (disch := omega) [go_sem, *, -List.reduceReplicate]; rfl) (by first | rfl | (simp (disch := omega) [go_sem]; done) | (simp (disch := omega) [go_sem, *]; done) | simp (disch := omega) [go_sem]) (fun id hid => by simp only [wr_cons, wr_nil]; (by_cases hdd : id = d; (· (subst hdd; simp (disch := omega) [go_sem, *])); (· (by_cases hdd2 : id = r1; (· (subst hdd2; simp (disch := omega) [go_sem, *])); (· (simp (disch := omega) only [upd_ne]; try (first | exact hlow id hid hdd hdd2 | exact hlow id hid))))))) (by simp) (by simp (disch := omega) [go_sem, *])
 ·rw [mMac_err he0]
  have hei : ((e : Int) != 0) = true := by simp; omega
  by_cases h1 : 4096 < msg.length
  ·have h1i : (4096 : Int) < (msg.length : Int) := by omega
   have c1 := Fail_spec ⟨fr, sd, fs, L, B⟩ e 2
   rw [if_neg he0] at c1
   unfold makE at c1
   simp only [makAV_eq, rowM_eq, rowB_eq] at *
   refine Bd Tryd.func75 Tryd.ntmps75 fun σ N hp hpn hk hkn hfree => ?_
   simp only [List.mem_cons, List.not_mem_nil, or_false, forall_eq_or_imp, forall_eq] at hp hpn; obtain ⟨hd1, hd2, hd3, hd4⟩ := hp; obtain ⟨hdn1, hdn2, hdn3, hdn4⟩ := hpn
   have hne : d ≠ r1 := by rintro rfl; rw [hd1] at hd2; cases hd2
   have hne3 : d ≠ r2 := by rintro rfl; rw [hd1] at hd3; cases hd3
   have hneg : g ≠ d := by rintro rfl; rw [hd4] at hd1; exact shaG_nbox hd1
   have hneg1 : g ≠ r1 := by rintro rfl; rw [hd4] at hd2; exact shaG_nrow hd2
   have hcs := And.intro (c1 d r1 r2) True.intro
   clear c1 hm
   refine Wk ?_
   refine go_resultW [(d, (.box 140 (.agg [.agg [.lit (.bool fr), tagAV sd, .lit (.int .i64 fs), .slice (some r1) (L.map macAV), .slice (some r2) (B.map sealAV)], .lit (.int .i64 e)]))), (r1, (.row 102 65 L.length))] (by simp (disch := omega) [go_sem, *, -List.reduceReplicate]; rfl) (by first | rfl | (simp (disch := omega) [go_sem]; done) | (simp (disch := omega) [go_sem, *]; done) | simp (disch := omega) [go_sem]) (fun id hid => by simp only [wr_cons, wr_nil]; (by_cases hdd : id = d; (· (subst hdd; simp (disch := omega) [go_sem, *])); (· (by_cases hdd2 : id = r1; (· (subst hdd2; simp (disch := omega) [go_sem, *])); (· (simp (disch := omega) only [upd_ne]; try (first | exact hlow id hid hdd hdd2 | exact hlow id hid))))))) (by simp) (by simp (disch := omega) [go_sem, *])
  ·have h1i : ¬ (4096 : Int) < (msg.length : Int) := by omega
   simp only [makAV_eq, rowM_eq, rowB_eq] at *
   refine Bd Tryd.func75 Tryd.ntmps75 fun σ N hp hpn hk hkn hfree => ?_
   simp only [List.mem_cons, List.not_mem_nil, or_false, forall_eq_or_imp, forall_eq] at hp hpn; obtain ⟨hd1, hd2, hd3, hd4⟩ := hp; obtain ⟨hdn1, hdn2, hdn3, hdn4⟩ := hpn
   have hne : d ≠ r1 := by rintro rfl; rw [hd1] at hd2; cases hd2
   have hne3 : d ≠ r2 := by rintro rfl; rw [hd1] at hd3; cases hd3
   have hneg : g ≠ d := by rintro rfl; rw [hd4] at hd1; exact shaG_nbox hd1
   have hneg1 : g ≠ r1 := by rintro rfl; rw [hd4] at hd2; exact shaG_nrow hd2
   clear hm
   refine Wk ?_
   refine go_resultW [(d, (.box 140 (.agg [.agg [.lit (.bool fr), tagAV sd, .lit (.int .i64 fs), .slice (some r1) (L.map macAV), .slice (some r2) (B.map sealAV)], .lit (.int .i64 e)]))), (r1, (.row 102 65 L.length))] (by simp (disch := omega) [go_sem, *, -List.reduceReplicate]; rfl) (by first | rfl | (simp (disch := omega) [go_sem]; done) | (simp (disch := omega) [go_sem, *]; done) | simp (disch := omega) [go_sem]) (fun id hid => by simp only [wr_cons, wr_nil]; (by_cases hdd : id = d; (· (subst hdd; simp (disch := omega) [go_sem, *])); (· (by_cases hdd2 : id = r1; (· (subst hdd2; simp (disch := omega) [go_sem, *])); (· (simp (disch := omega) only [upd_ne]; try (first | exact hlow id hid hdd hdd2 | exact hlow id hid))))))) (by simp) (by simp (disch := omega) [go_sem, *])
end
end Go.Proofs.YtdmjpolnbmoehaaDoor

namespace Go.Proofs.YtdmjpolnbmoehaaDoor
open Go.Ab
attribute [local irreducible] Go.Ab.tyAV Go.Ab.aw Go.Ab.aops Go.Ab.kReg Go.Ab.aThen Go.Ab.aBlk Go.Ab.acond Go.Ab.aguard Go.Ab.astep Go.Ab.AStepX Go.Ab.aRet
def CaSm (c : Ca) : Prop := c.ticket.length ≤ 140737488351232 ∧ c.box.length ≤ 140737488351232

set_option maxHeartbeats 4000000 in
theorem refSame_cav (a b : List Ca) (ha : ∀ c ∈ a, CaSm c) (hb : ∀ c ∈ b, CaSm c) (hal : a.length ≤ 100000) (hbl : b.length ≤ 100000) (k : Nat) :
  ACall Tryd.prog 21 [.slice none (a.map caAV), .slice none (b.map caAV)] k [] (.lit (.bool (decide (a = b)))) [] := by
 by_cases hl : a.length = b.length
 ·refine Bd Tryd.func21 Tryd.ntmps21 fun σ N hp hpn hk hkn hfree => ?_
  refine Wk ?_
  refine go_loopF mixed (by kernel_rfl) (4 :: 5 :: 6 :: 7 :: 13 :: 14 :: 15 :: 16 :: 17 :: 18 :: 19 :: 20 :: 21 :: 22 :: 23 :: 24 :: 25 :: 26 :: 27 :: 28 :: 29 :: 30 :: 31 :: 32 :: 33 :: 34 :: 35 :: 36 :: 37 :: 38 :: 39 :: 40 :: 41 :: 42 :: 43 :: 44 :: 45 :: 46 :: 47 :: 48 :: 49 :: 50 :: 51 :: 52 :: 53 :: 54 :: 55 :: 56 :: 57 :: 58 :: 59 :: 60 :: 61 :: []) [] (fun m_ s_ σ_ n_ => ∃ (u : Nat), m_ = a.length - u ∧ s_ 5 = .lit (.int .i64 u) ∧ (u ≤ a.length) ∧ (a.take u = b.take u)) ⟨_, 0, rfl, WF, WC, WC⟩ ?_
  intro m_1 s_1 σ_1 n_1 hs_1 hf_1 hn_1 hI_1
  obtain ⟨u, hm_1, h1_5, hu, heq⟩ := hI_1
  have h1_0 := KS hs_1 0
  have h1_1 := KS hs_1 1
  have hlow := KL (N := N) (σ := σ) hf_1
  by_cases hul : u = a.length
  ·have : a = b := by
    rw [hul, List.take_length, hl, List.take_length] at heq; exact heq
   rw [decide_eq_true this]
   subst hul
   clear heq this
   exact W0
  ·have hui : u < a.length := by omega
   have hub : u < b.length := by omega
   obtain ⟨x, hx⟩ : ∃ x, a[u] = x := ⟨_, rfl⟩
   obtain ⟨y, hy⟩ : ∃ y, b[u] = y := ⟨_, rfl⟩
   obtain ⟨x1, x2⟩ := ha x (by rw [← hx]; exact List.getElem_mem hui)
   obtain ⟨y1, y2⟩ := hb y (by rw [← hy]; exact List.getElem_mem hub)
   have hne : ¬ x = y → a ≠ b := fun hxy e => hxy (by subst e; rw [← hx, ← hy])
   have heq2 : x = y → a.take (u + 1) = b.take (u + 1) := fun hxy => by
    rw [List.take_add_one, List.take_add_one, List.getElem?_eq_getElem hui, List.getElem?_eq_getElem hub, hx, hy, heq, hxy]
   have c1 := Same_spec x.ticket y.ticket (by omega)
   have c2 := Same_spec x.box y.box (by omega)
   clear heq ha hb
   by_cases h1 : x.third = y.third
   rotate_left
   ·rw [decide_eq_false (hne (fun e => h1 (by rw [e])))]
    have f1 : (x.third == y.third) = false := by simp [h1]
    clear c1 c2 hne heq2
    exact W0
   by_cases h2 : x.first = y.first
   rotate_left
   ·rw [decide_eq_false (hne (fun e => h2 (by rw [e])))]
    have f1 : (x.third == y.third) = true := by simp [h1]
    have f2 : decide (x.first = y.first) = false := decide_eq_false h2
    clear c1 c2 hne heq2
    exact W0
   by_cases h3 : x.party = y.party
   rotate_left
   ·rw [decide_eq_false (hne (fun e => h3 (by rw [e])))]
    have f1 : (x.third == y.third) = true := by simp [h1]
    have f2 : decide (x.first = y.first) = true := decide_eq_true h2
    have f3 : (x.party != y.party) = true := by simp [h3]
    clear c1 c2 hne heq2
    exact W0
   have f1 : (x.third == y.third) = true := by simp [h1]
   have f2 : decide (x.first = y.first) = true := decide_eq_true h2
   have f3 : (x.party != y.party) = false := by simp [h3]
   by_cases h4 : x.ticket = y.ticket
   rotate_left
   ·rw [decide_eq_false h4] at c1
    rw [decide_eq_false (hne (fun e => h4 (by rw [e])))]
    have hcs := And.intro c1 True.intro
    clear c1 c2 hne heq2
    exact W0
   rw [decide_eq_true h4] at c1
   by_cases h5 : x.box = y.box
   rotate_left
   ·rw [decide_eq_false h5] at c2
    rw [decide_eq_false (hne (fun e => h5 (by rw [e])))]
    have hcs := And.intro c1 (And.intro c2 True.intro)
    clear c1 c2 hne heq2
    exact W0
   rw [decide_eq_true h5] at c2
   have hxy : x = y := by
    obtain ⟨p1, p2, p3, p4, p5⟩ := x
    obtain ⟨q1, q2, q3, q4, q5⟩ := y
    simp only at h1 h2 h3 h4 h5
    rw [h1, h2, h3, h4, h5]
   have heq3 := heq2 hxy
   have hcs := And.intro c1 (And.intro c2 True.intro)
   clear c1 c2 hne heq2 hxy
   refine Wk ?_
   exact ⟨WS, WG, WN, _, (show a.length - (u + 1) < m_1 by omega), u + 1, rfl, WF, WC, WC⟩
 ·have hne : a ≠ b := fun e => hl (by rw [e])
  have hlb : ((a.length : Int) != (b.length : Int)) = true := by simp; omega
  rw [decide_eq_false hne]
  refine Bd Tryd.func21 Tryd.ntmps21 fun σ N hp hpn hk hkn hfree => ?_
  exact W0
def sizedB (b : List UInt8) : Bool := decide (1 ≤ b.length) && decide (b.length ≤ 1024)
theorem sized_spec (b : List UInt8) (k : Nat) : ACall Tryd.prog 134 [.slice none (b.map byteAV)] k [] (.lit (.bool (sizedB b))) [] := by
 unfold sizedB
 by_cases h : 1 ≤ b.length
 ·have hi : (1 : Int) ≤ (b.length : Int) := by omega
  rw [decide_eq_true h, Bool.true_and]
  by_cases h2 : b.length ≤ 1024
  ·have hi2 : (b.length : Int) ≤ 1024 := by omega
   rw [decide_eq_true h2]
   refine Bd Tryd.func134 Tryd.ntmps134 fun σ N hp hpn hk hkn hfree => ?_
   exact W0
  ·have hi2 : ¬ (b.length : Int) ≤ 1024 := by omega
   rw [decide_eq_false h2]
   refine Bd Tryd.func134 Tryd.ntmps134 fun σ N hp hpn hk hkn hfree => ?_
   exact W0
 ·have hi : ¬ (1 : Int) ≤ (b.length : Int) := by omega
  rw [decide_eq_false h, Bool.false_and]
  refine Bd Tryd.func134 Tryd.ntmps134 fun σ N hp hpn hk hkn hfree => ?_
  exact W0
def zeroPr : Pr := ⟨0, 0, 0, 0, [], 0⟩
def cavB (c : Ca) : Bool :=
 if c.third = false then predB c.first && (decide (c.party = 0) && (decide (c.ticket.length = 0) && decide (c.box.length = 0)))
 else decide (c.first = zeroPr) && (decide (0 ≤ c.party) && (decide (c.party ≤ 7) && (sizedB c.ticket && sizedB c.box)))
@[go_sem high] theorem ev_pr_eqz (a : Pr) :
  evBin Tryd.prog .eql 54 (prAV a) (.agg [.lit (.int .i64 0), .lit (.int .u64 0), .lit (.int .i64 0), .lit (.int .i64 0), .lit (.string ByteArray.empty), .lit (.int .i64 0)]) =
   some ⟨[], .lit (.bool (decide (a = zeroPr))), []⟩ := ev_pr_eq a zeroPr
set_option maxHeartbeats 4000000 in
theorem cavValid_spec (c : Ca) (hp0 : PrOk c.first) (d k : Nat) :
  ACall Tryd.prog 115 [caAV c] k [(d, bitsG)] (.lit (.bool (cavB c))) [] := by
 have c1 := predValid_spec c.first hp0 d
 have c2 := sized_spec c.ticket
 have c3 := sized_spec c.box
 unfold cavB
 cases ht : c.third with
 | false =>
  simp only [if_true]
  generalize predB c.first = b at *
  cases b <;> simp only [Bool.true_and, Bool.false_and]
  ·refine Bd Tryd.func115 Tryd.ntmps115 fun σ N hp hpn hk hkn hfree => ?_
   obtain ⟨hd, hdn⟩ := HD0 hp hpn; clear hp hpn
   have hcs := And.intro c1 True.intro
   clear c1 c2 c3
   exact W0
  ·by_cases g1 : c.party = 0
   ·have kg1 : (c.party == 0) = true := by simp [g1]
    by_cases g2 : c.ticket.length = 0
    ·have kg2 : ((c.ticket.length : Int) == 0) = true := by simp [g2]
     by_cases g3 : c.box.length = 0
     ·have kg3 : ((c.box.length : Int) == 0) = true := by simp [g3]
      simp only [decide_eq_true g1, decide_eq_true g2, decide_eq_true g3, Bool.true_and]
      refine Bd Tryd.func115 Tryd.ntmps115 fun σ N hp hpn hk hkn hfree => ?_
      obtain ⟨hd, hdn⟩ := HD0 hp hpn; clear hp hpn
      have hcs := And.intro c1 True.intro
      clear c1 c2 c3
      exact W0
     ·have kg3 : ((c.box.length : Int) == 0) = false := by rw [beq_eq_false_iff_ne]; omega
      simp only [decide_eq_true g1, decide_eq_true g2, decide_eq_false g3, Bool.true_and]
      refine Bd Tryd.func115 Tryd.ntmps115 fun σ N hp hpn hk hkn hfree => ?_
      obtain ⟨hd, hdn⟩ := HD0 hp hpn; clear hp hpn
      have hcs := And.intro c1 True.intro
      clear c1 c2 c3
      exact W0
    ·have kg2 : ((c.ticket.length : Int) == 0) = false := by rw [beq_eq_false_iff_ne]; omega
     simp only [decide_eq_true g1, decide_eq_false g2, Bool.true_and, Bool.false_and]
     refine Bd Tryd.func115 Tryd.ntmps115 fun σ N hp hpn hk hkn hfree => ?_
     obtain ⟨hd, hdn⟩ := HD0 hp hpn; clear hp hpn
     have hcs := And.intro c1 True.intro
     clear c1 c2 c3
     exact W0
   ·have kg1 : (c.party == 0) = false := by rw [beq_eq_false_iff_ne]; omega
    simp only [decide_eq_false g1, Bool.false_and]
    refine Bd Tryd.func115 Tryd.ntmps115 fun σ N hp hpn hk hkn hfree => ?_
    obtain ⟨hd, hdn⟩ := HD0 hp hpn; clear hp hpn
    have hcs := And.intro c1 True.intro
    clear c1 c2 c3
    exact W0
 | true =>
  simp only [Bool.true_eq_false, if_false]
  by_cases g1 : c.first = zeroPr
  ·by_cases g2 : 0 ≤ c.party
   ·by_cases g3 : c.party ≤ 7
    ·simp only [decide_eq_true g1, decide_eq_true g2, decide_eq_true g3, Bool.true_and]
     generalize sizedB c.ticket = s1 at *
     generalize sizedB c.box = s2 at *
     cases s1 <;> simp only [Bool.true_and, Bool.false_and]
     ·refine Bd Tryd.func115 Tryd.ntmps115 fun σ N hp hpn hk hkn hfree => ?_
      obtain ⟨hd, hdn⟩ := HD0 hp hpn; clear hp hpn
      have hcs := And.intro c2 True.intro
      clear c1 c2 c3
      exact W0
     ·refine Bd Tryd.func115 Tryd.ntmps115 fun σ N hp hpn hk hkn hfree => ?_
      obtain ⟨hd, hdn⟩ := HD0 hp hpn; clear hp hpn
      have hcs := And.intro c2 (And.intro c3 True.intro)
      clear c1 c2 c3
      exact W0
    ·simp only [decide_eq_true g1, decide_eq_true g2, decide_eq_false g3, Bool.true_and, Bool.false_and]
     refine Bd Tryd.func115 Tryd.ntmps115 fun σ N hp hpn hk hkn hfree => ?_
     obtain ⟨hd, hdn⟩ := HD0 hp hpn; clear hp hpn
     clear c1 c2 c3
     exact W0
   ·simp only [decide_eq_true g1, decide_eq_false g2, Bool.true_and, Bool.false_and]
    refine Bd Tryd.func115 Tryd.ntmps115 fun σ N hp hpn hk hkn hfree => ?_
    obtain ⟨hd, hdn⟩ := HD0 hp hpn; clear hp hpn
    clear c1 c2 c3
    exact W0
  ·simp only [decide_eq_false g1, Bool.false_and]
   refine Bd Tryd.func115 Tryd.ntmps115 fun σ N hp hpn hk hkn hfree => ?_
   obtain ⟨hd, hdn⟩ := HD0 hp hpn; clear hp hpn
   clear c1 c2 c3
   exact W0

def tagSt (l : List Int) (i : Nat) : Nat → Tg × Nat
 | 0 => (zeroTag, i)
 | u + 1 => (setT (tagSt l i u).1 (u * 9) (UInt8.ofNat (nextD l (tagSt l i u).2 256).1), (nextD l (tagSt l i u).2 256).2)
theorem tagSt_dk {l : List Int} {i : Nat} (h : Dk l i) : ∀ u, Dk l (tagSt l i u).2
 | 0 => h
 | u + 1 => nextD_dk 256 (tagSt_dk h u)
def tagD (l : List Int) (i : Nat) : Tg × Nat := tagSt l i 4
theorem tagD_dk {l : List Int} {i : Nat} (h : Dk l i) : Dk l (tagD l i).2 := tagSt_dk h 4
theorem Tag_spec (l : List Int) (i : Nat) (h : Dk l i) (d k : Nat) :
  ACall Tryd.prog 23 [.ptr d [] 0] k [(d, deckBox l i)] (tagAV (tagD l i).1) [(d, deckBox l (tagD l i).2)] := by
 refine Bd Tryd.func23 Tryd.ntmps23 fun σ N hp hpn hk hkn hfree => ?_
 have hd := hp _ (List.mem_singleton.2 rfl)
 have hdn := hpn _ (List.mem_singleton.2 rfl)
 simp only at hd hdn
 clear hp hpn
 refine Wg ?_
 refine go_loop (aloop mixed (by kernel_rfl) (fun c => ∃ (u : Nat), c.s 0 = .ptr d [] 0 ∧ c.s 4 = .lit (.int .i64 u) ∧ u ≤ 4 ∧ c.s 2 = .ptr N [] 0 ∧ c.σ N = .box 24 (tagAV zeroTag) ∧ c.s 3 = .ptr (N + 1) [] 0 ∧ c.σ (N + 1) = .box 24 (tagAV (tagSt l i u).1) ∧ c.σ d = deckBox l (tagSt l i u).2 ∧ N + 1 < c.n ∧ (∀ id, id < N → id ≠ d → c.σ id = σ id))
  (fun c => match c.s 4 with | .lit (.int _ m) => 4 - m.toNat | _ => 0) ⟨0, by simp (disch := omega) [go_sem, *, -List.reduceReplicate], by simp (disch := omega) [go_sem, *, -List.reduceReplicate], by omega, by simp (disch := omega) [go_sem, *, -List.reduceReplicate], by simp (disch := omega) [go_sem, *, -List.reduceReplicate], by simp (disch := omega) [go_sem, *, -List.reduceReplicate], by simp (disch := omega) [go_sem, *, -List.reduceReplicate]; rfl, by simp (disch := omega) [go_sem, *, -List.reduceReplicate]; rfl, by simp only; omega, (fun id hid hdd => by simp (disch := omega) only [upd_ne])⟩ ?_)
 rintro ⟨s, σ', n'⟩ ⟨u, h0, h4, hu, h2, hN, h3, hN1, hdk, hn', hlow⟩
 simp only at h0 h4 h2 hN h3 hN1 hdk hn' hlow
 by_cases hu4 : u = 4
 ·subst hu4
  unfold tagD
  generalize tagSt l i 4 = X at hN1 hdk ⊢
  obtain ⟨T, j⟩ := X
  simp only at hN1 hdk ⊢
  refine Wg ?_
  refine go_condF (by simp (disch := omega) [go_sem, *, -List.reduceReplicate]; try first | rfl | omega) ?_
  refine Wg ?_
  exact RW (d) (deckBox l j)
 ·have hj := tagSt_dk h u
  have hs1 : (tagSt l i (u + 1)).1 = setT (tagSt l i u).1 (u * 9) (UInt8.ofNat (nextD l (tagSt l i u).2 256).1) := rfl
  have hs2 : (tagSt l i (u + 1)).2 = (nextD l (tagSt l i u).2 256).2 := rfl
  generalize tagSt l i u = X at hj hs1 hs2 hN1 hdk
  obtain ⟨T, j⟩ := X
  simp only at hj hs1 hs2 hN1 hdk
  have c1 := Next_spec l j 256 hj (by omega) (by omega)
  have hl1 := nextD_lt l j 256 (by omega)
  generalize nextD l j 256 = X at c1 hl1 hs1 hs2
  obtain ⟨a, j2⟩ := X
  simp only at c1 hl1 hs1 hs2
  have hi1 : ((u : Int) * 9).toNat = u * 9 := by omega
  have hw : IntKind.u8.wrap (a : Int) = a := by rw [IntKind.wrap_u8]; omega
  have hi3 : u * 9 < 32 := by omega
  clear hj h
  refine Wg ?_
  refine go_condT (by simp (disch := omega) [go_sem, *, -List.reduceReplicate]; try first | rfl | omega) ?_
  refine Wg ?_
  refine go_callw (c1 _ _) (by simp (disch := omega) [go_sem, *, -List.reduceReplicate]; try rfl) (by simp (disch := omega) [go_sem, *, -List.reduceReplicate]; repeat' first | exact ALe.nil | exact AV.le_refl _ | exact AV.le_nils | exact AV.le_own _ _ | apply ALe.cons | apply AV.sub_agg) (by simp (disch := omega) [go_sem, *, -List.reduceReplicate]) ?_
  refine Wg ?_
  refine ⟨⟨u + 1, by simp (disch := omega) [go_sem, *, -List.reduceReplicate], by simp (disch := omega) [go_sem, *, -List.reduceReplicate], by omega, by simp (disch := omega) [go_sem, *, -List.reduceReplicate], by simp (disch := omega) [go_sem, *, -List.reduceReplicate], by simp (disch := omega) [go_sem, *, -List.reduceReplicate], by rw [hs1]; simp (disch := omega) [go_sem, *, -List.reduceReplicate], by rw [hs2]; simp (disch := omega) [go_sem, *, -List.reduceReplicate], by simp only; omega, (fun id hid hdd => by simp (disch := omega) only [upd_ne, wr_cons, wr_nil]; exact hlow id hid hdd)⟩, ?_⟩
  simp (disch := omega) [go_sem, *, -List.reduceReplicate]
  omega

structure Pe where
 name : List UInt8
 born : Int
def persAV (p : Pe) : AV := .agg [strAV p.name, .lit (.int .i64 p.born)]
@[go_sem] theorem persAV_mk (n : List UInt8) (b : Int) : persAV ⟨n, b⟩ = .agg [.lit (.string ⟨n.toArray⟩), .lit (.int .i64 b)] := rfl
@[go_sem] theorem persAV_sz (p : Pe) : (persAV p).sz = 2 := rfl
@[go_sem] theorem persAV_isAgg (p : Pe) : (persAV p).isAgg = true := rfl
@[go_sem] theorem persAV_cell (p : Pe) : (persAV p).cell = true := rfl
@[go_sem] theorem persAV_ren (f : Nat → Option Nat) (p : Pe) : (persAV p).ren f = persAV p := rfl
@[go_sem] theorem renl_pers (f : Nat → Option Nat) (l : List Pe) : AV.renl f (l.map persAV) = l.map persAV := by
 rw [AV.renl_map, List.map_map]; exact List.map_congr_left fun t _ => persAV_ren f t
@[go_sem] theorem all_pers1 (l : List Pe) : (l.map persAV).all (fun x => x.sz == 2) = true := by
 rw [List.all_eq_true]; intro x hx; obtain ⟨b, _, rfl⟩ := List.mem_map.1 hx; simp [persAV_sz]
@[go_sem] theorem all_pers2 (l : List Pe) : (l.map persAV).all (fun x => x.sz == 2 && x.cell) = true := by
 rw [List.all_eq_true]; intro x hx; obtain ⟨b, _, rfl⟩ := List.mem_map.1 hx; simp [persAV_sz, persAV_cell]
def names5 : List (List UInt8) := [[97, 110, 110], [98, 111, 98], [99, 105, 100], [122, 111, 101], [97]]
def persD (l : List Int) (nm : List (List UInt8)) : Nat → Nat → Nat → List Pe × Nat
 | 0, _, i => ([], i)
 | f + 1, u, i => if u < 1 + (nextD l i 5).1 then (⟨nm.getD u [], -((nextD l (nextD l i 5).2 100).1 : Int) * 365 * 1440⟩ :: (persD l nm f (u + 1) (nextD l (nextD l i 5).2 100).2).1, (persD l nm f (u + 1) (nextD l (nextD l i 5).2 100).2).2) else ([], (nextD l i 5).2)
theorem persD_dk {l : List Int} {nm : List (List UInt8)} : ∀ f u i, Dk l i → Dk l (persD l nm f u i).2
 | 0, _, _, h => h
 | f + 1, u, i, h => by
  unfold persD
  split
  ·exact persD_dk f _ _ (nextD_dk _ (nextD_dk _ h))
  ·exact nextD_dk _ h
theorem pers_core (l : List Int) (i : Nat) (h : Dk l i) (NM : List (List UInt8)) (hNM : NM.length = 5)
  (hL : [AV.lit (.string (ByteArray.mk #[97, 110, 110])), .lit (.string (ByteArray.mk #[98, 111, 98])), .lit (.string (ByteArray.mk #[99, 105, 100])), .lit (.string (ByteArray.mk #[122, 111, 101])), .lit (.string (ByteArray.mk #[97]))] = NM.map strAV) (d k : Nat) :
  ACall Tryd.prog 55 [.ptr d [] 0] k [(d, deckBox l i)] (.slice none ((persD l NM 5 0 i).1.map persAV)) [(d, deckBox l (persD l NM 5 0 i).2)] := by
 refine Bd Tryd.func55 Tryd.ntmps55 fun σ N hp hpn hk hkn hfree => ?_
 have hd := hp _ (List.mem_singleton.2 rfl)
 have hdn := hpn _ (List.mem_singleton.2 rfl)
 simp only at hd hdn
 clear hp hpn
 refine Wg ?_
 refine ALoop.nilrow 3 83 2 (by simp (disch := omega) [go_sem, *, -List.reduceReplicate]) ?_
 refine go_loop (aloop mixed (by kernel_rfl) (fun c => ∃ (u r f j : Nat) (o : Option Nat) (acc : List Pe), c.s 0 = .ptr d [] 0 ∧ c.s 5 = .lit (.int .i64 u) ∧ u + f = 5 ∧ c.s 4 = .slice o (NM.map strAV) ∧ c.s 3 = .slice (some r) (acc.map persAV) ∧ c.σ r = .row 83 2 acc.length ∧ acc.length = u ∧ N ≤ r ∧ r < c.n ∧ c.σ d = deckBox l j ∧ Dk l j ∧ acc ++ (persD l NM f u j).1 = (persD l NM 5 0 i).1 ∧ (persD l NM f u j).2 = (persD l NM 5 0 i).2 ∧ N ≤ c.n ∧ (∀ id, id < N → id ≠ d → c.σ id = σ id))
  (fun c => match c.s 5 with | .lit (.int _ m) => 5 - m.toNat | _ => 0) ⟨0, _, 5, i, _, [], by simp (disch := omega) [go_sem, *, -List.reduceReplicate], by simp (disch := omega) [go_sem, *, -List.reduceReplicate], by omega, by (simp (disch := omega) [go_sem, *]; try rfl), by simp (disch := omega) [go_sem, *, -List.reduceReplicate]; rfl, by simp (disch := omega) [go_sem, *, -List.reduceReplicate], rfl, by omega, by simp only; omega, by simp (disch := omega) [go_sem, *, -List.reduceReplicate], h, by simp, rfl, by simp only; omega, (fun id hid hdd => by simp (disch := omega) only [upd_ne])⟩ ?_)
 rintro ⟨s, σ', n'⟩ ⟨u, r, f, j, o, acc, h0, h5, huf, h4, h3, hr, hal, hNr, hrn, hdk, hj, hacc, hend, hn', hlow⟩
 simp only at h0 h5 h4 h3 hr hNr hrn hdk hn' hlow
 generalize persD l NM 5 0 i = R at hacc hend ⊢
 obtain ⟨R1, R2⟩ := R
 simp only at hacc hend ⊢
 clear hL h
 cases f with
 | zero =>
  have hu5 : u = 5 := by omega
  subst hu5
  simp only [persD, List.append_nil] at hacc hend
  subst hacc hend
  refine Wg ?_
  refine go_condF (by simp (disch := omega) [go_sem, *, -List.reduceReplicate]; try first | rfl | omega) ?_
  refine Wg ?_
  exact RV (d) (deckBox l j)
 | succ f =>
  have hu5 : u < 5 := by omega
  have c1 := Next_spec l j 5 hj (by omega) (by omega)
  have d1 := nextD_dk 5 hj
  have b1 := nextD_lt l j 5 (by omega)
  unfold persD at hacc hend
  generalize nextD l j 5 = X at c1 d1 b1 hacc hend
  obtain ⟨a, j1⟩ := X
  simp only at c1 d1 b1 hacc hend
  have hu5i : (u : Int) < 5 := by omega
  by_cases ha : u < 1 + a
  ·rw [if_pos ha] at hacc hend
   have c2 := Next_spec l j1 100 d1 (by omega) (by omega)
   have d2 := nextD_dk 100 d1
   have b2 := nextD_lt l j1 100 (by omega)
   generalize nextD l j1 100 = X at c2 d2 b2 hacc hend
   obtain ⟨b, j2⟩ := X
   simp only at c2 d2 b2 hacc hend
   obtain ⟨nm, hnm⟩ : ∃ x, NM[u]'(by omega) = x := ⟨_, rfl⟩
   have hgd : NM.getD u [] = nm := by rw [List.getD_eq_getElem?_getD, List.getElem?_eq_getElem (by omega), hnm]; rfl
   rw [hgd] at hacc
   have hnmv : strAV nm = .lit (.string ⟨nm.toArray⟩) := rfl
   have hne : ¬ r = d := by
    intro hh; subst hh; rw [hr] at hdk; cases hdk
   clear d1 hj
   have ha2 : (u : Int) < 1 + (a : Int) := by omega
   refine Wg ?_
   refine go_callw (c1 _ _) (by simp (disch := omega) [go_sem, *, -List.reduceReplicate]; try rfl) (by simp (disch := omega) [go_sem, *, -List.reduceReplicate]; repeat' first | exact ALe.nil | exact AV.le_refl _ | exact AV.le_nils | exact AV.le_own _ _ | apply ALe.cons | apply AV.sub_agg) (by simp (disch := omega) [go_sem, *, -List.reduceReplicate]) ?_
   refine Wg ?_
   refine go_condT (by simp (disch := omega) [go_sem, *, -List.reduceReplicate]; try first | rfl | omega) ?_
   refine Wg ?_
   refine go_callw (c2 _ _) (by simp (disch := omega) [go_sem, *, -List.reduceReplicate]; try rfl) (by simp (disch := omega) [go_sem, *, -List.reduceReplicate]; repeat' first | exact ALe.nil | exact AV.le_refl _ | exact AV.le_nils | exact AV.le_own _ _ | apply ALe.cons | apply AV.sub_agg) (by simp (disch := omega) [go_sem, *, -List.reduceReplicate]) ?_
   refine Wg ?_
   refine ⟨⟨u + 1, r, f, j2, o, acc ++ [⟨nm, -(b : Int) * 365 * 1440⟩], by simp (disch := omega) [go_sem, *, -List.reduceReplicate], by simp (disch := omega) [go_sem, *, -List.reduceReplicate], by omega, by simp (disch := omega) [go_sem, *, -List.reduceReplicate], by simp (disch := omega) [go_sem, *, -List.reduceReplicate], by simp (disch := omega) [go_sem, *, -List.reduceReplicate], by simp [hal], hNr, by simp only; omega, by simp (disch := omega) [go_sem, *, -List.reduceReplicate], d2, by rw [List.append_assoc]; exact hacc, hend, by simp only; omega, (fun id hid hdd => by simp (disch := omega) only [upd_ne, wr_cons, wr_nil]; exact hlow id hid hdd)⟩, ?_⟩
   simp (disch := omega) [go_sem, *, -List.reduceReplicate]
   omega
  ·rw [if_neg ha] at hacc hend
   simp only [List.append_nil] at hacc hend
   subst hacc hend
   have ha2 : ¬ (u : Int) < 1 + (a : Int) := by omega
   clear hj d1
   refine Wg ?_
   refine go_callw (c1 _ _) (by simp (disch := omega) [go_sem, *, -List.reduceReplicate]; try rfl) (by simp (disch := omega) [go_sem, *, -List.reduceReplicate]; repeat' first | exact ALe.nil | exact AV.le_refl _ | exact AV.le_nils | exact AV.le_own _ _ | apply ALe.cons | apply AV.sub_agg) (by simp (disch := omega) [go_sem, *, -List.reduceReplicate]) ?_
   refine Wg ?_
   refine go_condF (by simp (disch := omega) [go_sem, *, -List.reduceReplicate]; try first | rfl | omega) ?_
   refine Wg ?_
   exact RV (d) (deckBox l j1)
def personsD (l : List Int) (i : Nat) : List Pe × Nat := persD l names5 5 0 i
theorem Persons_spec (l : List Int) (i : Nat) (h : Dk l i) (d k : Nat) :
  ACall Tryd.prog 55 [.ptr d [] 0] k [(d, deckBox l i)] (.slice none ((personsD l i).1.map persAV)) [(d, deckBox l (personsD l i).2)] := pers_core l i h names5 rfl rfl d k
theorem personsD_dk {l : List Int} {i : Nat} (h : Dk l i) : Dk l (personsD l i).2 := persD_dk _ _ _ h
structure Co where
 party : Int
 key : Tg
 ps : List Pe
def concAV (c : Co) : AV := .agg [.lit (.int .i64 c.party), tagAV c.key, .slice none (c.ps.map persAV)]
@[go_sem] theorem concAV_mk (p : Int) (t : Tg) (l : List Pe) : concAV ⟨p, t, l⟩ = .agg [.lit (.int .i64 p), tagAV t, .slice none (l.map persAV)] := rfl
@[go_sem] theorem concAV_sz (c : Co) : (concAV c).sz = 34 := by simp [concAV, AV.sz, AV.szl, tagAV_sz]
@[go_sem] theorem concAV_isAgg (c : Co) : (concAV c).isAgg = true := rfl
@[go_sem] theorem concAV_cell (c : Co) : (concAV c).cell = true := by simp [concAV, AV.cell, AV.celll, tagAV_cell]
@[go_sem] theorem concAV_ren (f : Nat → Option Nat) (c : Co) : (concAV c).ren f = concAV c := by
 simp [concAV, AV.ren, AV.renl, tagAV_ren, renl_pers]
def concD (l : List Int) (i : Nat) (t : Tg) : Co × Nat := (⟨(nextD l i 8).1, t, (personsD l (nextD l i 8).2).1⟩, (personsD l (nextD l i 8).2).2)
theorem concD_dk {l : List Int} {i : Nat} {t : Tg} (h : Dk l i) : Dk l (concD l i t).2 := personsD_dk (nextD_dk _ h)
theorem Concession_spec (l : List Int) (i : Nat) (t : Tg) (h : Dk l i) (d k : Nat) :
  ACall Tryd.prog 22 [.ptr d [] 0, tagAV t] k [(d, deckBox l i)] (concAV (concD l i t).1) [(d, deckBox l (concD l i t).2)] := by
 have c1 := Next_spec l i 8 h (by omega) (by omega)
 have d1 := nextD_dk 8 h
 unfold concD
 generalize nextD l i 8 = X at c1 d1 ⊢
 obtain ⟨x, j⟩ := X
 simp only at c1 d1 ⊢
 have c2 := Persons_spec l j d1
 generalize personsD l j = X at c2 ⊢
 obtain ⟨ps, j2⟩ := X
 simp only at c2 ⊢
 clear h d1
 refine Bd Tryd.func22 Tryd.ntmps22 fun σ N hp hpn hk hkn hfree => ?_
 have hd := hp _ (List.mem_singleton.2 rfl)
 have hdn := hpn _ (List.mem_singleton.2 rfl)
 simp only at hd hdn
 clear hp hpn
 refine Wg ?_
 refine go_callw (c1 _ _) (by simp (disch := omega) [go_sem, *, -List.reduceReplicate]; try rfl) (by simp (disch := omega) [go_sem, *, -List.reduceReplicate]; repeat' first | exact ALe.nil | exact AV.le_refl _ | exact AV.le_nils | exact AV.le_own _ _ | apply ALe.cons | apply AV.sub_agg) (by simp (disch := omega) [go_sem, *, -List.reduceReplicate]) ?_
 refine Wg ?_
 refine go_callw (c2 _ _) (by simp (disch := omega) [go_sem, *, -List.reduceReplicate]; try rfl) (by simp (disch := omega) [go_sem, *, -List.reduceReplicate]; repeat' first | exact ALe.nil | exact AV.le_refl _ | exact AV.le_nils | exact AV.le_own _ _ | apply ALe.cons | apply AV.sub_agg) (by simp (disch := omega) [go_sem, *, -List.reduceReplicate]) ?_
 refine Wg ?_
 exact RW (d) (deckBox l j2)

structure Pa where
 epoch : Int
 serial : Int
 cavs : List Ca
 tag : Tg
def paAV (p : Pa) : AV := .agg [.lit (.int .i64 p.epoch), .lit (.int .i64 p.serial), .slice none (p.cavs.map caAV), tagAV p.tag]
@[go_sem] theorem paAV_sz (p : Pa) : (paAV p).sz = 35 := by simp only [paAV, AV.sz, AV.szl, tagAV_sz]
@[go_sem] theorem paAV_isAgg (p : Pa) : (paAV p).isAgg = true := rfl
@[go_sem] theorem paAV_cell (p : Pa) : (paAV p).cell = true := by simp only [paAV, AV.cell, AV.celll, Bool.and_self, tagAV_cell]
@[go_sem] theorem paAV_ren (f : Nat → Option Nat) (p : Pa) : (paAV p).ren f = paAV p := by simp only [paAV, AV.ren, AV.renl, Option.bind_none, renl_cas, tagAV_ren]
@[go_sem] theorem renl_pas (f : Nat → Option Nat) (l : List Pa) : AV.renl f (l.map paAV) = l.map paAV := by
 rw [AV.renl_map, List.map_map]; exact List.map_congr_left fun t _ => paAV_ren f t
@[go_sem] theorem all_pa1 (l : List Pa) : (l.map paAV).all (fun x => x.sz == 35) = true := by
 rw [List.all_eq_true]; intro x hx; obtain ⟨b, _, rfl⟩ := List.mem_map.1 hx; simp [paAV_sz]
@[go_sem] theorem all_pa2 (l : List Pa) : (l.map paAV).all (fun x => x.sz == 35 && x.cell) = true := by
 rw [List.all_eq_true]; intro x hx; obtain ⟨b, _, rfl⟩ := List.mem_map.1 hx; simp [paAV_sz, paAV_cell]
structure Te where
 least : Int
 most : Int
def teAV (p : Te) : AV := .agg [.lit (.int .i64 p.least), .lit (.int .i64 p.most)]
@[go_sem] theorem teAV_sz (p : Te) : (teAV p).sz = 2 := by simp only [teAV, AV.sz, AV.szl]
@[go_sem] theorem teAV_isAgg (p : Te) : (teAV p).isAgg = true := rfl
@[go_sem] theorem teAV_cell (p : Te) : (teAV p).cell = true := by simp only [teAV, AV.cell, AV.celll, Bool.and_self]
@[go_sem] theorem teAV_ren (f : Nat → Option Nat) (p : Te) : (teAV p).ren f = teAV p := by simp only [teAV, AV.ren, AV.renl]
@[go_sem] theorem renl_tes (f : Nat → Option Nat) (l : List Te) : AV.renl f (l.map teAV) = l.map teAV := by
 rw [AV.renl_map, List.map_map]; exact List.map_congr_left fun t _ => teAV_ren f t
@[go_sem] theorem all_te1 (l : List Te) : (l.map teAV).all (fun x => x.sz == 2) = true := by
 rw [List.all_eq_true]; intro x hx; obtain ⟨b, _, rfl⟩ := List.mem_map.1 hx; simp [teAV_sz]
@[go_sem] theorem all_te2 (l : List Te) : (l.map teAV).all (fun x => x.sz == 2 && x.cell) = true := by
 rw [List.all_eq_true]; intro x hx; obtain ⟨b, _, rfl⟩ := List.mem_map.1 hx; simp [teAV_sz, teAV_cell]
structure Bl where
 party : Int
 key : Tg
 ticket : List UInt8
def blAV (p : Bl) : AV := .agg [.lit (.int .i64 p.party), tagAV p.key, .slice none (p.ticket.map byteAV)]
@[go_sem] theorem blAV_sz (p : Bl) : (blAV p).sz = 34 := by simp only [blAV, AV.sz, AV.szl, tagAV_sz]
@[go_sem] theorem blAV_isAgg (p : Bl) : (blAV p).isAgg = true := rfl
@[go_sem] theorem blAV_cell (p : Bl) : (blAV p).cell = true := by simp only [blAV, AV.cell, AV.celll, Bool.and_self, tagAV_cell]
@[go_sem] theorem blAV_ren (f : Nat → Option Nat) (p : Bl) : (blAV p).ren f = blAV p := by simp only [blAV, AV.ren, AV.renl, Option.bind_none, renl_bytes, tagAV_ren]
@[go_sem] theorem renl_bls (f : Nat → Option Nat) (l : List Bl) : AV.renl f (l.map blAV) = l.map blAV := by
 rw [AV.renl_map, List.map_map]; exact List.map_congr_left fun t _ => blAV_ren f t
@[go_sem] theorem all_bl1 (l : List Bl) : (l.map blAV).all (fun x => x.sz == 34) = true := by
 rw [List.all_eq_true]; intro x hx; obtain ⟨b, _, rfl⟩ := List.mem_map.1 hx; simp [blAV_sz]
@[go_sem] theorem all_bl2 (l : List Bl) : (l.map blAV).all (fun x => x.sz == 34 && x.cell) = true := by
 rw [List.all_eq_true]; intro x hx; obtain ⟨b, _, rfl⟩ := List.mem_map.1 hx; simp [blAV_sz, blAV_cell]
structure Di where
 ticket : List UInt8
 conds : List Pr
 tag : Tg
def diAV (p : Di) : AV := .agg [.slice none (p.ticket.map byteAV), .slice none (p.conds.map prAV), tagAV p.tag]
@[go_sem] theorem diAV_sz (p : Di) : (diAV p).sz = 34 := by simp only [diAV, AV.sz, AV.szl, tagAV_sz]
@[go_sem] theorem diAV_isAgg (p : Di) : (diAV p).isAgg = true := rfl
@[go_sem] theorem diAV_cell (p : Di) : (diAV p).cell = true := by simp only [diAV, AV.cell, AV.celll, Bool.and_self, tagAV_cell]
@[go_sem] theorem diAV_ren (f : Nat → Option Nat) (p : Di) : (diAV p).ren f = diAV p := by simp only [diAV, AV.ren, AV.renl, Option.bind_none, renl_bytes, renl_prs, tagAV_ren]
@[go_sem] theorem renl_dis (f : Nat → Option Nat) (l : List Di) : AV.renl f (l.map diAV) = l.map diAV := by
 rw [AV.renl_map, List.map_map]; exact List.map_congr_left fun t _ => diAV_ren f t
@[go_sem] theorem all_di1 (l : List Di) : (l.map diAV).all (fun x => x.sz == 34) = true := by
 rw [List.all_eq_true]; intro x hx; obtain ⟨b, _, rfl⟩ := List.mem_map.1 hx; simp [diAV_sz]
@[go_sem] theorem all_di2 (l : List Di) : (l.map diAV).all (fun x => x.sz == 34 && x.cell) = true := by
 rw [List.all_eq_true]; intro x hx; obtain ⟨b, _, rfl⟩ := List.mem_map.1 hx; simp [diAV_sz, diAV_cell]
structure Rq where
 gate : Int
 nonce : Int
def rqAV (p : Rq) : AV := .agg [.lit (.int .i64 p.gate), .lit (.int .i64 p.nonce)]
@[go_sem] theorem rqAV_sz (p : Rq) : (rqAV p).sz = 2 := by simp only [rqAV, AV.sz, AV.szl]
@[go_sem] theorem rqAV_isAgg (p : Rq) : (rqAV p).isAgg = true := rfl
@[go_sem] theorem rqAV_cell (p : Rq) : (rqAV p).cell = true := by simp only [rqAV, AV.cell, AV.celll, Bool.and_self]
@[go_sem] theorem rqAV_ren (f : Nat → Option Nat) (p : Rq) : (rqAV p).ren f = rqAV p := by simp only [rqAV, AV.ren, AV.renl]
@[go_sem] theorem renl_rqs (f : Nat → Option Nat) (l : List Rq) : AV.renl f (l.map rqAV) = l.map rqAV := by
 rw [AV.renl_map, List.map_map]; exact List.map_congr_left fun t _ => rqAV_ren f t
@[go_sem] theorem all_rq1 (l : List Rq) : (l.map rqAV).all (fun x => x.sz == 2) = true := by
 rw [List.all_eq_true]; intro x hx; obtain ⟨b, _, rfl⟩ := List.mem_map.1 hx; simp [rqAV_sz]
@[go_sem] theorem all_rq2 (l : List Rq) : (l.map rqAV).all (fun x => x.sz == 2 && x.cell) = true := by
 rw [List.all_eq_true]; intro x hx; obtain ⟨b, _, rfl⟩ := List.mem_map.1 hx; simp [rqAV_sz, rqAV_cell]
structure Bo where
 ticket : List UInt8
 conds : List Pr
 proof : Tg
def boAV (p : Bo) : AV := .agg [.slice none (p.ticket.map byteAV), .slice none (p.conds.map prAV), tagAV p.proof]
@[go_sem] theorem boAV_sz (p : Bo) : (boAV p).sz = 34 := by simp only [boAV, AV.sz, AV.szl, tagAV_sz]
@[go_sem] theorem boAV_isAgg (p : Bo) : (boAV p).isAgg = true := rfl
@[go_sem] theorem boAV_cell (p : Bo) : (boAV p).cell = true := by simp only [boAV, AV.cell, AV.celll, Bool.and_self, tagAV_cell]
@[go_sem] theorem boAV_ren (f : Nat → Option Nat) (p : Bo) : (boAV p).ren f = boAV p := by simp only [boAV, AV.ren, AV.renl, Option.bind_none, renl_bytes, renl_prs, tagAV_ren]
@[go_sem] theorem renl_bos (f : Nat → Option Nat) (l : List Bo) : AV.renl f (l.map boAV) = l.map boAV := by
 rw [AV.renl_map, List.map_map]; exact List.map_congr_left fun t _ => boAV_ren f t
@[go_sem] theorem all_bo1 (l : List Bo) : (l.map boAV).all (fun x => x.sz == 34) = true := by
 rw [List.all_eq_true]; intro x hx; obtain ⟨b, _, rfl⟩ := List.mem_map.1 hx; simp [boAV_sz]
@[go_sem] theorem all_bo2 (l : List Bo) : (l.map boAV).all (fun x => x.sz == 34 && x.cell) = true := by
 rw [List.all_eq_true]; intro x hx; obtain ⟨b, _, rfl⟩ := List.mem_map.1 hx; simp [boAV_sz, boAV_cell]
structure Ep where
 num : Int
 key : Tg
def epAV (p : Ep) : AV := .agg [.lit (.int .i64 p.num), tagAV p.key]
@[go_sem] theorem epAV_sz (p : Ep) : (epAV p).sz = 33 := by simp only [epAV, AV.sz, AV.szl, tagAV_sz]
@[go_sem] theorem epAV_isAgg (p : Ep) : (epAV p).isAgg = true := rfl
@[go_sem] theorem epAV_cell (p : Ep) : (epAV p).cell = true := by simp only [epAV, AV.cell, AV.celll, Bool.and_self, tagAV_cell]
@[go_sem] theorem epAV_ren (f : Nat → Option Nat) (p : Ep) : (epAV p).ren f = epAV p := by simp only [epAV, AV.ren, AV.renl, tagAV_ren]
@[go_sem] theorem renl_eps (f : Nat → Option Nat) (l : List Ep) : AV.renl f (l.map epAV) = l.map epAV := by
 rw [AV.renl_map, List.map_map]; exact List.map_congr_left fun t _ => epAV_ren f t
@[go_sem] theorem all_ep1 (l : List Ep) : (l.map epAV).all (fun x => x.sz == 33) = true := by
 rw [List.all_eq_true]; intro x hx; obtain ⟨b, _, rfl⟩ := List.mem_map.1 hx; simp [epAV_sz]
@[go_sem] theorem all_ep2 (l : List Ep) : (l.map epAV).all (fun x => x.sz == 33 && x.cell) = true := by
 rw [List.all_eq_true]; intro x hx; obtain ⟨b, _, rfl⟩ := List.mem_map.1 hx; simp [epAV_sz, epAV_cell]
structure Rg where
 live : List Ep
 last : Int
def rgAV (p : Rg) : AV := .agg [.slice none (p.live.map epAV), .lit (.int .i64 p.last)]
@[go_sem] theorem rgAV_sz (p : Rg) : (rgAV p).sz = 2 := by simp only [rgAV, AV.sz, AV.szl]
@[go_sem] theorem rgAV_isAgg (p : Rg) : (rgAV p).isAgg = true := rfl
@[go_sem] theorem rgAV_cell (p : Rg) : (rgAV p).cell = true := by simp only [rgAV, AV.cell, AV.celll, Bool.and_self]
@[go_sem] theorem rgAV_ren (f : Nat → Option Nat) (p : Rg) : (rgAV p).ren f = rgAV p := by simp only [rgAV, AV.ren, AV.renl, Option.bind_none, renl_eps]
@[go_sem] theorem renl_rgs (f : Nat → Option Nat) (l : List Rg) : AV.renl f (l.map rgAV) = l.map rgAV := by
 rw [AV.renl_map, List.map_map]; exact List.map_congr_left fun t _ => rgAV_ren f t
@[go_sem] theorem all_rg1 (l : List Rg) : (l.map rgAV).all (fun x => x.sz == 2) = true := by
 rw [List.all_eq_true]; intro x hx; obtain ⟨b, _, rfl⟩ := List.mem_map.1 hx; simp [rgAV_sz]
@[go_sem] theorem all_rg2 (l : List Rg) : (l.map rgAV).all (fun x => x.sz == 2 && x.cell) = true := by
 rw [List.all_eq_true]; intro x hx; obtain ⟨b, _, rfl⟩ := List.mem_map.1 hx; simp [rgAV_sz, rgAV_cell]
structure Bu where
 req : Rq
 epoch : Int
 serial : Int
 cavs : List Ca
 proof : Tg
 dis : List Bo
def buAV (p : Bu) : AV := .agg [rqAV p.req, .lit (.int .i64 p.epoch), .lit (.int .i64 p.serial), .slice none (p.cavs.map caAV), tagAV p.proof, .slice none (p.dis.map boAV)]
@[go_sem] theorem buAV_sz (p : Bu) : (buAV p).sz = 38 := by simp only [buAV, AV.sz, AV.szl, rqAV_sz, tagAV_sz]
@[go_sem] theorem buAV_isAgg (p : Bu) : (buAV p).isAgg = true := rfl
@[go_sem] theorem buAV_cell (p : Bu) : (buAV p).cell = true := by simp only [buAV, AV.cell, AV.celll, Bool.and_self, rqAV_cell, tagAV_cell]
@[go_sem] theorem buAV_ren (f : Nat → Option Nat) (p : Bu) : (buAV p).ren f = buAV p := by simp only [buAV, AV.ren, AV.renl, Option.bind_none, renl_bos, renl_cas, rqAV_ren, tagAV_ren]
@[go_sem] theorem renl_bus (f : Nat → Option Nat) (l : List Bu) : AV.renl f (l.map buAV) = l.map buAV := by
 rw [AV.renl_map, List.map_map]; exact List.map_congr_left fun t _ => buAV_ren f t
@[go_sem] theorem all_bu1 (l : List Bu) : (l.map buAV).all (fun x => x.sz == 38) = true := by
 rw [List.all_eq_true]; intro x hx; obtain ⟨b, _, rfl⟩ := List.mem_map.1 hx; simp [buAV_sz]
@[go_sem] theorem all_bu2 (l : List Bu) : (l.map buAV).all (fun x => x.sz == 38 && x.cell) = true := by
 rw [List.all_eq_true]; intro x hx; obtain ⟨b, _, rfl⟩ := List.mem_map.1 hx; simp [buAV_sz, buAV_cell]
structure Sc where
 alg : Alg
 ring : Rg
 con : Co
 pass : Pa
 grants : List Di
 req : Rq
 holder : List UInt8
 minute : Int
def scAV (p : Sc) : AV := .agg [algAV p.alg, rgAV p.ring, concAV p.con, paAV p.pass, .slice none (p.grants.map diAV), rqAV p.req, .lit (.string ⟨p.holder.toArray⟩), .lit (.int .i64 p.minute)]
@[go_sem] theorem scAV_sz (p : Sc) : (scAV p).sz = 112 := by simp only [scAV, AV.sz, AV.szl, algAV_sz, concAV_sz, paAV_sz, rgAV_sz, rqAV_sz]
@[go_sem] theorem scAV_isAgg (p : Sc) : (scAV p).isAgg = true := rfl
@[go_sem] theorem scAV_cell (p : Sc) : (scAV p).cell = true := by simp only [scAV, AV.cell, AV.celll, Bool.and_self, algAV_cell, concAV_cell, paAV_cell, rgAV_cell, rqAV_cell]
@[go_sem] theorem scAV_ren (f : Nat → Option Nat) (p : Sc) : (scAV p).ren f = scAV p := by simp only [scAV, AV.ren, AV.renl, Option.bind_none, algAV_ren, concAV_ren, paAV_ren, renl_dis, rgAV_ren, rqAV_ren]
@[go_sem] theorem renl_scs (f : Nat → Option Nat) (l : List Sc) : AV.renl f (l.map scAV) = l.map scAV := by
 rw [AV.renl_map, List.map_map]; exact List.map_congr_left fun t _ => scAV_ren f t
@[go_sem] theorem all_sc1 (l : List Sc) : (l.map scAV).all (fun x => x.sz == 112) = true := by
 rw [List.all_eq_true]; intro x hx; obtain ⟨b, _, rfl⟩ := List.mem_map.1 hx; simp [scAV_sz]
@[go_sem] theorem all_sc2 (l : List Sc) : (l.map scAV).all (fun x => x.sz == 112 && x.cell) = true := by
 rw [List.all_eq_true]; intro x hx; obtain ⟨b, _, rfl⟩ := List.mem_map.1 hx; simp [scAV_sz, scAV_cell]
def pa0 : Pa := ⟨0, 0, [], zeroTag⟩
def bl0 : Bl := ⟨0, zeroTag, []⟩
def di0 : Di := ⟨[], [], zeroTag⟩
def te0 : Te := ⟨0, 0⟩
theorem bl0_eq : blAV bl0 = .agg [.lit (.int .i64 0), tagAV zeroTag, .slice none []] := rfl
theorem te0_eq : teAV te0 = .agg [.lit (.int .i64 0), .lit (.int .i64 0)] := rfl

theorem Eight_row (m : Int) (_m0 : 0 ≤ m) (_m1 : m < 18446744073709551616) (k : Nat) :
  ACall Tryd.prog 61 [.lit (.int .u64 m)] k [] (.slice (some k) ((eightB m).map byteAV)) [(k, .row 5 1 8)] := by
 have e7 := sh8_wrap m 56
 have e6 := sh8_wrap m 48
 have e5 := sh8_wrap m 40
 have e4 := sh8_wrap m 32
 have e3 := sh8_wrap m 24
 have e2 := sh8_wrap m 16
 have e1 := sh8_wrap m 8
 have e0 := sh8_wrap m 0
 simp only [Int.reducePow, Int.pow_zero, Int.fdiv_one] at e7 e6 e5 e4 e3 e2 e1 e0
 unfold eightB
 generalize sh8 m 56 = b7 at *
 generalize sh8 m 48 = b6 at *
 generalize sh8 m 40 = b5 at *
 generalize sh8 m 32 = b4 at *
 generalize sh8 m 24 = b3 at *
 generalize sh8 m 16 = b2 at *
 generalize sh8 m 8 = b1 at *
 generalize sh8 m 0 = b0 at *
 refine Bd Tryd.func61 Tryd.ntmps61 fun σ N hp hpn hk hkn hfree => ?_
 refine Wk ?_
 refine ALoop.nilrow 3 5 1 (by simp (disch := omega) [go_sem, *, -List.reduceReplicate]) ?_
 refine go_loopB (N) mixed (by kernel_rfl) [3, 4, 5, 6, 7, 8, 9, 10, 11, 12, 13, 14, 15, 16] [] (fun m_ s_ σ_ n_ => ∃ (u : Nat) (q : Nat) (acc : List UInt8), m_ = 8 - u ∧ s_ 4 = .lit (.int .i64 (56 - 8 * (u : Int))) ∧ s_ 3 = .slice (some q) (acc.map byteAV) ∧ σ_ (q) = .row 5 1 acc.length ∧ (u ≤ 8) ∧ (N ≤ q) ∧ (q < n_) ∧ (acc = [b7, b6, b5, b4, b3, b2, b1, b0].take u)) ⟨_, 0, _, [], rfl, WF, WF, WF, WC, WC, WC, WC⟩ ?_
 intro m_1 s_1 σ_1 n_1 hs_1 hf_1 hn_1 hI_1
 obtain ⟨u, q, acc, hm_1, h1_4, h1_3, e1_0, hu, hq, hqn, hacc⟩ := hI_1
 have h1_0 := KS hs_1 0
 have h1_2 := KS hs_1 2
 have hlow := KL (N := N) (σ := σ) hf_1
 have hb7 : byteAV b7 = .lit (.int .u8 b7.toNat) := rfl
 have hb6 : byteAV b6 = .lit (.int .u8 b6.toNat) := rfl
 have hb5 : byteAV b5 = .lit (.int .u8 b5.toNat) := rfl
 have hb4 : byteAV b4 = .lit (.int .u8 b4.toNat) := rfl
 have hb3 : byteAV b3 = .lit (.int .u8 b3.toNat) := rfl
 have hb2 : byteAV b2 = .lit (.int .u8 b2.toNat) := rfl
 have hb1 : byteAV b1 = .lit (.int .u8 b1.toNat) := rfl
 have hb0 : byteAV b0 = .lit (.int .u8 b0.toNat) := rfl
 have hcase : u = 0 ∨ u = 1 ∨ u = 2 ∨ u = 3 ∨ u = 4 ∨ u = 5 ∨ u = 6 ∨ u = 7 ∨ u = 8 := by omega
 rcases hcase with rfl | hcase
 ·simp only [List.take_zero] at hacc
  subst hacc
  refine Wk ?_
  exact ⟨WS, WG, WN, _, (show 8 - (1) < m_1 by omega), 1, q, [b7], rfl, WF, WF, WF, WC, WC, WC, WC⟩
 rcases hcase with rfl | hcase
 ·simp only [List.take_succ_cons, List.take_zero] at hacc
  subst hacc
  refine Wk ?_
  exact ⟨WS, WG, WN, _, (show 8 - (2) < m_1 by omega), 2, q, [b7, b6], rfl, WF, WF, WF, WC, WC, WC, WC⟩
 rcases hcase with rfl | hcase
 ·simp only [List.take_succ_cons, List.take_zero] at hacc
  subst hacc
  refine Wk ?_
  exact ⟨WS, WG, WN, _, (show 8 - (3) < m_1 by omega), 3, q, [b7, b6, b5], rfl, WF, WF, WF, WC, WC, WC, WC⟩
 rcases hcase with rfl | hcase
 ·simp only [List.take_succ_cons, List.take_zero] at hacc
  subst hacc
  refine Wk ?_
  exact ⟨WS, WG, WN, _, (show 8 - (4) < m_1 by omega), 4, q, [b7, b6, b5, b4], rfl, WF, WF, WF, WC, WC, WC, WC⟩
 rcases hcase with rfl | hcase
 ·simp only [List.take_succ_cons, List.take_zero] at hacc
  subst hacc
  refine Wk ?_
  exact ⟨WS, WG, WN, _, (show 8 - (5) < m_1 by omega), 5, q, [b7, b6, b5, b4, b3], rfl, WF, WF, WF, WC, WC, WC, WC⟩
 rcases hcase with rfl | hcase
 ·simp only [List.take_succ_cons, List.take_zero] at hacc
  subst hacc
  refine Wk ?_
  exact ⟨WS, WG, WN, _, (show 8 - (6) < m_1 by omega), 6, q, [b7, b6, b5, b4, b3, b2], rfl, WF, WF, WF, WC, WC, WC, WC⟩
 rcases hcase with rfl | hcase
 ·simp only [List.take_succ_cons, List.take_zero] at hacc
  subst hacc
  refine Wk ?_
  exact ⟨WS, WG, WN, _, (show 8 - (7) < m_1 by omega), 7, q, [b7, b6, b5, b4, b3, b2, b1], rfl, WF, WF, WF, WC, WC, WC, WC⟩
 rcases hcase with rfl | hcase
 ·simp only [List.take_succ_cons, List.take_zero] at hacc
  subst hacc
  refine Wk ?_
  exact ⟨WS, WG, WN, _, (show 8 - (8) < m_1 by omega), 8, q, [b7, b6, b5, b4, b3, b2, b1, b0], rfl, WF, WF, WF, WC, WC, WC, WC⟩
 subst hcase
 simp only [List.take_succ_cons, List.take_zero] at hacc
 subst hacc
 clear hb7 hb6 hb5 hb4 hb3 hb2 hb1 hb0
 refine Wk ?_
 refine go_result1 (r0 := q) (by simp (disch := omega) [go_sem, *, -List.reduceReplicate]; rfl) (by omega) (by simp (disch := omega) [go_sem]; try rfl) (fun id hid => by simp (disch := omega) only; try exact hlow id hid) (by simp (disch := omega) [go_sem, *, -List.reduceReplicate]; rfl) (by simp (disch := omega) [go_sem])
end Go.Proofs.YtdmjpolnbmoehaaDoor

namespace Go.Ab
open Go.RowKit
theorem go_fixBox {P : Program} {N : Nat} {b : Code} {Q : AExit → Cfg → Prop} {s : Slots} {σ : Nat → Ent} {n : Nat} (id : Nat) {bt : TypeId} {x : AV} (hσ : σ id = .box bt x) (h : aw P N b Q ⟨s, upd σ id (.fbox bt x), n⟩) : aw P N b Q ⟨s, σ, n⟩ :=
 go_ghost (fun W0 g a w hS => by
  obtain ⟨b0, v, hb0, _⟩ := hS.sim.box id bt x hσ
  obtain ⟨g', h1, h2, _⟩ := hS.sim.freeze hσ hb0
  exact ⟨g', h1, ⟨h2, hS.size, fun t => (hS.slots t).mono h1⟩⟩) h
section
variable {P : Program} {o : Oper} {s : Slots} {id : Nat}
theorem holds_slice_whole {t e : TypeId} {x : Operand} {i off n size : Nat} {path : List Nat} {bt : TypeId} {c : AV} {ys : List AV} (ho : o.op = .slice t x none none none) (ht : ptrArr P t = some (n, e, size)) (hx : aeval s x = .ptr i path off)
  (hy : c.get path = some (.agg ys)) (hoff : c.offs path = off) (hn : ys.length = n) (hsz : ys.all (fun y => y.sz == size) = true) (h4 : n ≤ maxLen) :
  OpHolds P o s id [(i, .box bt c)] (.clip ys) [(i, .fbox bt c)] := by
 refine ⟨fun p hp => by simp at hp; subst hp; simp, fun q hq => .inr ⟨_, List.mem_cons_self .., by simp at hq; subst hq; rfl⟩, fun W0 g σ N w a hS hr _ _ hp => ?_⟩
 have hx' := hr x (by simp [ho, Op.operands])
 rw [hx] at hx'
 generalize hv : a.eval x = v at hx'
 cases hx' with
 | ptr _ _ _ b hb =>
  have hbd := run_bounds (P := P) (a := a) (g := g) (s := s) (lo := none) (hi := none) (len := n) (l := 0) (h := n) rfl rfl (fun x hx => by cases hx) (fun x hx => by cases hx) (Nat.zero_le _) (Nat.le_refl _) false w
  have hrun := run_slice_arr (P := P) (b := b) (off := off) ht hbd
  have hexec : (execOp a.eval o).run P w = .ok (.value (.slice (some (if n = 0 then ⟨b, off, none⟩ else ⟨b, off + 0 * size, none⟩)) (n - 0) (n - 0))) w := by
   simp only [execOp, ho, Sem.run_bind, hv, Option.map_none]
   rw [show ((none : Option Operand).map a.eval) = none from rfl] at hrun
   simp only [hrun, Result.andThen_ok, Sem.run_pure]
  unfold runsTo
  rw [hexec]
  obtain ⟨g', hle, hS', v', hrep, hG⟩ := hS.freeze (hp (i, .box bt c) (by simp)) hb
  refine ⟨g', hle, hS', ?_⟩
  obtain ⟨u, hu, hub, huc⟩ := hrep.get hy
  cases hu with
  | agg _ vs hvl hvr =>
   refine .clip _ _ _ ?_
   have := arr_part (g := g') (b := b) (off := off) (l := 0) (h := n) (c := n - 0) hvl hvr (sizes_of hvl hvr hsz) (fun j q hq => by
    rw [hG, ← Array.getElem?_toList, ← hoff]
    exact huc j q (by simpa [Value.cells] using hq)) (Nat.zero_le _) (by omega) (by omega) (by omega) (if n = 0 then ⟨b, off, none⟩ else ⟨b, off + 0 * size, none⟩) (by
    by_cases h0 : n = 0
    ·exact .inl (by omega)
    ·exact .inr (by rw [if_neg h0]))
   rw [show (ys.take n).drop 0 = ys by rw [List.drop_zero, List.take_of_length_le (by omega)]] at this
   exact this
theorem OpHolds.ofClip {s2 : Slots} {x : Operand} {e : TypeId} {size m : Nat} {xs : List AV} {v : AV} (hx : aeval s x = .clip xs) (hx2 : aeval s2 x = .slice (some id) xs) (hxo : x ∈ o.op.operands) (hne : ∀ y ∈ o.op.operands, y ≠ x → aeval s2 y = aeval s y) (hsx : xs.all (fun x => x.sz == size) = true)
  (h : ∀ id', OpHolds P o s2 id' [(id, .row e size xs.length)] v [(id, .row e size m)]) : OpHolds P o s id [] v [(id, .row e size m)] := by
 refine ⟨fun p hp => (by cases hp), fun q hq => .inl (by simp at hq; subst hq; rfl), fun W0 g σ n w a hS hr hf hn _ => ?_⟩
 have h1 := hr x hxo
 rw [hx] at h1
 generalize hv : a.eval x = u at h1
 cases h1 with
 | clip _ A k hcl =>
  obtain ⟨g1, hle1, hS1, hrow1, hrep1⟩ := hS.ofClip (k := id) (e := e) (size := size) hf hn hcl hsx
  refine ((h n).2.2 W0 g1 _ (n + 1) w a (hS1.more (Nat.le_succ n)) (fun y hy => ?_) (by rw [upd_ne _ _ _ _ (by omega)]; exact hS.bound n (Nat.le_refl _)) (Nat.lt_succ_self n) (fun p hp => by simp at hp; subst hp; exact upd_same _ _ _)).mono ?_
  ·by_cases hyx : y = x
   ·subst hyx; rw [hx2, hv]; exact hrep1
   ·rw [hne y hy hyx]; exact (hr y hy).mono hle1
  ·rintro u w' ⟨g', hle, hS', hrep⟩
   refine ⟨g', hle1.trans hle, ?_, hrep⟩
   have e1 : wr (upd σ id (.row e size xs.length)) [(id, .row e size m)] = wr σ [(id, .row e size m)] := by
    simp only [wr_cons, wr_nil, upd_upd]
   rw [e1] at hS'
   refine ⟨hS'.below, hS'.imm, fun i hi => ?_, hS'.ents, hS'.sep, hS'.fresh⟩
   by_cases hin : i = n
   ·subst hin
    simp only [wr_cons, wr_nil]
    rw [upd_ne _ _ _ _ (by omega)]
    exact hS.bound i (Nat.le_refl _)
   ·exact hS'.bound i (by omega)
theorem holds_appendz_clip {t tn e : TypeId} {size bytes tx : Nat} {z : AV} {y : Operand} {xs : List AV} {k kn : IntKind} {m : Int} (ho : o.op = .call { callee := .builtin .append, args := #[.tmp tx, y], argTypes := #[t, tn] }) (ht : sliceTy P t = some e) (htn : intTy P tn = some kn) (hs : sizeIs P e size = true) (hb : bytesIs P e bytes = true)
  (hz : ztree P e = some z) (hzs : z.sz = size) (hzc : z.cell = true) (hpos : 0 < size) (hx : s tx = .clip xs) (hyx : y ≠ .tmp tx) (hy : aeval s y = .lit (.int k m)) (h0 : 0 ≤ m)
  (hsx : xs.all (fun x => x.sz == size) = true) (hbytes : (xs.length + m.toNat) * bytes ≤ 140737488355328) (hmx : xs.length + m.toNat ≤ 140737488355328) :
  OpHolds P o s id [] (.slice (some id) (xs ++ List.replicate m.toNat z)) [(id, .row e size (xs.length + m.toNat))] := by
 have hy2 : aeval (upd s tx (.slice (some id) xs)) y = aeval s y := aeval_sput (d := some tx) (fun e he => by cases he; exact hyx)
 refine OpHolds.ofClip (s2 := upd s tx (.slice (some id) xs)) (x := .tmp tx) hx (upd_same _ _ _) (by simp [ho, Op.operands, Call.operands]) (fun y' hy' hne => aeval_sput (d := some tx) (fun e he => by cases he; exact hne)) hsx fun id' => ?_
 exact holds_append_zeros ho ht htn hs hb hz hzs hzc hpos (upd_same _ _ _) (by rw [hy2]; exact hy) h0 hsx hbytes hmx
end
section
variable {P : Program} {ops : Array Oper} {m i : Nat} {r : List Oper} {T : Trace} {k : Cfg → Trace → Prop} {s : Slots} {σ : Nat → Ent} {n : Nat} {ty : TypeId} {pos : String} {after : Array Edge}
theorem go_sliceWhole {t : Tmp} {t' e : TypeId} {x : Operand} {id off len size : Nat} {path : List Nat} {bt : TypeId} {c : AV} {ys : List AV} (hx : aeval s x = .ptr id path off) (hσ : σ id = .box bt c) (ht : ptrArr P t' = some (len, e, size))
  (hy : c.get path = some (.agg ys)) (hoff : c.offs path = off) (hn : ys.length = len) (hsz : ys.all (fun y => y.sz == size) = true) (h4 : len ≤ maxLen)
  (h : aops P ops m r (i + 1) ((i, [(id, .box bt c)], [(id, .fbox bt c)]) :: T) k ⟨upd s t (.clip ys), upd σ id (.fbox bt c), n⟩) : aops P ops m (⟨some t, .slice t' x none none none, ty, pos, after, none⟩ :: r) i T k ⟨s, σ, n⟩ := by
 rw [aops_cons, wantedG_none, aguard_true]
 exact ⟨⟨[(id, .box bt c)], .clip ys, [(id, .fbox bt c)]⟩, ⟨holds_slice_whole rfl ht hx hy hoff hn hsz h4, fun p hp => by simp at hp; subst hp; exact hσ⟩, h⟩
theorem go_appendzC {t : Tmp} {t' tn e : TypeId} {size bytes tx : Nat} {z : AV} {y : Operand} {xs : List AV} {kk kn : IntKind} {q : Int} (hx : s tx = .clip xs) (hi : sliceInfo P t' = some (e, size, bytes, z)) (htn : intTy P tn = some kn) (hzc : z.cell = true) (hyx : y ≠ .tmp tx) (hy : aeval s y = .lit (.int kk q)) (h0 : 0 ≤ q)
  (hsx : xs.all (fun x => x.sz == size) = true) (hbytes : (xs.length + q.toNat) * bytes ≤ 140737488355328) (hmx : xs.length + q.toNat ≤ 140737488355328)
  (h : aops P ops m r (i + 1) ((i, [], [(m + i, .row e size (xs.length + q.toNat))]) :: T) k ⟨upd s t (.slice (some (m + i)) (xs ++ List.replicate q.toNat z)), upd σ (m + i) (.row e size (xs.length + q.toNat)), n⟩) :
  aops P ops m (⟨some t, .call { callee := .builtin .append, args := #[.tmp tx, y], argTypes := #[t', tn] }, ty, pos, after, none⟩ :: r) i T k ⟨s, σ, n⟩ := by
 obtain ⟨k1, k2, k3, k4, k5, k6⟩ := sliceInfo_sound hi
 rw [aops_cons, wantedG_none, aguard_true]
 exact ⟨⟨[], .slice (some (m + i)) (xs ++ List.replicate q.toNat z), [(m + i, .row e size (xs.length + q.toNat))]⟩, ⟨holds_appendz_clip rfl k1 htn k2 k3 k4 k5 hzc k6 hx hyx hy h0 hsx hbytes hmx, fun p hp => by cases hp⟩, h⟩
end
end Go.Ab

namespace Go.Proofs.YtdmjpolnbmoehaaDoor
open Go.Ab
attribute [local irreducible] Go.Ab.tyAV Go.Ab.aw Go.Ab.aops Go.Ab.kReg Go.Ab.aThen Go.Ab.aBlk Go.Ab.acond Go.Ab.aguard Go.Ab.astep Go.Ab.AStepX Go.Ab.aRet
attribute [local irreducible] shaG
theorem Word_spec (s b : List UInt8) (hs : s.length ≤ 100000) (hb : b.length ≤ 1000000) (k : Nat) :
  ACall Tryd.prog 64 [.lit (.string ⟨s.toArray⟩), .slice none (b.map byteAV)] k [] (.slice none ((s ++ b).map byteAV)) [] := by
 refine Bd Tryd.func64 Tryd.ntmps64 fun σ N hp hpn hk hkn hfree => ?_
 exact WM
section
variable {P E : List UInt8}
def mixN (P E : List UInt8) (i : Nat) : List UInt8 := P.take i ++ E.drop i
theorem mixN_len (h : P.length = E.length) (i : Nat) (hi : i ≤ E.length) : (mixN P E i).length = E.length := by
 unfold mixN; rw [List.length_append, List.length_take, List.length_drop]; omega
theorem mixN_0 : mixN P E 0 = E := by simp [mixN]
theorem mixN_all (h : P.length = E.length) : mixN P E E.length = P := by
 unfold mixN; rw [List.take_of_length_le (by omega), List.drop_of_length_le (by omega), List.append_nil]
theorem mixN_at (h : P.length = E.length) (i : Nat) (hi : i < E.length) : (mixN P E i)[i]? = E[i]? := by
 unfold mixN
 have hl : (P.take i).length = i := by rw [List.length_take]; omega
 rw [List.getElem?_append_right (by omega), hl, Nat.sub_self, List.getElem?_drop, Nat.add_zero]
theorem mixN_set (h : P.length = E.length) (i : Nat) (hi : i < P.length) : (mixN P E i).set i P[i] = mixN P E (i + 1) := by
 unfold mixN
 have hl : (P.take i).length = i := by rw [List.length_take]; omega
 rw [List.set_append_right _ _ (by omega), hl, Nat.sub_self, List.drop_eq_getElem_cons (by omega : i < E.length), List.set_cons_zero, List.take_succ_eq_append_getElem hi, List.append_assoc]
 rfl
end
section
variable [W : W32]
def kst (key : List UInt8) (nonce : Int) (q : Nat) : Tg := hmacT key ([115, 116, 114, 101, 97, 109] ++ (eightB nonce ++ eightB q))
def strmB (key : List UInt8) (nonce : Int) (b : List UInt8) : List UInt8 := (List.range b.length).map fun i => x8 (b.getD i 0) ((kst key nonce (i / 32)).1.getD (i % 32) 0)
theorem strmB_len (key : List UInt8) (nonce : Int) (b : List UInt8) : (strmB key nonce b).length = b.length := by simp [strmB]
theorem strmB_at (key : List UInt8) (nonce : Int) (b : List UInt8) (i : Nat) (hi : i < b.length) (h : i < (strmB key nonce b).length) (h2 : i % 32 < (kst key nonce (i / 32)).1.length) : (strmB key nonce b)[i] = x8 b[i] ((kst key nonce (i / 32)).1[i % 32]) := by
 have h3 : i % 32 < (kst key nonce (i / 32)).1.length := h2
 simp only [strmB, List.getElem_map, List.getElem_range, List.getD_eq_getElem?_getD, List.getElem?_eq_getElem hi, List.getElem?_eq_getElem h3, Option.getD_some]
set_option maxHeartbeats 2000000 in
theorem stream_spec (key : Tg) (nonce : Nat) (hn : nonce < 18446744073709551616) (b : List UInt8) (hb : b.length ≤ 100000) (k : Nat) :
  ACall Tryd.prog 62 [tagAV key, .lit (.int .u64 nonce), .slice none (b.map byteAV)] k [] (.slice none ((strmB key.1 nonce b).map byteAV)) [] := by
 have c1 := Eight_row (nonce : Int) (by omega) (by omega)
 have hP := strmB_len key.1 nonce b
 obtain ⟨E1, hE1⟩ : ∃ e, eightB (nonce : Int) = e := ⟨_, rfl⟩
 have hE1l : E1.length = 8 := by rw [← hE1]; rfl
 rw [hE1] at c1
 obtain ⟨ky, hky⟩ : ∃ ky, key = ky := ⟨_, rfl⟩
 have hs1 := tagAV_sz key
 have hs2 := tagAV_cell key
 have hat := strmB_at key.1 nonce b
 generalize hPP : strmB key.1 nonce b = P at *
 have hAt : ∀ i (hi : i < b.length), P[i]'(by omega) = x8 b[i] ((kst key.1 nonce (i / 32)).1[i % 32]'(by rw [(kst key.1 nonce (i / 32)).2]; omega)) := fun i hi => hat i hi _ _
 clear hat hPP hky
 obtain ⟨K, hK⟩ := key
 have hkA : tagAV ⟨K, hK⟩ = .agg (K.map byteAV) := rfl
 simp only [hkA] at hs1 hs2 hAt ⊢
 clear hkA
 have hs3 : AV.celll (K.map byteAV) = true := celll_bytes K
 have htk : (K.map byteAV).take 32 = K.map byteAV := List.take_of_length_le (by rw [List.length_map]; omega)
 have hm0 := @mixN_0 P b
 refine Bd Tryd.func62 Tryd.ntmps62 fun σ N hp hpn hk hkn hfree => ?_
 have M : Mut (N + 2) := ⟨⟩
 refine Wk ?_
 refine go_fixBox N (bt := 24) (x := .agg (K.map byteAV)) (by simp (disch := omega) [go_sem, *, -List.reduceReplicate]) ?_
 refine go_loopF mixed (by kernel_rfl) [8, 9, 13, 14, 15, 16, 17, 18, 19, 20, 21, 22, 23, 24, 25, 26, 27, 28, 29, 30, 31, 32, 33, 34, 35, 36, 37, 38, 39, 40] [N, N+2] (fun m_ s_ σ_ n_ => ∃ (i : Nat) (cur : List UInt8), m_ = b.length - i ∧ s_ 8 = .lit (.int .i64 i) ∧ s_ 7 = .ms (N + 2) 1 1 0 b.length ∧ σ_ (N) = .fbox 24 (.agg (K.map byteAV)) ∧ σ_ (N+2) = .mrow 1 5 1 (cur.map byteAV) ∧ (i ≤ b.length) ∧ (mixN P b i = cur)) ⟨_, 0, b, rfl, WF, WF, WF, WF, WC, WC⟩ ?_
 intro m_1 s_1 σ_1 n_1 hs_1 hf_1 hn_1 hI_1
 obtain ⟨i, cur, hm_1, h1_8, h1_7, e1_0, e1_1, hi, hc⟩ := hI_1
 have h1_1 := KS hs_1 1
 have h1_3 := KS hs_1 3
 have h1_6 := KS hs_1 6
 have h1_7 := KS hs_1 7
 have hlow := KL (N := N) (σ := σ) hf_1
 clear hm0
 have hcl := mixN_len hP i hi
 rw [hc] at hcl
 by_cases hil : i = b.length
 ·subst hil
  rw [mixN_all hP] at hc
  subst hc
  clear M hAt
  refine Wm ?_
  iterate 1 refine Wz ?_
  refine go_freeze 7 (id := N + 2) (ver := 1) (size := 1) (e := 5) (xs := P.map byteAV) (k := b.length) (by simp (disch := omega) [go_sem, *, -List.reduceReplicate]) (by simp (disch := omega) [go_sem, *, -List.reduceReplicate]) (by simp (disch := omega) [go_sem, *, -List.reduceReplicate]) ?_
  exact WM
 ·have hi2 : i < b.length := by omega
  have hi2i : (i : Int) < (b.length : Int) := by omega
  have ha0 := mixN_at hP i hi2
  have hs := mixN_set hP i (by omega)
  have hA := hAt i hi2
  rw [hc] at ha0 hs
  have hic : i < cur.length := by omega
  rw [List.getElem?_eq_getElem hic, List.getElem?_eq_getElem hi2] at ha0
  injection ha0 with ha
  have c2 := Eight_spec ((i / 32 : Nat) : Int) (by omega) (by omega)
  have hkt : kst K nonce (i / 32) = hmacT K ([115, 116, 114, 101, 97, 109] ++ (eightB nonce ++ eightB ((i / 32 : Nat) : Int))) := rfl
  have hE2l := eightB_len ((i / 32 : Nat) : Int)
  rw [hE1] at hkt
  generalize eightB ((i / 32 : Nat) : Int) = E2 at *
  have c3 := Word_spec [115, 116, 114, 101, 97, 109] (E1 ++ E2) (by decide) (by simp; omega)
  have c4 := Hmac_spec K ([115, 116, 114, 101, 97, 109] ++ (E1 ++ E2)) (by omega) (by simp; omega)
  rw [← hkt] at c4
  generalize kst K nonce (i / 32) = T at *
  generalize [115, 116, 114, 101, 97, 109] ++ (E1 ++ E2) = Wd at *
  have hq : (i : Int).tdiv 32 = ((i / 32 : Nat) : Int) := by rw [Int.tdiv_eq_ediv_of_nonneg (by omega)]; omega
  have hr : (i : Int).tmod 32 = ((i % 32 : Nat) : Int) := by rw [Int.tmod_eq_emod_of_nonneg (by omega)]; omega
  have hr32 : i % 32 < 32 := Nat.mod_lt _ (by decide)
  have hq32 : i / 32 ≤ 100000 := by omega
  clear hkt
  obtain ⟨y, hy⟩ : ∃ y, T.1[i % 32]'(by rw [T.2]; exact hr32) = y := ⟨_, rfl⟩
  obtain ⟨z, hz⟩ : ∃ z, b[i] = z := ⟨_, rfl⟩
  rw [hy, hz] at hA
  rw [hz] at ha
  have hx := x8_eq z y
  have hset := set_bytes cur i (x8 z y)
  rw [← hA, hs, hA] at hset
  generalize x8 z y = v at *
  have hyb : byteAV y = .lit (.int .u8 y.toNat) := rfl
  have hzb : byteAV z = .lit (.int .u8 z.toNat) := rfl
  have hvb : byteAV v = .lit (.int .u8 v.toNat) := rfl
  rw [hvb] at hset
  generalize hc' : mixN P b (i + 1) = cn at *
  generalize i / 32 = iq at *
  generalize hir : i % 32 = ir at *
  have hcs := And.intro c1 (And.intro c2 (And.intro c3 (And.intro c4 True.intro)))
  clear c1 c2 c3 c4 hs hc M hAt hz hA hir
  refine Wk ?_
  exact ⟨WS, WG, WN, _, (show b.length - (i + 1) < m_1 by omega), i + 1, cn, rfl, WF, WF, WF, WF, WC, WC⟩
end

def boxL (key : Tg) (nonce : Int) (plain : List UInt8) : List BoxE → Option (List UInt8)
 | [] => none
 | e :: r => if e.key = key ∧ e.nonce = nonce ∧ e.plain = plain then some e.box else boxL key nonce plain r
def skAV (r : Alg × List UInt8 × Nat) : AV := .tup [algAV r.1, .slice none (r.2.1.map byteAV), .lit (.int .i64 (r.2.2 : Nat))]
theorem snocB {K plain box : List UInt8} {nonce : Int} (L : List BoxE) (hK : K.length = 32) (a b c : Option Nat) : AV.le (.slice a (L.map sealAV ++ [.agg [.agg (K.map byteAV), .lit (.int .i64 nonce), .slice b (plain.map byteAV), .slice c (box.map byteAV)]])) (.slice none ((L ++ [(⟨⟨K, hK⟩, nonce, plain, box⟩ : BoxE)]).map sealAV)) := fun g v h => by
 rw [List.map_append]
 exact AV.le_own _ _ g v (AV.le_sliceS a (ALe.snoc (AV.sub_agg (.cons (AV.le_refl _) (.cons (AV.le_refl _) (.cons (AV.le_own b _) (.cons (AV.le_own c _) .nil)))))) g v h)
section
variable [W : W32]
def sealB (key : List UInt8) (nonce : Int) (plain : List UInt8) : List UInt8 :=
 (eightB nonce ++ strmB key nonce plain) ++ (hmacT key ([98, 111, 120] ++ (eightB nonce ++ strmB key nonce plain))).1
def sealN (a : Alg) (key : Tg) (nonce : Int) (plain : List UInt8) : List UInt8 :=
 if a.free then (symT 98 (a.boxes.length + 1)).1 ++ List.replicate (plain.length + 8) 0 else sealB key.1 nonce plain
def sealS (a : Alg) (key : Tg) (nonce : Int) (plain : List UInt8) : Alg × List UInt8 × Nat :=
 if nonce < 0 ∨ 281474976710656 < nonce then (alg0, [], 1) else if 256 < plain.length then (alg0, [], 2) else match boxL key nonce plain a.boxes with
  | some b => (a, b, 0)
  | none => if 65536 ≤ a.boxes.length then (alg0, [], 2) else ({ a with boxes := a.boxes ++ [⟨key, nonce, plain, sealN a key nonce plain⟩] }, sealN a key nonce plain, 0)
theorem Seal_bad (a : Alg) (key : Tg) (nonce : Int) (plain : List UInt8) (h : (nonce < 0 ∨ 281474976710656 < nonce) ∨ 256 < plain.length) (k : Nat) :
  ACall Tryd.prog 31 [algAV a, tagAV key, .lit (.int .i64 nonce), .slice none (plain.map byteAV)] k [] (skAV (sealS a key nonce plain)) [] := by
 unfold sealS
 by_cases h1 : nonce < 0 ∨ 281474976710656 < nonce
 ·rw [if_pos h1]
  unfold skAV
  simp only [alg0_eq, List.map_nil]
  rcases h1 with h1 | h1
  ·refine Bd Tryd.func31 Tryd.ntmps31 fun σ N hp hpn hk hkn hfree => ?_
   exact WT
  ·have h2 : ¬ nonce < 0 := by omega
   refine Bd Tryd.func31 Tryd.ntmps31 fun σ N hp hpn hk hkn hfree => ?_
   exact WT
 ·rw [if_neg h1]
  have h3 : 256 < plain.length := h.resolve_left h1
  rw [if_pos h3]
  have h2 : ¬ nonce < 0 := by omega
  have h4 : ¬ 281474976710656 < nonce := by omega
  have h5 : (256 : Int) < plain.length := by omega
  unfold skAV
  simp only [alg0_eq, List.map_nil]
  clear h h1
  refine Bd Tryd.func31 Tryd.ntmps31 fun σ N hp hpn hk hkn hfree => ?_
  exact WT
set_option maxHeartbeats 4000000 in
theorem Seal_ok (a : Alg) (key : Tg) (nn : Nat) (plain : List UInt8) (hn : nn ≤ 281474976710656) (hp : plain.length ≤ 256) (hl : a.boxes.length ≤ 1000000) (hm : ∀ e ∈ a.boxes, e.plain.length ≤ 100000 ∧ e.box.length ≤ 100000) (k : Nat) :
  ACall Tryd.prog 31 [algAV a, tagAV key, .lit (.int .i64 nn), .slice none (plain.map byteAV)] k [] (skAV (sealS a key nn plain)) [] := by
 unfold sealS
 rw [if_neg (by omega), if_neg (by omega)]
 obtain ⟨fr, sd, fs, L, B⟩ := a
 simp only at hl hm ⊢
 have g1 : ¬ (nn : Int) < 0 := by omega
 have g2 : ¬ (281474976710656 : Int) < (nn : Int) := by omega
 have g3 : ¬ (256 : Int) < (plain.length : Int) := by omega
 generalize hR : boxL key nn plain B = R
 refine Bd Tryd.func31 Tryd.ntmps31 fun σ N hp hpn hk hkn hfree => ?_
 refine Wk ?_
 refine go_loopF mixed (by kernel_rfl) [9, 10, 11, 12, 27, 28, 29, 30, 31, 32, 33, 34, 35, 36, 37, 38, 39, 40, 41, 42, 43, 44, 45, 46, 47, 48, 49, 50, 51, 52, 53, 54, 55, 56, 57, 58, 59] [N, N+1, N+2] (fun m_ s_ σ_ n_ => ∃ (u : Nat), m_ = B.length - u ∧ s_ 11 = .lit (.int .i64 u) ∧ σ_ (N) = .box 30 (algAV ⟨fr, sd, fs, L, B⟩) ∧ σ_ (N+1) = .box 24 (tagAV key) ∧ σ_ (N+2) = .box 30 (.agg [.lit (.bool false), tagAV zeroTag, .lit (.int .i64 0), .nils, .nils]) ∧ (u ≤ B.length) ∧ (boxL key nn plain (B.drop u) = R)) ⟨_, 0, rfl, WF, WF, WF, WF, WC, WC⟩ ?_
 intro m_1 s_1 σ_1 n_1 hs_1 hf_1 hn_1 hI_1
 obtain ⟨u, hm_1, h1_11, e1_0, e1_1, e1_2, hu, hd⟩ := hI_1
 have h1_2 := KS hs_1 2
 have h1_3 := KS hs_1 3
 have h1_4 := KS hs_1 4
 have h1_5 := KS hs_1 5
 have h1_8 := KS hs_1 8
 have hlow := KL (N := N) (σ := σ) hf_1
 have haA : algAV ⟨fr, sd, fs, L, B⟩ = .agg [.lit (.bool fr), tagAV sd, .lit (.int .i64 fs), .slice none (L.map macAV), .slice none (B.map sealAV)] := rfl
 rw [haA] at e1_0
 by_cases hul : u = B.length
 ·subst hul
  rw [List.drop_length] at hd
  simp only [boxL] at hd
  subst hd
  clear hR hm
  by_cases hf : 65536 ≤ B.length
  ·have hfi : (65536 : Int) ≤ (B.length : Int) := by omega
   simp only [if_pos hf]
   unfold skAV
   simp only [alg0_eq, List.map_nil]
   exact WT
  ·have hfi : ¬ (65536 : Int) ≤ (B.length : Int) := by omega
   simp only [if_neg hf]
   have hb : (B.length + 1) * 88 ≤ 140737488355328 := by omega
   have hb0 : B.length * 88 ≤ 140737488355328 := by omega
   have hb1 : B.length ≤ 140737488355327 := by omega
   have hs1 := tagAV_sz key
   have hs2 := tagAV_cell key
   unfold skAV sealN
   cases fr with
   | false =>
    simp only [Bool.false_eq_true, if_false]
    have c1 := Eight_row (nn : Int) (by omega) (by omega)
    have c2 := stream_spec key nn (by omega) plain (by omega)
    have hE := eightB_len (nn : Int)
    have hS := strmB_len key.1 (nn : Int) plain
    unfold sealB
    obtain ⟨K, hK⟩ := key
    simp only at c2 hS ⊢
    generalize eightB (nn : Int) = E at *
    generalize strmB K (nn : Int) plain = S at *
    obtain ⟨b0, hb0'⟩ : ∃ b0, E ++ S = b0 := ⟨_, rfl⟩
    have hbm : E.map byteAV ++ S.map byteAV = b0.map byteAV := by rw [← hb0', List.map_append]
    have hbl : b0.length = 8 + plain.length := by rw [← hb0', List.length_append]; omega
    rw [hb0']
    have c3 := Word_spec [98, 111, 120] b0 (by decide) (by omega)
    have c4 := Hmac_spec K ([98, 111, 120] ++ b0) (by omega) (by simp; omega)
    generalize hmacT K ([98, 111, 120] ++ b0) = T at *
    generalize [98, 111, 120] ++ b0 = Wd at *
    have ht1 := tagAV_sz T
    have ht2 := tagAV_cell T
    obtain ⟨T, hT⟩ := T
    have hkA : tagAV ⟨K, hK⟩ = .agg (K.map byteAV) := rfl
    have htA : tagAV ⟨T, hT⟩ = .agg (T.map byteAV) := rfl
    rw [htA] at c4 ht1 ht2
    rw [hkA] at c2 hs1 hs2 e1_1
    clear hkA htA
    have hs3 : AV.celll (K.map byteAV) = true := celll_bytes K
    have htk : (K.map byteAV).take 32 = K.map byteAV := List.take_of_length_le (by rw [List.length_map]; omega)
    have htk2 : (T.map byteAV).take 32 = T.map byteAV := List.take_of_length_le (by rw [List.length_map]; omega)
    obtain ⟨bb, hbb⟩ : ∃ bb, b0 ++ T = bb := ⟨_, rfl⟩
    have hbbm : b0.map byteAV ++ T.map byteAV = bb.map byteAV := by rw [← hbb, List.map_append]
    have hbbl : b0.length + T.length = bb.length := by rw [← hbb, List.length_append]
    have hbb2 : bb.length ≤ 1000 := by omega
    rw [hbb]
    have hcs := And.intro c1 (And.intro c2 (And.intro c3 (And.intro c4 True.intro)))
    clear c1 c2 c3 c4 hbb hb0'
    refine Wm ?_
    iterate 8 refine Wz ?_
    refine go_lessIn N [4] (.slice none ((B ++ [(⟨⟨K, hK⟩, nn, plain, bb⟩ : BoxE)]).map sealAV)) (bt := 30) (c := .agg [.lit (.bool false), tagAV sd, .lit (.int .i64 fs), .slice none (L.map macAV), .slice (some (n_1 + 32)) (B.map sealAV ++ [.agg [.agg (K.map byteAV), .lit (.int .i64 nn), .slice (some (n_1 + 32 + 6)) (plain.map byteAV), .slice (some (n_1 + 12 + 2)) (bb.map byteAV)]])]) (by simp (disch := omega) [go_sem, *, -List.reduceReplicate]) rfl (snocB B hK _ _ _) rfl rfl ?_
    simp only [algAV]
    exact WT
   | true =>
    simp only [if_true]
    have c1 := Symbol_spec 98 (B.length + 1) (by omega)
    have e98 : ((98 : UInt8).toNat : Int) = 98 := rfl
    have hn1 : ((B.length + 1 : Nat) : Int) = (B.length : Int) + 1 := by omega
    rw [e98, hn1] at c1
    clear e98 hn1
    generalize symT 98 ((B.length : Int) + 1) = T at *
    have ht1 := tagAV_sz T
    have ht2 := tagAV_cell T
    obtain ⟨T, hT⟩ := T
    obtain ⟨K, hK⟩ := key
    have hkA : tagAV ⟨K, hK⟩ = .agg (K.map byteAV) := rfl
    have htA : tagAV ⟨T, hT⟩ = .agg (T.map byteAV) := rfl
    rw [htA] at c1 ht1 ht2
    rw [hkA] at hs1 hs2 e1_1
    clear hkA htA
    simp only
    have hs3 : AV.celll (K.map byteAV) = true := celll_bytes K
    obtain ⟨bb, hbb⟩ : ∃ bb, T ++ List.replicate (plain.length + 8) 0 = bb := ⟨_, rfl⟩
    have hbbm : T.map byteAV ++ List.replicate ((plain.length : Int) + 8).toNat (AV.lit (.int .u8 0)) = bb.map byteAV := by
     rw [← hbb, List.map_append, List.map_replicate, show ((plain.length : Int) + 8).toNat = plain.length + 8 by omega]; rfl
    have hbb2 : bb.length ≤ 1000 := by rw [← hbb, List.length_append, List.length_replicate]; omega
    have hbbl : 32 + ((plain.length : Int) + 8).toNat = bb.length := by rw [← hbb, List.length_append, List.length_replicate, hT]; omega
    rw [hbb]
    have hcs := And.intro c1 True.intro
    clear c1 hbb
    refine Wm ?_
    iterate 5 refine Wz ?_
    (apply go_region; (· (simp only [List.length_cons, List.length_nil, Nat.reduceAdd, Nat.add_assoc]; rfl)))
    refine go_sliceWhole (id := n_1 + 12 + 5) (path := []) (off := 0) (bt := 24) (c := .agg (T.map byteAV)) (ys := T.map byteAV) (by simp (disch := omega) [go_sem, *, -List.reduceReplicate]) (by simp (disch := omega) [go_sem, *, -List.reduceReplicate]) pa24 rfl rfl (by rw [List.length_map]; exact hT) (bytes_all1 T) (by unfold maxLen; omega) ?_
    refine Wm ?_
    refine go_appendzC (xs := T.map byteAV) (q := (plain.length : Int) + 8) (by simp (disch := omega) [go_sem, *, -List.reduceReplicate]) si55 it3 rfl (by simp) (by simp (disch := omega) [go_sem, *, -List.reduceReplicate]; try rfl) (by omega) (bytes_all1 T) (by rw [List.length_map, hT, hbbl]; omega) (by rw [List.length_map, hT, hbbl]; omega) ?_
    rw [hbbm, List.length_map, hT, hbbl]
    refine Wm ?_
    iterate 1 refine Wz ?_
    refine go_lessIn N [4] (.slice none ((B ++ [(⟨⟨K, hK⟩, nn, plain, bb⟩ : BoxE)]).map sealAV)) (bt := 30) (c := .agg [.lit (.bool true), tagAV sd, .lit (.int .i64 fs), .slice none (L.map macAV), .slice (some (n_1 + 25)) (B.map sealAV ++ [.agg [.agg (K.map byteAV), .lit (.int .i64 nn), .slice (some (n_1 + 25 + 6)) (plain.map byteAV), .slice (some (n_1 + 19 + 4)) (bb.map byteAV)]])]) (by simp (disch := omega) [go_sem, *, -List.reduceReplicate]) rfl (snocB B hK _ _ _) rfl rfl ?_
    simp only [algAV]
    exact WT
 ·have hu1 : u < B.length := by omega
  rw [List.drop_eq_getElem_cons hu1, boxL] at hd
  have hmz := hm _ (List.getElem_mem hu1)
  obtain ⟨z, hz⟩ : ∃ z, B[u] = z := ⟨_, rfl⟩
  rw [hz] at hd hmz
  obtain ⟨zk, zn, zp, zb⟩ := z
  simp only at hd hmz
  have hzd : sealAV ⟨zk, zn, zp, zb⟩ = .agg [tagAV zk, .lit (.int .i64 zn), bAV zp, bAV zb] := rfl
  have hzb := bAV_def zp
  have hzb2 := bAV_def zb
  obtain ⟨hmz1, hmz2⟩ := hmz
  have c1 := Same_spec zp plain (by omega)
  clear hR hm
  by_cases h1 : zk = key
  ·by_cases h2 : zn = nn
   ·by_cases h3 : zp = plain
    ·rw [if_pos ⟨h1, h2, h3⟩] at hd
     subst hd
     rw [decide_eq_true h3] at c1
     have hcs := And.intro c1 True.intro
     clear c1
     subst h1
     subst h2
     subst h3
     unfold skAV
     simp only [haA]
     exact WT
    ·rw [if_neg (fun h => h3 h.2.2)] at hd
     rw [decide_eq_false h3] at c1
     have hcs := And.intro c1 True.intro
     clear c1
     subst h1
     subst h2
     refine Wk ?_
     exact ⟨WS, WG, WN, _, (show B.length - (u + 1) < m_1 by omega), u + 1, rfl, WF, WF, WF, WF, WC, WC⟩
   ·rw [if_neg (fun h => h2 h.2.1)] at hd
    have h2' : (zn == (nn : Int)) = false := by rw [beq_eq_false_iff_ne]; exact h2
    clear c1
    subst h1
    refine Wk ?_
    exact ⟨WS, WG, WN, _, (show B.length - (u + 1) < m_1 by omega), u + 1, rfl, WF, WF, WF, WF, WC, WC⟩
  ·rw [if_neg (fun h => h1 h.1)] at hd
   have d1 : decide (zk = key) = false := decide_eq_false h1
   clear c1
   refine Wk ?_
   exact ⟨WS, WG, WN, _, (show B.length - (u + 1) < m_1 by omega), u + 1, rfl, WF, WF, WF, WF, WC, WC⟩
end
end Go.Proofs.YtdmjpolnbmoehaaDoor

namespace Go.Proofs.YtdmjpolnbmoehaaDoor
open Go.Ab
attribute [local irreducible] Go.Ab.tyAV Go.Ab.aw Go.Ab.aops Go.Ab.kReg Go.Ab.aThen Go.Ab.aBlk Go.Ab.acond Go.Ab.aguard Go.Ab.astep Go.Ab.AStepX Go.Ab.aRet
def minuteD (l : List Int) (i : Nat) : Nat × Nat :=
 let k := nextD l i 4
 if k.1 = 0 then nextD l k.2 4320
 else if k.1 = 1 then (min ((nextD l k.2 60).1 * 1440 + (nextD l (nextD l k.2 60).2 3).1) 67108864, (nextD l (nextD l k.2 60).2 3).2)
 else if k.1 = 2 then (67108864 - (nextD l k.2 4320).1, (nextD l k.2 4320).2)
 else nextD l k.2 67108865
theorem minuteD_le (l : List Int) (i : Nat) : (minuteD l i).1 ≤ 67108864 := by
 unfold minuteD
 simp only
 split
 ·have := nextD_lt l (nextD l i 4).2 4320 (by omega); omega
 ·split
  ·simp only; omega
  ·split
   ·simp only; omega
   ·have := nextD_lt l (nextD l i 4).2 67108865 (by omega); omega
theorem minuteD_dk {l : List Int} {i : Nat} (h : Dk l i) : Dk l (minuteD l i).2 := by
 unfold minuteD
 simp only
 split
 ·exact nextD_dk _ (nextD_dk _ h)
 ·split
  ·exact nextD_dk _ (nextD_dk _ (nextD_dk _ h))
  ·split
   ·exact nextD_dk _ (nextD_dk _ h)
   ·exact nextD_dk _ (nextD_dk _ h)
theorem Minute_spec (l : List Int) (i : Nat) (h : Dk l i) (d k : Nat) :
  ACall Tryd.prog 113 [.ptr d [] 0] k [(d, deckBox l i)] (.lit (.int .i64 (minuteD l i).1)) [(d, deckBox l (minuteD l i).2)] := by
 have c1 := Next_spec l i 4 h (by omega) (by omega)
 have d1 := nextD_dk 4 h
 unfold minuteD
 generalize nextD l i 4 = X at c1 d1 ⊢
 obtain ⟨x, j⟩ := X
 simp only at c1 d1 ⊢
 clear h
 by_cases e0 : x = 0
 ·subst e0
  simp only [if_true]
  have c2 := Next_spec l j 4320 d1 (by omega) (by omega)
  generalize nextD l j 4320 = X at c2 ⊢
  obtain ⟨y, j2⟩ := X
  simp only at c2 ⊢
  clear d1
  refine Bd Tryd.func113 Tryd.ntmps113 fun σ N hp hpn hk hkn hfree => ?_
  have hd := hp _ (List.mem_singleton.2 rfl)
  have hdn := hpn _ (List.mem_singleton.2 rfl)
  simp only at hd hdn
  clear hp hpn
  have hcs := And.intro (c1 d) (And.intro (c2 d) True.intro)
  refine Wk ?_
  exact RW (d) (deckBox l j2)
 ·simp only [e0, if_false]
  by_cases e1 : x = 1
  ·subst e1
   simp only [if_true]
   have c2 := Next_spec l j 60 d1 (by omega) (by omega)
   have d2 := nextD_dk 60 d1
   have b2 := nextD_lt l j 60 (by omega)
   generalize nextD l j 60 = X at c2 d2 b2 ⊢
   obtain ⟨y, j2⟩ := X
   simp only at c2 d2 b2 ⊢
   have c3 := Next_spec l j2 3 d2 (by omega) (by omega)
   have b3 := nextD_lt l j2 3 (by omega)
   generalize nextD l j2 3 = X at c3 b3 ⊢
   obtain ⟨z, j3⟩ := X
   simp only at c3 b3 ⊢
   obtain ⟨w, hw⟩ : ∃ w : Nat, min (y * 1440 + z) 67108864 = w := ⟨_, rfl⟩
   have hw1 : (if (67108864 : Int) < (y : Int) * 1440 + z then (67108864 : Int) else (y : Int) * 1440 + z) = w := by split <;> omega
   rw [hw]
   clear d1 d2 hw
   refine Bd Tryd.func113 Tryd.ntmps113 fun σ N hp hpn hk hkn hfree => ?_
   have hd := hp _ (List.mem_singleton.2 rfl)
   have hdn := hpn _ (List.mem_singleton.2 rfl)
   simp only at hd hdn
   clear hp hpn
   have hcs := And.intro (c1 d) (And.intro (c2 d) (And.intro (c3 d) True.intro))
   refine Wk ?_
   exact RW (d) (deckBox l j3)
  ·simp only [e1, if_false]
   by_cases e2 : x = 2
   ·subst e2
    simp only [if_true]
    have c2 := Next_spec l j 4320 d1 (by omega) (by omega)
    have b2 := nextD_lt l j 4320 (by omega)
    generalize nextD l j 4320 = X at c2 b2 ⊢
    obtain ⟨y, j2⟩ := X
    simp only at c2 b2 ⊢
    have hw : (67108864 : Int) - (y : Int) = ((67108864 - y : Nat) : Int) := by omega
    rw [← hw]
    clear d1 hw
    refine Bd Tryd.func113 Tryd.ntmps113 fun σ N hp hpn hk hkn hfree => ?_
    have hd := hp _ (List.mem_singleton.2 rfl)
    have hdn := hpn _ (List.mem_singleton.2 rfl)
    simp only at hd hdn
    clear hp hpn
    have hcs := And.intro (c1 d) (And.intro (c2 d) True.intro)
    refine Wk ?_
    exact RW (d) (deckBox l j2)
   ·simp only [e2, if_false]
    have c2 := Next_spec l j 67108865 d1 (by omega) (by omega)
    generalize nextD l j 67108865 = X at c2 ⊢
    obtain ⟨y, j2⟩ := X
    simp only at c2 ⊢
    clear d1
    refine Bd Tryd.func113 Tryd.ntmps113 fun σ N hp hpn hk hkn hfree => ?_
    have hd := hp _ (List.mem_singleton.2 rfl)
    have hdn := hpn _ (List.mem_singleton.2 rfl)
    simp only at hd hdn
    clear hp hpn
    have hcs := And.intro (c1 d) (And.intro (c2 d) True.intro)
    refine Wk ?_
    exact RW (d) (deckBox l j2)
def names8 : List (List UInt8) := [[97], [98], [97, 110, 110], [98, 111, 98], [99, 105, 100], [122, 111, 101], [97, 97], [97, 98, 99, 100, 101, 102, 103, 104, 105, 106, 107, 108, 109, 110, 111, 112]]
def nameD (l : List Int) (i : Nat) : List UInt8 × Nat := (names8.getD (nextD l i 8).1 [], (nextD l i 8).2)
theorem nameD_dk {l : List Int} {i : Nat} (h : Dk l i) : Dk l (nameD l i).2 := nextD_dk 8 h
theorem Name_spec0 (l : List Int) (i : Nat) (h : Dk l i) (d k : Nat) :
  ACall Tryd.prog 114 [.ptr d [] 0] k [(d, deckBox l i)] (strAV (nameD l i).1) [(d, deckBox l (nameD l i).2)] := by
 have c1 := Next_spec l i 8 h (by omega) (by omega)
 have b1 := nextD_lt l i 8 (by omega)
 unfold nameD
 generalize nextD l i 8 = X at c1 b1 ⊢
 obtain ⟨x, j⟩ := X
 simp only at c1 b1 ⊢
 have hx : ∀ h : x < 8, ([AV.lit (.string (ByteArray.mk #[97])), .lit (.string (ByteArray.mk #[98])), .lit (.string (ByteArray.mk #[97, 110, 110])), .lit (.string (ByteArray.mk #[98, 111, 98])), .lit (.string (ByteArray.mk #[99, 105, 100])), .lit (.string (ByteArray.mk #[122, 111, 101])), .lit (.string (ByteArray.mk #[97, 97])), .lit (.string (ByteArray.mk #[97, 98, 99, 100, 101, 102, 103, 104, 105, 106, 107, 108, 109, 110, 111, 112]))] : List AV)[x] = strAV (names8.getD x []) := by
  intro h
  have : x = 0 ∨ x = 1 ∨ x = 2 ∨ x = 3 ∨ x = 4 ∨ x = 5 ∨ x = 6 ∨ x = 7 := by omega
  rcases this with rfl | rfl | rfl | rfl | rfl | rfl | rfl | rfl <;> rfl
 have hx2 := hx b1
 have hsz : (strAV (names8.getD x [])).sz = 1 := rfl
 have hag : (strAV (names8.getD x [])).isAgg = false := rfl
 have hrn : ∀ f, (strAV (names8.getD x [])).ren f = strAV (names8.getD x []) := fun _ => rfl
 generalize strAV (names8.getD x []) = r at *
 clear hx
 refine Bd Tryd.func114 Tryd.ntmps114 fun σ N hp hpn hk hkn hfree => ?_
 have hd := hp _ (List.mem_singleton.2 rfl)
 have hdn := hpn _ (List.mem_singleton.2 rfl)
 simp only at hd hdn
 clear hp hpn
 have hcs := And.intro (c1 d) True.intro
 refine Wk ?_
 exact RW (d) (deckBox l j)
def bytesK (l : List Int) : Nat → Nat → List UInt8 × Nat
 | 0, i => ([], i)
 | f + 1, i => (UInt8.ofNat (nextD l i 256).1 :: (bytesK l f (nextD l i 256).2).1, (bytesK l f (nextD l i 256).2).2)
theorem bytesK_len (l : List Int) : ∀ f i, (bytesK l f i).1.length = f
 | 0, i => rfl
 | f + 1, i => by simp [bytesK, bytesK_len l f]
theorem bytesK_dk {l : List Int} : ∀ f i, Dk l i → Dk l (bytesK l f i).2
 | 0, _i, h => h
 | f + 1, _i, h => bytesK_dk f _ (nextD_dk 256 h)
def bytesD (l : List Int) (i n : Nat) : List UInt8 × Nat := bytesK l (nextD l i (n + 1)).1 (nextD l i (n + 1)).2
theorem bytesD_dk {l : List Int} {i : Nat} (n : Nat) (h : Dk l i) : Dk l (bytesD l i n).2 := bytesK_dk _ _ (nextD_dk _ h)
theorem bytesD_len (l : List Int) (i n : Nat) : (bytesD l i n).1.length ≤ n := by
 have := nextD_lt l i (n + 1) (by omega)
 rw [bytesD, bytesK_len]; omega
theorem Bytes_spec (l : List Int) (i n : Nat) (h : Dk l i) (hn : n ≤ 100000) (d k : Nat) :
  ACall Tryd.prog 39 [.ptr d [] 0, .lit (.int .i64 n)] k [(d, deckBox l i)] (.slice none ((bytesD l i n).1.map byteAV)) [(d, deckBox l (bytesD l i n).2)] := by
 have c1 := Next_spec l i (n + 1) h (by omega) (by omega)
 have d1 := nextD_dk (n + 1) h
 have b1 := nextD_lt l i (n + 1) (by omega)
 have hn1 : ((n + 1 : Nat) : Int) = (n : Int) + 1 := by omega
 unfold bytesD
 rw [hn1] at c1
 generalize nextD l i (n + 1) = X at *
 obtain ⟨K, j⟩ := X
 simp only at c1 d1 b1 ⊢
 clear h hn1
 have hcs := And.intro (c1 d) True.intro
 generalize hR : bytesK l K j = R
 obtain ⟨R1, R2⟩ := R
 simp only
 refine Bd Tryd.func39 Tryd.ntmps39 fun σ N hp hpn hk hkn hfree => ?_
 obtain ⟨hd, hdn⟩ := HD0 hp hpn; clear hp hpn
 clear c1
 refine Wk ?_
 refine ALoop.nilrow 5 5 1 (by simp (disch := omega) [go_sem, *, -List.reduceReplicate]) ?_
 refine go_loopB (N) mixed (by kernel_rfl) [5, 6, 11, 12, 13, 14, 15, 16, 17, 18, 19, 20] [d] (fun m_ s_ σ_ n_ => ∃ (f : Nat) (j' : Nat) (r : Nat) (acc : List UInt8), m_ = f ∧ s_ 6 = .lit (.int .i64 f) ∧ s_ 5 = .slice (some r) (acc.map byteAV) ∧ σ_ (d) = deckBox l j' ∧ σ_ (r) = .row 5 1 acc.length ∧ (N ≤ r) ∧ (r < n_) ∧ (f + acc.length ≤ 100000) ∧ (Dk l j') ∧ ((acc ++ (bytesK l f j').1, (bytesK l f j').2) = (R1, R2))) ⟨_, K, j, _, [], rfl, WF, WF, WF, WF, WC, WC, WC, WC, WC⟩ ?_
 intro m_1 s_1 σ_1 n_1 hs_1 hf_1 hn_1 hI_1
 obtain ⟨f, j', r, acc, hm_1, h1_6, h1_5, e1_0, e1_1, hNr, hrn, hfl, hdj, hacc⟩ := hI_1
 have h1_0 := KS hs_1 0
 have h1_4 := KS hs_1 4
 have hlow := KD (N := N) (d := d) (σ := σ) hf_1
 have hne : ¬ r = d := by omega
 have hne2 : ¬ d = r := by omega
 cases f with
 | zero =>
  simp only [bytesK, List.append_nil, Prod.mk.injEq] at hacc
  obtain ⟨rfl, rfl⟩ := hacc
  refine Wk ?_
  exact RV (d) (deckBox l j')
 | succ f =>
  have c1 := Next_spec l j' 256 hdj (by omega) (by omega)
  have d1 := nextD_dk 256 hdj
  have b1 := nextD_lt l j' 256 (by omega)
  rw [bytesK] at hacc
  generalize nextD l j' 256 = X at *
  obtain ⟨x, j2⟩ := X
  simp only at c1 d1 b1 hacc
  have hw : IntKind.u8.wrap (x : Int) = x := by rw [IntKind.wrap_u8]; omega
  have hbx : AV.lit (.int .u8 (x : Int)) = byteAV (UInt8.ofNat x) := by simp [byteAV, Nat.mod_eq_of_lt b1]
  have hcs := And.intro (c1 d) True.intro
  clear c1 hdj
  refine Wk ?_
  exact ⟨WS, WG, WN, _, (show (f) < m_1 by omega), f, j2, r, acc ++ [UInt8.ofNat x], rfl, WF, WF, WF, WF, WC, WC, WC, WC, WC⟩
end Go.Proofs.YtdmjpolnbmoehaaDoor
