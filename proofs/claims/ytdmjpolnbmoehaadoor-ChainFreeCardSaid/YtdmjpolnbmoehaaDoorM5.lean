/- Texts M2, L1, M3, Q1, D1, R1, K1, M4, M5, K2, K3, Q2, joined. -/
import Derived.Test.YtdmjpolnbmoehaaDoorM4

namespace Go.Proofs.YtdmjpolnbmoehaaDoor
open Go.Ab
attribute [local irreducible] Go.Ab.tyAV Go.Ab.aw Go.Ab.aops Go.Ab.kReg Go.Ab.aThen Go.Ab.aBlk Go.Ab.acond Go.Ab.aguard Go.Ab.astep Go.Ab.AStepX Go.Ab.aRet
attribute [local irreducible] shaG
def mixC (P E : List UInt8) (i : Nat) : List UInt8 := P.take i ++ E.drop i
theorem mixC_len {P E : List UInt8} (hP : P.length = 64) (hE : E.length = 64) (i : Nat) (hi : i ≤ 64) : (mixC P E i).length = 64 := by
 unfold mixC; rw [List.length_append, List.length_take, List.length_drop]; omega
theorem mixC_0 (P E : List UInt8) : mixC P E 0 = E := by simp [mixC]
theorem mixC_64 {P E : List UInt8} (hP : P.length = 64) (hE : E.length = 64) : mixC P E 64 = P := by
 unfold mixC; rw [List.take_of_length_le (by omega), List.drop_of_length_le (by omega), List.append_nil]
theorem mixC_at {P E : List UInt8} (hP : P.length = 64) (i : Nat) (hi : i < 64) : (mixC P E i)[i]? = E[i]? := by
 unfold mixC
 have hl : (P.take i).length = i := by rw [List.length_take]; omega
 rw [List.getElem?_append_right (by omega), hl, Nat.sub_self, List.getElem?_drop, Nat.add_zero]
theorem mixC_set {P E : List UInt8} (hP : P.length = 64) (hE : E.length = 64) (i : Nat) (hi : i < 64) : (mixC P E i).set i P[i] = mixC P E (i + 1) := by
 unfold mixC
 have hl : (P.take i).length = i := by rw [List.length_take]; omega
 rw [List.set_append_right _ _ (by omega), hl, Nat.sub_self, List.drop_eq_getElem_cons (by omega : i < E.length), List.set_cons_zero, List.take_succ_eq_append_getElem (by omega : i < P.length), List.append_assoc]
 rfl
theorem pad_spec (key : List UInt8) (hk : key.length ≤ 64) (x : UInt8) (hx0 : x8 0 x = x) (k : Nat) :
  ACall Tryd.prog 132 [.slice none (key.map byteAV), .lit (.int .u8 x.toNat)] k [] (.slice (some k) ((padK key x).map byteAV)) [(k, .row 5 1 64)] := by
 have hxb : byteAV x = .lit (.int .u8 x.toNat) := rfl
 obtain ⟨E, hE⟩ : ∃ E : List UInt8, key ++ List.replicate (64 - key.length) 0 = E := ⟨_, rfl⟩
 have hEl : E.length = 64 := by rw [← hE, List.length_append, List.length_replicate]; omega
 have hEx : ∀ i (h : i < E.length) (hp : i < (padK key x).length), (padK key x)[i] = x8 E[i] x := by
  intro i h hp
  rw [padK_at key x i (by omega)]
  by_cases hi : i < key.length
  ·rw [dif_pos hi]
   congr 1
   simp only [← hE]
   rw [List.getElem_append_left hi]
  ·rw [dif_neg hi]
   have : E[i] = 0 := by
    simp only [← hE]
    rw [List.getElem_append_right (by omega)]; simp
   rw [this, hx0]
 have h0 : key.map byteAV ++ List.replicate (64 - key.length) (byteAV 0) = E.map byteAV := by
  rw [← hE, List.map_append, List.map_replicate]
 have hpl := padK_len key x
 generalize padK key x = P at *
 have h00 : List.replicate 64 (AV.lit (.int .u8 0)) = (List.replicate 64 (0 : UInt8)).map byteAV := by rw [List.map_replicate]; rfl
 refine Bd Tryd.func132 Tryd.ntmps132 fun σ N hp hpn hk hkn hfree => ?_
 have M : Mut (N + 1) := ⟨⟩
 have hE0 := mixC_0 P E
 refine Wk ?_
 refine go_loopF mixed (by kernel_rfl) [6, 13, 14, 15, 16, 17, 18, 19, 20, 21, 22, 23] [N+1] (fun m_ s_ σ_ n_ => ∃ (i : Nat) (cur : List UInt8), m_ = 64 - i ∧ s_ 13 = .lit (.int .i64 i) ∧ s_ 5 = .ms (N + 1) 0 1 0 64 ∧ σ_ (N+1) = .mrow 0 5 1 (cur.map byteAV) ∧ (i ≤ 64) ∧ (mixC P E i = cur)) ⟨_, 0, E, rfl, WF, WF, WF, WC, WC⟩ ?_
 intro m_1 s_1 σ_1 n_1 hs_1 hf_1 hn_1 hI_1
 obtain ⟨i, cur, hm_1, h1_13, h1_5, e1_0, hi, hc⟩ := hI_1
 have h1_1 := KS hs_1 1
 have h1_4 := KS hs_1 4
 have h1_5 := KS hs_1 5
 have h1_12 := KS hs_1 12
 have hlow := KL (N := N) (σ := σ) hf_1
 clear hE0 h0
 have hcl := mixC_len hpl hEl i hi
 rw [hc] at hcl
 by_cases h64 : i = 64
 ·subst h64
  rw [mixC_64 hpl hEl] at hc
  subst hc
  clear M hEx
  refine Wm ?_
  iterate 1 refine Wz ?_
  refine go_freeze 5 (id := N + 1) (ver := 0) (size := 1) (e := 5) (xs := P.map byteAV) (k := 64) (by simp (disch := omega) [go_sem, *, -List.reduceReplicate]) (by simp (disch := omega) [go_sem, *, -List.reduceReplicate]) (by simp (disch := omega) [go_sem, *, -List.reduceReplicate]) ?_
  refine Wk ?_
  refine go_result1 (r0 := N+1) (by simp (disch := omega) [go_sem, *, -List.reduceReplicate]; rfl) (by omega) (by simp (disch := omega) [go_sem]; try rfl) (fun id hid => by simp (disch := omega) only [upd_ne]; try exact hlow id hid) (by simp (disch := omega) [go_sem, *, -List.reduceReplicate]; rfl) (by simp (disch := omega) [go_sem])
 ·have hi2 : i < 64 := by omega
  have hi2i : (i : Int) < 64 := by omega
  have ha0 := mixC_at (E := E) hpl i hi2
  have hs := mixC_set hpl hEl i hi2
  rw [hEx i (by omega) (by omega)] at hs
  rw [hc] at ha0 hs
  have hic : i < cur.length := by omega
  have hiE : i < E.length := by omega
  rw [List.getElem?_eq_getElem hic, List.getElem?_eq_getElem hiE] at ha0
  injection ha0 with ha
  obtain ⟨z, hz⟩ : ∃ z, E[i] = z := ⟨_, rfl⟩
  rw [hz] at ha hs
  have hx := x8_eq z x
  have hset := set_bytes cur i (x8 z x)
  rw [hs] at hset
  generalize x8 z x = v at *
  have hzb : byteAV z = .lit (.int .u8 z.toNat) := rfl
  have hvb : byteAV v = .lit (.int .u8 v.toNat) := rfl
  rw [hvb] at hset
  generalize hc' : mixC P E (i + 1) = c2 at *
  clear hs hc M hEx hz
  refine Wk ?_
  exact ⟨WS, WG, WN, _, (show 64 - (i + 1) < m_1 by omega), i + 1, c2, rfl, WF, WF, WF, WC, WC⟩
section
variable [W : W32]
def hmacT (key msg : List UInt8) : Tg := shaT (padK key 92 ++ (shaT (padK key 54 ++ msg)).1)
theorem Hmac_spec (key msg : List UInt8) (hk : key.length ≤ 64) (hm : msg.length ≤ 100000) (k : Nat) :
  ACall Tryd.prog 63 [.slice none (key.map byteAV), .slice none (msg.map byteAV)] k [] (tagAV (hmacT key msg)) [] := by
 have c1 := padded_spec key 54
 have c2 := padded_spec key 92
 have l1 := padK_len key 54
 have l2 := padK_len key 92
 unfold hmacT
 generalize padK key 54 = P1 at *
 generalize padK key 92 = P2 at *
 have c3 := Sha_spec (P1 ++ msg) (by rw [List.length_append]; omega)
 obtain ⟨A, hA⟩ : ∃ A, P1 ++ msg = A := ⟨_, rfl⟩
 have hAm : P1.map byteAV ++ msg.map byteAV = A.map byteAV := by rw [← hA, List.map_append]
 rw [hA] at c3 ⊢
 generalize shaT A = T1 at *
 have hs1 := tagAV_sz T1
 have hs2 := tagAV_cell T1
 obtain ⟨T1, hT1⟩ := T1
 simp only [tagAV] at c3 hs1 hs2 ⊢
 have c4 := Sha_spec (P2 ++ T1) (by rw [List.length_append]; omega)
 obtain ⟨B, hB⟩ : ∃ B, P2 ++ T1 = B := ⟨_, rfl⟩
 have hBm : P2.map byteAV ++ T1.map byteAV = B.map byteAV := by rw [← hB, List.map_append]
 rw [hB] at c4 ⊢
 generalize shaT B = T2 at *
 have hs3 := tagAV_sz T2
 have hs4 := tagAV_cell T2
 obtain ⟨T2, hT2⟩ := T2
 simp only [tagAV] at c4 hs3 hs4 ⊢
 have e54 : ((54 : UInt8).toNat : Int) = 54 := rfl
 have e92 : ((92 : UInt8).toNat : Int) = 92 := rfl
 rw [e54] at c1
 rw [e92] at c2
 have hki : ¬ (64 : Int) < (key.length : Int) := by omega
 clear hA hB
 refine Bd Tryd.func63 Tryd.ntmps63 fun σ N hp hpn hk hkn hfree => ?_
 have htk : (T1.map byteAV).take 32 = T1.map byteAV := List.take_of_length_le (by rw [List.length_map]; omega)
 have hcs := And.intro c1 (And.intro c3 (And.intro c2 (And.intro c4 True.intro)))
 clear c1 c2 c3 c4
 exact W0
theorem shaP (P m : List UInt8) (hP : P.length = 64) {H : V8} {R : List UInt8} (hH : comp (m.length / 64) (comp 1 iv8 P) m = H) (hR : m.drop (64 * (m.length / 64)) = R) :
  comp ((R ++ padB R.length (64 + m.length)).length / 64) H (R ++ padB R.length (64 + m.length)) = shaV (P ++ m) := by
 have hl : (P ++ m).length = 64 + m.length := by rw [List.length_append, hP]
 have hd : (64 + m.length) / 64 = 1 + m.length / 64 := by omega
 have h1 : comp ((P ++ m).length / 64) iv8 (P ++ m) = H := by
  rw [hl, hd, comp_add, comp_app iv8 P m 1 (by omega)]
  have : (P ++ m).drop (64 * 1) = m := by rw [Nat.mul_one, ← hP, List.drop_left]
  rw [this, hH]
 have h2 : (P ++ m).drop (64 * ((P ++ m).length / 64)) = R := by
  rw [hl, hd, Nat.mul_add, Nat.mul_one, ← List.drop_drop, ← hP, List.drop_left, hP, hR]
 have := shaV_split (P ++ m) H R h1 h2
 rw [hl] at this
 exact this
theorem hmacOf_spec (key msg : List UInt8) (hk : key.length ≤ 64) (h0 : 0 < msg.length) (hm : msg.length ≤ 100000) (g k : Nat) :
  ACall Tryd.prog 108 [.slice none (key.map byteAV), .slice none (msg.map byteAV)] k [(g, shaG)] (tagAV (hmacT key msg)) [] := by
 have c0 := shaNew_spec
 have c1 := pad_spec key hk 54 (by decide)
 have c2 := pad_spec key hk 92 (by decide)
 have l1 := padK_len key 54
 have l2 := padK_len key 92
 unfold hmacT
 generalize padK key 54 = P1 at *
 generalize padK key 92 = P2 at *
 have w1 := fun k => Write_spec iv8 [] P1 0 (by simp; omega) (by simp; omega) (by omega) k (H := comp 1 iv8 P1) (R := []) (by rw [List.nil_append, l1]) (by rw [List.nil_append, l1]; exact List.drop_of_length_le (by omega)) g
 obtain ⟨H1, hH1⟩ : ∃ H, comp (msg.length / 64) (comp 1 iv8 P1) msg = H := ⟨_, rfl⟩
 obtain ⟨R1, hR1⟩ : ∃ R, msg.drop (64 * (msg.length / 64)) = R := ⟨_, rfl⟩
 have hR1l : R1.length ≤ 100000 := by rw [← hR1, List.length_drop]; omega
 have w2 := fun k => Write_spec (comp 1 iv8 P1) [] msg 64 (by simpa using h0) (by simp; omega) (by omega) k (H := H1) (R := R1) (by rw [List.nil_append]; exact hH1) (by rw [List.nil_append]; exact hR1) g
 have s1 := Sum_spec H1 R1 (64 + msg.length) (by omega) (by omega) (shaP P1 msg l1 hH1 hR1) g
 rw [← shaT] at s1
 generalize shaT (P1 ++ msg) = T1 at *
 have hs1 := tagAV_sz T1
 have hs2 := tagAV_cell T1
 obtain ⟨T1, hT1⟩ := T1
 simp only [tagAV] at s1 hs1 hs2 ⊢
 have w3 := fun k => Write_spec iv8 [] P2 0 (by simp; omega) (by simp; omega) (by omega) k (H := comp 1 iv8 P2) (R := []) (by rw [List.nil_append, l2]) (by rw [List.nil_append, l2]; exact List.drop_of_length_le (by omega)) g
 obtain ⟨H2, hH2⟩ : ∃ H, comp (T1.length / 64) (comp 1 iv8 P2) T1 = H := ⟨_, rfl⟩
 obtain ⟨R2, hR2⟩ : ∃ R, T1.drop (64 * (T1.length / 64)) = R := ⟨_, rfl⟩
 have hR2l : R2.length ≤ 100000 := by rw [← hR2, List.length_drop]; omega
 have w4 := fun k => Write_spec (comp 1 iv8 P2) [] T1 64 (by simp; omega) (by simp; omega) (by omega) k (H := H2) (R := R2) (by rw [List.nil_append]; exact hH2) (by rw [List.nil_append]; exact hR2) g
 have s2 := Sum_spec H2 R2 (64 + T1.length) (by omega) (by omega) (shaP P2 T1 l2 hH2 hR2) g
 rw [← shaT] at s2
 generalize shaT (P2 ++ T1) = T2 at *
 have hs3 := tagAV_sz T2
 have hs4 := tagAV_cell T2
 obtain ⟨T2, hT2⟩ := T2
 simp only [tagAV] at s2 hs3 hs4 ⊢
 have e54 : ((54 : UInt8).toNat : Int) = 54 := rfl
 have e92 : ((92 : UInt8).toNat : Int) = 92 := rfl
 rw [e54] at c1
 rw [e92] at c2
 rw [l1] at w1
 rw [l2] at w3
 have hki : ¬ (64 : Int) < (key.length : Int) := by omega
 have htk : (T1.map byteAV).take 32 = T1.map byteAV := List.take_of_length_le (by rw [List.length_map]; omega)
 clear hH1 hH2 hR1 hR2
 simp only [Nat.zero_add] at w1 w3
 generalize hashAV iv8 [] 0 = a0 at *
 generalize hashAV (comp 1 iv8 P1) [] 64 = a1 at *
 generalize hashAV H1 R1 (64 + msg.length) = a2 at *
 generalize hashAV (comp 1 iv8 P2) [] 64 = a3 at *
 generalize hashAV H2 R2 (64 + T1.length) = a4 at *
 refine Bd Tryd.func108 Tryd.ntmps108 fun σ N hp hpn hk hkn hfree => ?_
 obtain ⟨hd, hdn⟩ := HD0 hp hpn; clear hp hpn
 have hcs := And.intro c0 (And.intro c1 (And.intro w1 (And.intro w2 (And.intro s1 (And.intro c0 (And.intro c2 (And.intro w3 (And.intro w4 (And.intro s2 True.intro)))))))))
 clear c0 c1 c2 w1 w2 w3 w4 s1 s2
 exact W0
end
end Go.Proofs.YtdmjpolnbmoehaaDoor

namespace Go.Proofs.YtdmjpolnbmoehaaDoor
open Go.Ab
attribute [local irreducible] Go.Ab.tyAV Go.Ab.aw Go.Ab.aops Go.Ab.kReg Go.Ab.aThen Go.Ab.aBlk Go.Ab.acond Go.Ab.aguard Go.Ab.astep Go.Ab.AStepX Go.Ab.aRet
def bAV (b : List UInt8) : AV := .slice none (b.map byteAV)
theorem bAV_def (b : List UInt8) : bAV b = .slice none (b.map byteAV) := rfl
@[go_sem] theorem bAV_sz (b : List UInt8) : (bAV b).sz = 1 := rfl
@[go_sem] theorem bAV_isAgg (b : List UInt8) : (bAV b).isAgg = false := rfl
@[go_sem] theorem all_bs1 (l : List (List UInt8)) : (l.map bAV).all (fun x => x.sz == 1) = true := by
 rw [List.all_eq_true]; intro x hx; obtain ⟨b, _, rfl⟩ := List.mem_map.1 hx; rfl
@[go_sem] theorem bAV_cell (b : List UInt8) : (bAV b).cell = true := rfl
@[go_sem] theorem bAV_ren (f : Nat → Option Nat) (b : List UInt8) : (bAV b).ren f = bAV b := by
 simp only [bAV, AV.ren, renl_bytes, Option.bind_none]
@[go_sem] theorem renl_bs (f : Nat → Option Nat) (l : List (List UInt8)) : AV.renl f (l.map bAV) = l.map bAV := by
 rw [AV.renl_map, List.map_map]; exact List.map_congr_left fun t _ => bAV_ren f t
@[go_sem] theorem all_bs2 (l : List (List UInt8)) : (l.map bAV).all (fun x => x.sz == 1 && x.cell) = true := by
 rw [List.all_eq_true]; intro x hx; obtain ⟨b, _, rfl⟩ := List.mem_map.1 hx; rfl
@[go_sem] theorem szl_bs (l : List (List UInt8)) : AV.szl (l.map bAV) = l.length := by
 rw [AV.szl_uniform _ 1 fun x hx => by obtain ⟨b, _, rfl⟩ := List.mem_map.1 hx; rfl]; simp
theorem AV.le_sliceS {xs ys : List AV} (o : Option Nat) (h : ALe xs ys) : AV.le (.slice o xs) (.slice o ys) := fun g v hr => by
 obtain ⟨h1, h2⟩ := h.at
 cases hr with
 | slice own _ vs A c size hvl hc hm hr hs hcell hown =>
  rw [h1] at hvl hc hcell hown ⊢
  exact .slice o ys vs A c size hvl hc hm (fun i y v hy hv => by obtain ⟨x, hx, hxy⟩ := h2 i y hy; exact hxy g v (hr i x v hx hv)) hs hcell hown
theorem ALe.snoc {xs : List AV} {x y : AV} (h : AV.le x y) : ALe (xs ++ [x]) (xs ++ [y]) := by
 induction xs with
 | nil => exact .cons h .nil
 | cons z r ih => exact .cons (AV.le_refl _) ih
end Go.Proofs.YtdmjpolnbmoehaaDoor

namespace Go.Proofs.YtdmjpolnbmoehaaDoor
open Go.Ab
attribute [local irreducible] Go.Ab.tyAV Go.Ab.aw Go.Ab.aops Go.Ab.kReg Go.Ab.aThen Go.Ab.aBlk Go.Ab.acond Go.Ab.aguard Go.Ab.astep Go.Ab.AStepX Go.Ab.aRet
attribute [local irreducible] shaG
@[go_sem] theorem ev_tag_eq (a b : Tg) : evBin Tryd.prog .eql 24 (tagAV a) (tagAV b) = some ⟨[], .lit (.bool (decide (a = b))), []⟩ := evBin_tag eq24 a b
@[go_sem] theorem ev_tag_ne (a b : Tg) : evBin Tryd.prog .neq 24 (tagAV a) (tagAV b) = some ⟨[], .lit (.bool (!decide (a = b))), []⟩ := evBin_tagN eq24 a b
structure MacE where
 key : Tg
 msg : List UInt8
 tag : Tg
structure BoxE where
 key : Tg
 nonce : Int
 plain : List UInt8
 box : List UInt8
structure Alg where
 free : Bool
 seed : Tg
 fresh : Int
 macs : List MacE
 boxes : List BoxE
def macAV (e : MacE) : AV := .agg [tagAV e.key, bAV e.msg, tagAV e.tag]
def sealAV (e : BoxE) : AV := .agg [tagAV e.key, .lit (.int .i64 e.nonce), bAV e.plain, bAV e.box]
def algAV (a : Alg) : AV := .agg [.lit (.bool a.free), tagAV a.seed, .lit (.int .i64 a.fresh), .slice none (a.macs.map macAV), .slice none (a.boxes.map sealAV)]
def alg0 : Alg := ⟨false, zeroTag, 0, [], []⟩
@[go_sem] theorem macAV_sz (e : MacE) : (macAV e).sz = 65 := by simp only [macAV, AV.sz, AV.szl, tagAV_sz, bAV_sz]
@[go_sem] theorem macAV_isAgg (e : MacE) : (macAV e).isAgg = true := rfl
@[go_sem] theorem macAV_cell (e : MacE) : (macAV e).cell = true := by simp only [macAV, AV.cell, AV.celll, tagAV_cell, bAV_cell, Bool.and_self]
@[go_sem] theorem macAV_ren (f : Nat → Option Nat) (e : MacE) : (macAV e).ren f = macAV e := by simp only [macAV, AV.ren, AV.renl, tagAV_ren, bAV_ren]
@[go_sem] theorem sealAV_sz (e : BoxE) : (sealAV e).sz = 35 := by simp only [sealAV, AV.sz, AV.szl, tagAV_sz, bAV_sz]
@[go_sem] theorem sealAV_isAgg (e : BoxE) : (sealAV e).isAgg = true := rfl
@[go_sem] theorem sealAV_cell (e : BoxE) : (sealAV e).cell = true := by simp only [sealAV, AV.cell, AV.celll, tagAV_cell, bAV_cell, Bool.and_self]
@[go_sem] theorem sealAV_ren (f : Nat → Option Nat) (e : BoxE) : (sealAV e).ren f = sealAV e := by simp only [sealAV, AV.ren, AV.renl, tagAV_ren, bAV_ren]
@[go_sem] theorem renl_macs (f : Nat → Option Nat) (l : List MacE) : AV.renl f (l.map macAV) = l.map macAV := by
 rw [AV.renl_map, List.map_map]; exact List.map_congr_left fun t _ => macAV_ren f t
@[go_sem] theorem renl_boxes (f : Nat → Option Nat) (l : List BoxE) : AV.renl f (l.map sealAV) = l.map sealAV := by
 rw [AV.renl_map, List.map_map]; exact List.map_congr_left fun t _ => sealAV_ren f t
@[go_sem] theorem all_macs1 (l : List MacE) : (l.map macAV).all (fun x => x.sz == 65) = true := by
 rw [List.all_eq_true]; intro x hx; obtain ⟨b, _, rfl⟩ := List.mem_map.1 hx; simp [macAV_sz]
@[go_sem] theorem all_macs2 (l : List MacE) : (l.map macAV).all (fun x => x.sz == 65 && x.cell) = true := by
 rw [List.all_eq_true]; intro x hx; obtain ⟨b, _, rfl⟩ := List.mem_map.1 hx; simp [macAV_sz, macAV_cell]
@[go_sem] theorem all_boxes1 (l : List BoxE) : (l.map sealAV).all (fun x => x.sz == 35) = true := by
 rw [List.all_eq_true]; intro x hx; obtain ⟨b, _, rfl⟩ := List.mem_map.1 hx; simp [sealAV_sz]
@[go_sem] theorem all_boxes2 (l : List BoxE) : (l.map sealAV).all (fun x => x.sz == 35 && x.cell) = true := by
 rw [List.all_eq_true]; intro x hx; obtain ⟨b, _, rfl⟩ := List.mem_map.1 hx; simp [sealAV_sz, sealAV_cell]
@[go_sem] theorem algAV_sz (a : Alg) : (algAV a).sz = 36 := by simp only [algAV, AV.sz, AV.szl, tagAV_sz]
@[go_sem] theorem algAV_isAgg (a : Alg) : (algAV a).isAgg = true := rfl
@[go_sem] theorem algAV_cell (a : Alg) : (algAV a).cell = true := by simp only [algAV, AV.cell, AV.celll, tagAV_cell, Bool.and_self]
@[go_sem] theorem algAV_ren (f : Nat → Option Nat) (a : Alg) : (algAV a).ren f = algAV a := by simp only [algAV, AV.ren, AV.renl, tagAV_ren, renl_macs, renl_boxes, Option.bind_none]
def symT (kind : UInt8) (n : Int) : Tg := ⟨[115, 121, 109, 98, 111, 108, kind] ++ eightB n ++ List.replicate 17 0, by simp [eightB]⟩
theorem Symbol_spec (kind : UInt8) (n : Nat) (hn : n ≤ 1000000000) (k : Nat) :
  ACall Tryd.prog 50 [.lit (.int .u8 kind.toNat), .lit (.int .i64 n)] k [] (tagAV (symT kind n)) [] := by
 have c1 := Eight_spec (n : Int) (by omega) (by omega)
 have hkb : byteAV kind = .lit (.int .u8 kind.toNat) := rfl
 have hel := eightB_len (n : Int)
 have hT : (symT kind n).1 = [115, 121, 109, 98, 111, 108, kind] ++ eightB n ++ List.replicate 17 0 := rfl
 generalize symT kind n = T at *
 obtain ⟨T, hTl⟩ := T
 simp only [tagAV] at hT ⊢
 generalize eightB (n : Int) = E at *
 have htk : (E.map byteAV).take 8 = E.map byteAV := List.take_of_length_le (by rw [List.length_map]; omega)
 have hz0 : (zeroTag.val.map byteAV).drop 15 = (List.replicate 17 (0 : UInt8)).map byteAV := rfl
 have hfin : AV.lit (.int .u8 115) :: .lit (.int .u8 121) :: .lit (.int .u8 109) :: .lit (.int .u8 98) :: .lit (.int .u8 111) :: .lit (.int .u8 108) :: .lit (.int .u8 kind.toNat) :: ((E.map byteAV).take 8 ++ (zeroTag.val.map byteAV).drop 15) = T.map byteAV := by
  rw [hT, htk, hz0, List.map_append, List.map_append]; rfl
 have hs1 : (AV.agg (T.map byteAV)).sz = 32 := by simp only [AV.sz, szl_bytes]; exact hTl
 have hs2 : (AV.agg (T.map byteAV)).cell = true := celll_bytes T
 clear htk hz0 hT
 refine Bd Tryd.func50 Tryd.ntmps50 fun σ N hp hpn hk hkn hfree => ?_
 have M : Mut (N + 2) := ⟨⟩
 have M2 : Mut (N + 2 + 1) := ⟨⟩
 have hcs := And.intro c1 True.intro
 clear c1
 exact W0
def entL (key : Tg) (msg : List UInt8) : List MacE → Option Tg
 | [] => none
 | e :: r => if e.key = key ∧ e.msg = msg then some e.tag else entL key msg r
def entAV (o : Option Tg) : AV := .tup [tagAV (o.getD zeroTag), .lit (.bool o.isSome)]
set_option maxHeartbeats 1000000 in
theorem entry_spec (a : Alg) (key : Tg) (msg : List UInt8) (hl : a.macs.length ≤ 1000000) (hm : ∀ e ∈ a.macs, e.msg.length ≤ 100000) (k : Nat) :
  ACall Tryd.prog 79 [algAV a, tagAV key, .slice none (msg.map byteAV)] k [] (entAV (entL key msg a.macs)) [] := by
 obtain ⟨fr, sd, fs, L, B⟩ := a
 simp only [algAV] at *
 generalize hR : entL key msg L = R
 unfold entAV
 refine Bd Tryd.func79 Tryd.ntmps79 fun σ N hp hpn hk hkn hfree => ?_
 refine Wk ?_
 refine go_loopF mixed (by kernel_rfl) [7, 8, 9, 10, 11, 12, 13, 14, 15, 16, 17, 18, 19, 20, 21, 22, 23, 24, 25, 26, 27, 28, 29, 30, 31, 32, 33, 34, 35, 36, 37, 38, 39] [N, N+1, N+2] (fun m_ s_ σ_ n_ => ∃ (u : Nat), m_ = L.length - u ∧ s_ 8 = .lit (.int .i64 u) ∧ σ_ (N) = .box 30 (.agg [.lit (.bool fr), tagAV sd, .lit (.int .i64 fs), .slice none (L.map macAV), .slice none (B.map sealAV)]) ∧ σ_ (N+1) = .box 24 (tagAV key) ∧ σ_ (N+2) = .box 24 (tagAV zeroTag) ∧ (u ≤ L.length) ∧ (entL key msg (L.drop u) = R)) ⟨_, 0, rfl, WF, WF, WF, WF, WC, WC⟩ ?_
 intro m_1 s_1 σ_1 n_1 hs_1 hf_1 hn_1 hI_1
 obtain ⟨u, hm_1, h1_8, e1_0, e1_1, e1_2, hu, hd⟩ := hI_1
 have h1_2 := KS hs_1 2
 have h1_3 := KS hs_1 3
 have h1_4 := KS hs_1 4
 have h1_6 := KS hs_1 6
 have hlow := KL (N := N) (σ := σ) hf_1
 by_cases hul : u = L.length
 ·subst hul
  rw [List.drop_length] at hd
  simp only [entL] at hd
  subst hd
  simp only [Option.getD_none, Option.isSome_none]
  exact W0
 ·have hu1 : u < L.length := by omega
  rw [List.drop_eq_getElem_cons hu1, entL] at hd
  have hmz := hm _ (List.getElem_mem hu1)
  obtain ⟨z, hz⟩ : ∃ z, L[u] = z := ⟨_, rfl⟩
  rw [hz] at hd hmz
  obtain ⟨zk, zm, zt⟩ := z
  simp only at hd hmz
  have hzd : macAV ⟨zk, zm, zt⟩ = .agg [tagAV zk, bAV zm, tagAV zt] := rfl
  have hzb := bAV_def zm
  have c1 := Same_spec zm msg (by omega)
  by_cases h1 : zk = key
  ·have d1 : decide (zk = key) = true := decide_eq_true h1
   by_cases h2 : zm = msg
   ·rw [if_pos ⟨h1, h2⟩] at hd
    subst hd
    rw [decide_eq_true h2] at c1
    have hcs := And.intro c1 True.intro
    simp only [Option.getD_some, Option.isSome_some]
    clear c1 hR hm
    subst h1
    subst h2
    exact W0
   ·rw [if_neg (fun h => h2 h.2)] at hd
    rw [decide_eq_false h2] at c1
    have hcs := And.intro c1 True.intro
    clear c1 hR hm
    subst h1
    refine Wk ?_
    exact ⟨WS, WG, WN, _, (show L.length - (u + 1) < m_1 by omega), u + 1, rfl, WF, WF, WF, WF, WC, WC⟩
  ·rw [if_neg (fun h => h1 h.1)] at hd
   have d1 : decide (zk = key) = false := decide_eq_false h1
   clear c1 hR hm
   refine Wk ?_
   exact ⟨WS, WG, WN, _, (show L.length - (u + 1) < m_1 by omega), u + 1, rfl, WF, WF, WF, WF, WC, WC⟩
end Go.Proofs.YtdmjpolnbmoehaaDoor

namespace Go.Proofs.YtdmjpolnbmoehaaDoor
open Go.Ab
attribute [local irreducible] Go.Ab.tyAV Go.Ab.aw Go.Ab.aops Go.Ab.kReg Go.Ab.aThen Go.Ab.aBlk Go.Ab.acond Go.Ab.aguard Go.Ab.astep Go.Ab.AStepX Go.Ab.aRet
theorem pSymbol_spec (kind : UInt8) (n : Nat) (_hn : n ≤ 1000000000) (k : Nat) :
  ACall Tryd.prog 49 [.lit (.int .u8 kind.toNat), .lit (.int .i64 n)] k [] (tagAV (symT kind n)) [] := by
 have e7 := sh8_wrap (n : Int) 56
 have e6 := sh8_wrap (n : Int) 48
 have e5 := sh8_wrap (n : Int) 40
 have e4 := sh8_wrap (n : Int) 32
 have e3 := sh8_wrap (n : Int) 24
 have e2 := sh8_wrap (n : Int) 16
 have e1 := sh8_wrap (n : Int) 8
 have e0 := sh8_wrap (n : Int) 0
 simp only [Int.reducePow, Int.pow_zero, Int.fdiv_one] at e7 e6 e5 e4 e3 e2 e1 e0
 have hT : (symT kind n).1 = [115, 121, 109, 98, 111, 108, kind] ++ eightB n ++ List.replicate 17 0 := rfl
 generalize symT kind n = TT at *
 obtain ⟨TT, hTl⟩ := TT
 simp only [tagAV, eightB] at hT ⊢
 generalize sh8 (n : Int) 56 = b7 at *
 generalize sh8 (n : Int) 48 = b6 at *
 generalize sh8 (n : Int) 40 = b5 at *
 generalize sh8 (n : Int) 32 = b4 at *
 generalize sh8 (n : Int) 24 = b3 at *
 generalize sh8 (n : Int) 16 = b2 at *
 generalize sh8 (n : Int) 8 = b1 at *
 generalize sh8 (n : Int) 0 = b0 at *
 have hbk : byteAV kind = .lit (.int .u8 kind.toNat) := rfl
 have hs1 : (AV.agg (TT.map byteAV)).sz = 32 := by simp only [AV.sz, szl_bytes]; exact hTl
 have hs2 : (AV.agg (TT.map byteAV)).cell = true := celll_bytes TT
 have hz6 : List.drop 6 (List.map byteAV zeroTag.val) = [.lit (.int .u8 0), .lit (.int .u8 0), .lit (.int .u8 0), .lit (.int .u8 0), .lit (.int .u8 0), .lit (.int .u8 0), .lit (.int .u8 0), .lit (.int .u8 0), .lit (.int .u8 0), .lit (.int .u8 0), .lit (.int .u8 0), .lit (.int .u8 0), .lit (.int .u8 0), .lit (.int .u8 0), .lit (.int .u8 0), .lit (.int .u8 0), .lit (.int .u8 0), .lit (.int .u8 0), .lit (.int .u8 0), .lit (.int .u8 0), .lit (.int .u8 0), .lit (.int .u8 0), .lit (.int .u8 0), .lit (.int .u8 0), .lit (.int .u8 0), .lit (.int .u8 0)] := rfl
 have h115 : byteAV 115 = .lit (.int .u8 115) := rfl
 have h121 : byteAV 121 = .lit (.int .u8 121) := rfl
 have h109 : byteAV 109 = .lit (.int .u8 109) := rfl
 have h98 : byteAV 98 = .lit (.int .u8 98) := rfl
 have h111 : byteAV 111 = .lit (.int .u8 111) := rfl
 have h108 : byteAV 108 = .lit (.int .u8 108) := rfl
 refine Bd Tryd.func49 Tryd.ntmps49 fun σ N hp hpn hk hkn hfree => ?_
 have M : Mut (N + 2) := ⟨⟩
 refine Wk ?_
 refine go_loopF mixed (by kernel_rfl) [6, 11, 12, 13, 14, 15, 16, 17, 18, 19, 20, 21, 22, 23] [N+1] (fun m_ s_ σ_ n_ => ∃ (u : Nat) (T : List AV), m_ = 8 - u ∧ s_ 11 = .lit (.int .i64 u) ∧ σ_ (N+1) = .box 24 (.agg T) ∧ (u ≤ 8) ∧ (T = [.lit (.int .u8 115), .lit (.int .u8 121), .lit (.int .u8 109), .lit (.int .u8 98), .lit (.int .u8 111), .lit (.int .u8 108), byteAV kind] ++ ([b7, b6, b5, b4, b3, b2, b1, b0].map byteAV).take u ++ ([.lit (.int .u8 0), .lit (.int .u8 0), .lit (.int .u8 0), .lit (.int .u8 0), .lit (.int .u8 0), .lit (.int .u8 0), .lit (.int .u8 0), .lit (.int .u8 0), .lit (.int .u8 0), .lit (.int .u8 0), .lit (.int .u8 0), .lit (.int .u8 0), .lit (.int .u8 0), .lit (.int .u8 0), .lit (.int .u8 0), .lit (.int .u8 0), .lit (.int .u8 0), .lit (.int .u8 0), .lit (.int .u8 0), .lit (.int .u8 0), .lit (.int .u8 0), .lit (.int .u8 0), .lit (.int .u8 0), .lit (.int .u8 0), .lit (.int .u8 0)] : List AV).drop u)) ⟨_, 0, _, rfl, WF, WF, WC, WC⟩ ?_
 intro m_1 s_1 σ_1 n_1 hs_1 hf_1 hn_1 hI_1
 obtain ⟨u, T, hm_1, h1_11, e1_0, hu, hT0⟩ := hI_1
 have h1_1 := KS hs_1 1
 have h1_4 := KS hs_1 4
 have h1_5 := KS hs_1 5
 have k1_0 := KE hf_1 (N)
 have hlow := KL (N := N) (σ := σ) hf_1
 clear hz6 h115 h121 h109 h98 h111 h108
 have hb7 : byteAV b7 = .lit (.int .u8 b7.toNat) := rfl
 have hb6 : byteAV b6 = .lit (.int .u8 b6.toNat) := rfl
 have hb5 : byteAV b5 = .lit (.int .u8 b5.toNat) := rfl
 have hb4 : byteAV b4 = .lit (.int .u8 b4.toNat) := rfl
 have hb3 : byteAV b3 = .lit (.int .u8 b3.toNat) := rfl
 have hb2 : byteAV b2 = .lit (.int .u8 b2.toNat) := rfl
 have hb1 : byteAV b1 = .lit (.int .u8 b1.toNat) := rfl
 have hb0 : byteAV b0 = .lit (.int .u8 b0.toNat) := rfl
 have hcase : u = 0 ∨ u = 1 ∨ u = 2 ∨ u = 3 ∨ u = 4 ∨ u = 5 ∨ u = 6 ∨ u = 7 ∨ u = 8 := by omega
 rcases hcase with rfl | hcase
 ·simp only [List.take_zero, List.map_cons, List.map_nil, List.cons_append, List.nil_append, List.drop_zero] at hT0
  subst hT0
  clear hT
  refine Wk ?_
  exact ⟨WS, WG, WN, _, (show 8 - (1) < m_1 by omega), 1, _, rfl, WF, WF, WC, WC⟩
 rcases hcase with rfl | hcase
 ·simp only [List.take_succ_cons, List.take_zero, List.map_cons, List.map_nil, List.cons_append, List.nil_append, List.drop_zero, List.drop_succ_cons] at hT0
  subst hT0
  clear hT
  refine Wk ?_
  exact ⟨WS, WG, WN, _, (show 8 - (2) < m_1 by omega), 2, _, rfl, WF, WF, WC, WC⟩
 rcases hcase with rfl | hcase
 ·simp only [List.take_succ_cons, List.take_zero, List.map_cons, List.map_nil, List.cons_append, List.nil_append, List.drop_zero, List.drop_succ_cons] at hT0
  subst hT0
  clear hT
  refine Wk ?_
  exact ⟨WS, WG, WN, _, (show 8 - (3) < m_1 by omega), 3, _, rfl, WF, WF, WC, WC⟩
 rcases hcase with rfl | hcase
 ·simp only [List.take_succ_cons, List.take_zero, List.map_cons, List.map_nil, List.cons_append, List.nil_append, List.drop_zero, List.drop_succ_cons] at hT0
  subst hT0
  clear hT
  refine Wk ?_
  exact ⟨WS, WG, WN, _, (show 8 - (4) < m_1 by omega), 4, _, rfl, WF, WF, WC, WC⟩
 rcases hcase with rfl | hcase
 ·simp only [List.take_succ_cons, List.take_zero, List.map_cons, List.map_nil, List.cons_append, List.nil_append, List.drop_zero, List.drop_succ_cons] at hT0
  subst hT0
  clear hT
  refine Wk ?_
  exact ⟨WS, WG, WN, _, (show 8 - (5) < m_1 by omega), 5, _, rfl, WF, WF, WC, WC⟩
 rcases hcase with rfl | hcase
 ·simp only [List.take_succ_cons, List.take_zero, List.map_cons, List.map_nil, List.cons_append, List.nil_append, List.drop_zero, List.drop_succ_cons] at hT0
  subst hT0
  clear hT
  refine Wk ?_
  exact ⟨WS, WG, WN, _, (show 8 - (6) < m_1 by omega), 6, _, rfl, WF, WF, WC, WC⟩
 rcases hcase with rfl | hcase
 ·simp only [List.take_succ_cons, List.take_zero, List.map_cons, List.map_nil, List.cons_append, List.nil_append, List.drop_zero, List.drop_succ_cons] at hT0
  subst hT0
  clear hT
  refine Wk ?_
  exact ⟨WS, WG, WN, _, (show 8 - (7) < m_1 by omega), 7, _, rfl, WF, WF, WC, WC⟩
 rcases hcase with rfl | hcase
 ·simp only [List.take_succ_cons, List.take_zero, List.map_cons, List.map_nil, List.cons_append, List.nil_append, List.drop_zero, List.drop_succ_cons] at hT0
  subst hT0
  clear hT
  refine Wk ?_
  exact ⟨WS, WG, WN, _, (show 8 - (8) < m_1 by omega), 8, _, rfl, WF, WF, WC, WC⟩
 subst hcase
 have hT1 : T = TT.map byteAV := by rw [hT, hT0]; rfl
 rw [hT1] at e1_0
 clear hT hT0 hT1 hb7 hb6 hb5 hb4 hb3 hb2 hb1 hb0
 exact W0

theorem within_eq (x n : Int) (h : 0 < n) : (x.tmod n + n).tmod n = x % n := by
 have h2 : -n < x.tmod n := by have := Int.lt_tmod_of_pos x h; omega
 rw [Int.tmod_eq_emod_of_nonneg (by omega), Int.add_emod_right, Int.tmod_eq_emod]
 split
 ·rename_i hh; simp
 ·rw [Int.sub_emod]; have : n ∣ n.natAbs := by rw [Int.dvd_natAbs]; exact Int.dvd_refl n
  simp [Int.emod_emod_of_dvd, Int.emod_eq_zero_of_dvd this]
theorem Within_spec (x n : Int) (h : 0 < n) (hn : n ≤ 1000000000000000000) (k : Nat) :
  ACall Tryd.prog 32 [.lit (.int .i64 x), .lit (.int .i64 n)] k [] (.lit (.int .i64 (x % n))) [] := by
 have h0 : n ≠ 0 := by omega
 have h1 : x.tmod n < n := Int.tmod_lt_of_pos x h
 have h2 : -n < x.tmod n := by have := Int.lt_tmod_of_pos x h; omega
 refine Bd Tryd.func32 Tryd.ntmps32 fun σ N hp hpn hk hkn hfree => ?_
 refine Wk ?_
 exact go_result (by simp (disch := omega) [go_sem, *, -List.reduceReplicate]; rfl) (by simp only [AV.ren, within_eq x n h]) (fun id _ => rfl)
def deckBox (l : List Int) (i : Nat) : Ent := .box 91 (.agg [.slice none (l.map intAV), .lit (.int .i64 i)])
@[simp, go_sem] theorem deckBox_ne (l : List Int) (i : Nat) : (deckBox l i = .none) = False := by simp [deckBox]
@[go_sem] theorem deckBox_ren (l : List Int) (i : Nat) (f : Nat → Option Nat) : (deckBox l i).ren f = deckBox l i := by
 simp only [deckBox, ent_ren_box, AV.ren, AV.renl, renl_ints, Option.bind_none]
def Dk (l : List Int) (i : Nat) : Prop := l.length ≤ 9223372036854775807 ∧ i ≤ l.length
theorem New_spec (l : List Int) (k : Nat) : ACall Tryd.prog 9 [.slice none (l.map intAV)] k [] (.ptr k [] 0) [(k, deckBox l 0)] := by
 unfold deckBox
 refine Bd Tryd.func9 Tryd.ntmps9 fun σ N hp hpn hk hkn hfree => ?_
 refine Wk ?_
 refine go_result1 (r0 := N+3) (by simp (disch := omega) [go_sem, *, -List.reduceReplicate]; rfl) (by omega) (by simp (disch := omega) [go_sem]; try rfl) (fun id hid => by simp (disch := omega) only [upd_ne]; try exact hlow id hid) (by simp (disch := omega) only [upd_same]; rfl) (by simp (disch := omega) [go_sem])
theorem Next_none (l : List Int) (i : Nat) (n : Int) (hi : l.length ≤ i) (_hb : i ≤ 9223372036854775807) (d k : Nat) :
  ACall Tryd.prog 29 [.ptr d [] 0, .lit (.int .i64 n)] k [(d, deckBox l i)] (.lit (.int .i64 0)) [(d, deckBox l i)] := by
 unfold deckBox
 refine Bd Tryd.func29 Tryd.ntmps29 fun σ N hp hpn hk hkn hfree => ?_
 have hd := hp _ (List.mem_singleton.2 rfl)
 have hdn := hpn _ (List.mem_singleton.2 rfl)
 simp only at hd hdn
 clear hp hpn
 refine Wk ?_
 exact RW (d) (.box 91 (.agg [.slice none (l.map intAV), .lit (.int .i64 i)]))
theorem Next_some (l : List Int) (i : Nat) (n : Int) (hi : i < l.length) (hb : l.length ≤ 9223372036854775807) (h0 : 0 < n) (hn : n ≤ 1000000000000000000) (d k : Nat) :
  ACall Tryd.prog 29 [.ptr d [] 0, .lit (.int .i64 n)] k [(d, deckBox l i)] (.lit (.int .i64 (l[i] % n))) [(d, deckBox l (i + 1))] := by
 obtain ⟨x, hx⟩ : ∃ x, l[i] = x := ⟨_, rfl⟩
 have c1 := Within_spec x n h0 hn
 have hxx : intAV x = .lit (.int .i64 x) := rfl
 rw [hx]
 unfold deckBox
 refine Bd Tryd.func29 Tryd.ntmps29 fun σ N hp hpn hk hkn hfree => ?_
 have hd := hp _ (List.mem_singleton.2 rfl)
 have hdn := hpn _ (List.mem_singleton.2 rfl)
 simp only at hd hdn
 clear hp hpn
 have hcs := And.intro c1 True.intro
 refine Wk ?_
 exact RW (d) (.box 91 (.agg [.slice none (l.map intAV), .lit (.int .i64 ((i : Int) + 1))]))
def nextD (l : List Int) (i : Nat) (n : Nat) : Nat × Nat := if h : i < l.length then ((l[i] % (n : Int)).toNat, i + 1) else (0, i)
theorem nextD_lt (l : List Int) (i : Nat) (n : Nat) (h : 0 < n) : (nextD l i n).1 < n := by
 unfold nextD
 split
 ·have := Int.emod_nonneg l[i] (show (n : Int) ≠ 0 by omega)
  have := Int.emod_lt_of_pos l[i] (show (0 : Int) < (n : Int) by omega)
  simp only; omega
 ·exact h
theorem nextD_dk {l : List Int} {i : Nat} (n : Nat) (h : Dk l i) : Dk l (nextD l i n).2 := by
 unfold nextD Dk at *
 split
 ·exact ⟨h.1, by simp only; omega⟩
 ·exact h
theorem Next_spec (l : List Int) (i : Nat) (n : Nat) (h : Dk l i) (h0 : 0 < n) (hn : n ≤ 1000000000000000000) (d k : Nat) :
  ACall Tryd.prog 29 [.ptr d [] 0, .lit (.int .i64 n)] k [(d, deckBox l i)] (.lit (.int .i64 (nextD l i n).1)) [(d, deckBox l (nextD l i n).2)] := by
 unfold nextD
 split
 ·rename_i hi
  have := Next_some l i n hi h.1 (by omega) (by omega) d k
  have e : ((l[i] % (n : Int)).toNat : Int) = l[i] % (n : Int) := Int.toNat_of_nonneg (Int.emod_nonneg _ (by omega))
  simp only [e]; exact this
 ·rename_i hi; exact Next_none l i n (by omega) (by have := h.1; have := h.2; omega) d k
theorem Next_ex (l : List Int) (i : Nat) (n : Nat) (h : Dk l i) (h0 : 0 < n) (hn : n ≤ 1000000000000000000) :
  ∃ x j : Nat, x < n ∧ Dk l j ∧ ∀ d k, ACall Tryd.prog 29 [.ptr d [] 0, .lit (.int .i64 n)] k [(d, deckBox l i)] (.lit (.int .i64 x)) [(d, deckBox l j)] :=
 ⟨_, _, nextD_lt l i n h0, nextD_dk n h, Next_spec l i n h h0 hn⟩

def rangeD (l : List Int) (i lo n : Nat) : Nat × Nat := (lo + (nextD l i n).1, (nextD l i n).2)
theorem Range_spec (l : List Int) (i : Nat) (lo hi n : Nat) (h : Dk l i) (hlo : lo ≤ 1000000000) (hhi : hi ≤ 1000000000) (hn : hi + 1 = lo + n) (h0 : 0 < n) (d k : Nat) :
  ACall Tryd.prog 52 [.ptr d [] 0, .lit (.int .i64 lo), .lit (.int .i64 hi)] k [(d, deckBox l i)] (.lit (.int .i64 (rangeD l i lo n).1)) [(d, deckBox l (rangeD l i lo n).2)] := by
 have c1 := Next_spec l i n h h0 (by omega)
 have b1 := nextD_lt l i n h0
 unfold rangeD
 generalize nextD l i n = X at *
 obtain ⟨x, j⟩ := X
 simp only at c1 b1 ⊢
 have hx : (hi : Int) - lo + 1 = n := by omega
 have hc : ((lo + x : Nat) : Int) = (lo : Int) + x := by omega
 rw [hc]
 clear hc
 refine Bd Tryd.func52 Tryd.ntmps52 fun σ N hp hpn hk hkn hfree => ?_
 obtain ⟨hd, hdn⟩ := HD0 hp hpn; clear hp hpn
 have hcs := And.intro (c1 d) True.intro
 clear c1
 refine Wk ?_
 exact RW (d) (deckBox l j)
theorem rangeD_dk {l : List Int} {i lo n : Nat} (h : Dk l i) : Dk l (rangeD l i lo n).2 := nextD_dk n h

structure Pr where
 kind : Int
 mask : Int
 frm : Int
 to : Int
 name : List UInt8
 num : Int
deriving DecidableEq
def prAV (p : Pr) : AV := .agg [.lit (.int .i64 p.kind), .lit (.int .u64 p.mask), .lit (.int .i64 p.frm), .lit (.int .i64 p.to), .lit (.string ⟨p.name.toArray⟩), .lit (.int .i64 p.num)]
@[go_sem] theorem prAV_sz (p : Pr) : (prAV p).sz = 6 := rfl
@[go_sem] theorem prAV_isAgg (p : Pr) : (prAV p).isAgg = true := rfl
@[go_sem] theorem prAV_cell (p : Pr) : (prAV p).cell = true := rfl
@[go_sem] theorem prAV_ren (f : Nat → Option Nat) (p : Pr) : (prAV p).ren f = prAV p := rfl
theorem pr_eqB (a b : Pr) : (a.kind == b.kind && (a.mask == b.mask && (a.frm == b.frm && (a.to == b.to && (a.name == b.name && a.num == b.num))))) = decide (a = b) := by
 obtain ⟨a1, a2, a3, a4, a5, a6⟩ := a
 obtain ⟨b1, b2, b3, b4, b5, b6⟩ := b
 rw [Bool.eq_iff_iff]; simp
theorem barr_eq (l m : List UInt8) : ((ByteArray.mk l.toArray) == (ByteArray.mk m.toArray)) = (l == m) := by
 show (l.toArray == m.toArray) = (l == m)
 simp
theorem ev_pr_eq (a b : Pr) : evBin Tryd.prog .eql 54 (prAV a) (prAV b) = some ⟨[], .lit (.bool (decide (a = b))), []⟩ := by
 rw [← pr_eqB]
 simp only [evBin, prAV, evEqA, eq54, eqA, eqAs]
 simp
theorem ev_pr_ne (a b : Pr) : evBin Tryd.prog .neq 54 (prAV a) (prAV b) = some ⟨[], .lit (.bool (!decide (a = b))), []⟩ := by
 rw [← pr_eqB]
 simp only [evBin, prAV, evEqA, eq54, eqA, eqAs]
 simp
attribute [go_sem high] ev_pr_eq ev_pr_ne
@[go_sem high] theorem ev_pr_eq0 (a1 a2 a3 a4 a6 b1 b2 b3 b4 b6 : Int) (a5 b5 : List UInt8) :
  evBin Tryd.prog .eql 54 (.agg [.lit (.int .i64 a1), .lit (.int .u64 a2), .lit (.int .i64 a3), .lit (.int .i64 a4), .lit (.string ⟨a5.toArray⟩), .lit (.int .i64 a6)]) (.agg [.lit (.int .i64 b1), .lit (.int .u64 b2), .lit (.int .i64 b3), .lit (.int .i64 b4), .lit (.string ⟨b5.toArray⟩), .lit (.int .i64 b6)]) =
   some ⟨[], .lit (.bool (decide ((⟨a1, a2, a3, a4, a5, a6⟩ : Pr) = ⟨b1, b2, b3, b4, b5, b6⟩))), []⟩ := ev_pr_eq ⟨a1, a2, a3, a4, a5, a6⟩ ⟨b1, b2, b3, b4, b5, b6⟩
@[go_sem high] theorem ev_pr_eq1 (a1 a2 a3 a4 a6 b1 b2 b3 b4 b6 : Int) (a5 : List UInt8) :
  evBin Tryd.prog .eql 54 (.agg [.lit (.int .i64 a1), .lit (.int .u64 a2), .lit (.int .i64 a3), .lit (.int .i64 a4), .lit (.string ⟨a5.toArray⟩), .lit (.int .i64 a6)]) (.agg [.lit (.int .i64 b1), .lit (.int .u64 b2), .lit (.int .i64 b3), .lit (.int .i64 b4), .lit (.string ByteArray.empty), .lit (.int .i64 b6)]) =
   some ⟨[], .lit (.bool (decide ((⟨a1, a2, a3, a4, a5, a6⟩ : Pr) = ⟨b1, b2, b3, b4, [], b6⟩))), []⟩ := ev_pr_eq ⟨a1, a2, a3, a4, a5, a6⟩ ⟨b1, b2, b3, b4, [], b6⟩
def nmc (c : UInt8) : Bool := decide (97 ≤ c.toNat) && decide (c.toNat ≤ 122)
def nameB (s : List UInt8) : Bool := decide (1 ≤ s.length) && decide (s.length ≤ 16) && s.all nmc
theorem nameB_bad {s : List UInt8} {u : Nat} (hu : u < s.length) (h : nmc s[u] = false) : nameB s = false := by
 have : s.all nmc = false := by
  rw [List.all_eq_false]
  exact ⟨s[u], List.getElem_mem hu, by simp [h]⟩
 simp [nameB, this]
theorem name_gen (s : List UInt8) (r : Bool) (hr : nameB s = r) (hl : s.length ≤ 9223372036854775807) (k : Nat) :
  ACall Tryd.prog 106 [.lit (.string ⟨s.toArray⟩)] k [] (.lit (.bool r)) [] := by
 by_cases h1 : s.length < 1
 ·have : r = false := by rw [← hr]; simp [nameB, show ¬ 1 ≤ s.length by omega]
  subst this
  clear hr
  have hi : (s.length : Int) < 1 := by omega
  refine Bd Tryd.func106 Tryd.ntmps106 fun σ N hp hpn hk hkn hfree => ?_
  exact W0
 ·have hi : ¬ (s.length : Int) < 1 := by omega
  by_cases h2 : 16 < s.length
  ·have : r = false := by rw [← hr]; simp [nameB, show ¬ s.length ≤ 16 by omega]
   subst this
   clear hr
   have hi2 : (16 : Int) < (s.length : Int) := by omega
   refine Bd Tryd.func106 Tryd.ntmps106 fun σ N hp hpn hk hkn hfree => ?_
   exact W0
  ·have hi2 : ¬ (16 : Int) < (s.length : Int) := by omega
   refine Bd Tryd.func106 Tryd.ntmps106 fun σ N hp hpn hk hkn hfree => ?_
   refine Wk ?_
   refine go_loopF mixed (by kernel_rfl) [2, 3, 14, 15, 16, 17, 18, 19, 20, 21, 22, 23, 24, 25, 26, 27] [] (fun m_ s_ σ_ n_ => ∃ (u : Nat), m_ = s.length - u ∧ s_ 14 = .lit (.int .i64 u) ∧ (u ≤ s.length) ∧ (∀ c ∈ s.take u, nmc c = true)) ⟨_, 0, rfl, WF, WC, WC⟩ ?_
   intro m_1 s_1 σ_1 n_1 hs_1 hf_1 hn_1 hI_1
   obtain ⟨u, hm_1, h1_14, hu, hall⟩ := hI_1
   have h1_0 := KS hs_1 0
   have h1_13 := KS hs_1 13
   have hlow := KL (N := N) (σ := σ) hf_1
   by_cases hul : u = s.length
   ·have : r = true := by
     rw [← hr]
     rw [hul, List.take_length] at hall
     simp only [nameB, Bool.and_eq_true, decide_eq_true_eq, List.all_eq_true]
     exact ⟨⟨by omega, by omega⟩, hall⟩
    subst this
    subst hul
    clear hall hr
    exact W0
   ·have hui : u < s.length := by omega
    obtain ⟨c, hc⟩ : ∃ c, s[u] = c := ⟨_, rfl⟩
    have hcl := c.toNat_lt
    by_cases hg : nmc c = true
    ·have hall2 : ∀ c ∈ s.take (u + 1), nmc c = true := by
      intro x hx
      rw [List.take_add_one, List.getElem?_eq_getElem hui, hc] at hx
      simp only [Option.toList, List.mem_append, List.mem_singleton] at hx
      rcases hx with hx | rfl
      ·exact hall x hx
      ·exact hg
     simp only [nmc, Bool.and_eq_true, decide_eq_true_eq] at hg
     have g1 : ¬ (c.toNat : Int) < 97 := by omega
     have g2 : ¬ (122 : Int) < (c.toNat : Int) := by omega
     clear hall hg hr
     refine Wk ?_
     exact ⟨WS, WG, WN, _, (show s.length - (u + 1) < m_1 by omega), u + 1, rfl, WF, WC, WC⟩
    ·have hb : nmc c = false := by simpa using hg
     have : r = false := by rw [← hr]; exact nameB_bad hui (by rw [hc]; exact hb)
     subst this
     clear hall hr
     by_cases g1 : (c.toNat : Int) < 97
     ·clear hg hb
      exact W0
     ·have g2 : (122 : Int) < (c.toNat : Int) := by
       simp only [nmc, Bool.and_eq_false_iff, decide_eq_false_iff_not] at hb
       omega
      clear hg hb
      exact W0
theorem refname_gen (s : List UInt8) (r : Bool) (hr : nameB s = r) (hl : s.length ≤ 9223372036854775807) (k : Nat) :
  ACall Tryd.prog 83 [.lit (.string ⟨s.toArray⟩)] k [] (.lit (.bool r)) [] := by
 by_cases h1 : s.length < 1
 ·have : r = false := by rw [← hr]; simp [nameB, show ¬ 1 ≤ s.length by omega]
  subst this
  clear hr
  have hi : (s.length : Int) < 1 := by omega
  refine Bd Tryd.func83 Tryd.ntmps83 fun σ N hp hpn hk hkn hfree => ?_
  exact W0
 ·have hi : ¬ (s.length : Int) < 1 := by omega
  by_cases h2 : 16 < s.length
  ·have : r = false := by rw [← hr]; simp [nameB, show ¬ s.length ≤ 16 by omega]
   subst this
   clear hr
   have hi2 : (16 : Int) < (s.length : Int) := by omega
   refine Bd Tryd.func83 Tryd.ntmps83 fun σ N hp hpn hk hkn hfree => ?_
   exact W0
  ·have hi2 : ¬ (16 : Int) < (s.length : Int) := by omega
   refine Bd Tryd.func83 Tryd.ntmps83 fun σ N hp hpn hk hkn hfree => ?_
   refine Wk ?_
   refine go_loopF mixed (by kernel_rfl) [2, 3, 12, 13, 14, 15, 16, 17, 18, 19, 20, 21, 22, 23, 24, 25, 26, 27] [] (fun m_ s_ σ_ n_ => ∃ (u : Nat), m_ = s.length - u ∧ s_ 3 = .lit (.int .i64 u) ∧ (u ≤ s.length) ∧ (∀ c ∈ s.take u, nmc c = true)) ⟨_, 0, rfl, WF, WC, WC⟩ ?_
   intro m_2 s_2 σ_2 n_2 hs_2 hf_2 hn_2 hI_2
   obtain ⟨u, hm_2, h2_3, hu, hall⟩ := hI_2
   have h2_0 := KS hs_2 0
   have hlow := KL (N := N) (σ := σ) hf_2
   by_cases hul : u = s.length
   ·have : r = true := by
     rw [← hr]
     rw [hul, List.take_length] at hall
     simp only [nameB, Bool.and_eq_true, decide_eq_true_eq, List.all_eq_true]
     exact ⟨⟨by omega, by omega⟩, hall⟩
    subst this
    subst hul
    clear hall hr
    exact W0
   ·have hui : u < s.length := by omega
    obtain ⟨c, hc⟩ : ∃ c, s[u] = c := ⟨_, rfl⟩
    have hcl := c.toNat_lt
    by_cases hg : nmc c = true
    ·have hall2 : ∀ c ∈ s.take (u + 1), nmc c = true := by
      intro x hx
      rw [List.take_add_one, List.getElem?_eq_getElem hui, hc] at hx
      simp only [Option.toList, List.mem_append, List.mem_singleton] at hx
      rcases hx with hx | rfl
      ·exact hall x hx
      ·exact hg
     simp only [nmc, Bool.and_eq_true, decide_eq_true_eq] at hg
     have g1 : ¬ (c.toNat : Int) < 97 := by omega
     have g2 : ¬ (122 : Int) < (c.toNat : Int) := by omega
     clear hall hg hr
     refine Wk ?_
     exact ⟨WS, WG, WN, _, (show s.length - (u + 1) < m_2 by omega), u + 1, rfl, WF, WC, WC⟩
    ·have hb : nmc c = false := by simpa using hg
     have : r = false := by rw [← hr]; exact nameB_bad hui (by rw [hc]; exact hb)
     subst this
     clear hall hr
     by_cases g1 : (c.toNat : Int) < 97
     ·clear hg hb
      exact W0
     ·have g2 : (122 : Int) < (c.toNat : Int) := by
       simp only [nmc, Bool.and_eq_false_iff, decide_eq_false_iff_not] at hb
       omega
      clear hg hb
      exact W0
theorem name_spec (s : List UInt8) (hl : s.length ≤ 9223372036854775807) (k : Nat) :
  ACall Tryd.prog 106 [.lit (.string ⟨s.toArray⟩)] k [] (.lit (.bool (nameB s))) [] := name_gen s _ rfl hl k
def maskB (m : Int) (n : Nat) : Bool := decide (m ≠ 0) && decide (m < 2 ^ n)
theorem mask_spec (m : Int) (h0 : 0 ≤ m) (h1 : m < 18446744073709551616) (n : Nat) (hn : n = 64 ∨ n = 32 ∨ n = 7) (k : Nat) :
  ACall Tryd.prog 105 [.lit (.int .u64 m), .lit (.int .i64 n)] k [] (.lit (.bool (maskB m n))) [] := by
 by_cases hm : m = 0
 ·subst hm
  simp only [maskB, ne_eq, not_true_eq_false, decide_false, Bool.false_and]
  refine Bd Tryd.func105 Tryd.ntmps105 fun σ N hp hpn hk hkn hfree => ?_
  exact W0
 ·have hmb : (m == 0) = false := by simp [hm]
  have hmc : (m != 0) = true := by simp [hm]
  have e0 : decide (m ≠ 0) = true := by simp [hm]
  unfold maskB
  rw [e0, Bool.true_and]
  clear e0
  rcases hn with rfl | rfl | rfl
  ·have e1 : decide (m < 2 ^ 64) = true := by simp; omega
   rw [e1]
   clear e1
   refine Bd Tryd.func105 Tryd.ntmps105 fun σ N hp hpn hk hkn hfree => ?_
   exact W0
  ·have e1 : (m.fdiv 4294967296 == 0) = decide (m < 2 ^ 32) := by
    rw [Int.fdiv_eq_ediv_of_nonneg _ (by omega), Bool.eq_iff_iff, beq_iff_eq, decide_eq_true_eq]; omega
   generalize decide (m < 2 ^ 32) = r at *
   cases r with
   | true =>
    refine Bd Tryd.func105 Tryd.ntmps105 fun σ N hp hpn hk hkn hfree => ?_
    exact W0
   | false =>
    refine Bd Tryd.func105 Tryd.ntmps105 fun σ N hp hpn hk hkn hfree => ?_
    exact W0
  ·have e1 : (m.fdiv 128 == 0) = decide (m < 2 ^ 7) := by
    rw [Int.fdiv_eq_ediv_of_nonneg _ (by omega), Bool.eq_iff_iff, beq_iff_eq, decide_eq_true_eq]; omega
   generalize decide (m < 2 ^ 7) = r at *
   cases r with
   | true =>
    refine Bd Tryd.func105 Tryd.ntmps105 fun σ N hp hpn hk hkn hfree => ?_
    exact W0
   | false =>
    refine Bd Tryd.func105 Tryd.ntmps105 fun σ N hp hpn hk hkn hfree => ?_
    exact W0
end Go.Proofs.YtdmjpolnbmoehaaDoor

namespace Go.Proofs.YtdmjpolnbmoehaaDoor
open Go.Ab
attribute [local irreducible] Go.Ab.tyAV Go.Ab.aw Go.Ab.aops Go.Ab.kReg Go.Ab.aThen Go.Ab.aBlk Go.Ab.acond Go.Ab.aguard Go.Ab.astep Go.Ab.AStepX Go.Ab.aRet
attribute [local irreducible] shaG
section
variable [W : W32]
def derT (seed : Tg) (n : Int) : Tg := hmacT seed.1 ([102, 114, 101, 115, 104, 0] ++ eightB n)
def keyS (a : Alg) : Alg × Tg × Nat :=
 if 65536 ≤ a.fresh then (alg0, zeroTag, 2) else ({ a with fresh := a.fresh + 1 }, if a.free then symT 107 (a.fresh + 1) else derT a.seed (a.fresh + 1), 0)
def macS (a : Alg) (key : Tg) (msg : List UInt8) : Alg × Tg × Nat :=
 if 4096 < msg.length then (alg0, zeroTag, 2) else match entL key msg a.macs with
  | some t => (a, t, 0)
  | none => if 65536 ≤ a.macs.length then (alg0, zeroTag, 2) else
   let t := if a.free then symT 109 (a.macs.length + 1) else hmacT key.1 msg
   ({ a with macs := a.macs ++ [⟨key, msg, t⟩] }, t, 0)
def mkAV (r : Alg × Tg × Nat) : AV := .tup [algAV r.1, tagAV r.2.1, .lit (.int .i64 (r.2.2 : Nat))]
theorem Derive_spec (seed : Tg) (n : Nat) (hn : n ≤ 1000000000) (k : Nat) :
  ACall Tryd.prog 51 [tagAV seed, strAV [102, 114, 101, 115, 104], .lit (.int .i64 n)] k [] (.tup [tagAV (derT seed n), .lit (.int .i64 0)]) [] := by
 have c1 := refname_gen [102, 114, 101, 115, 104] true (by decide) (by simp)
 have c2 := Eight_spec (n : Int) (by omega) (by omega)
 have hel := eightB_len (n : Int)
 unfold derT
 have c3 := Hmac_spec seed.1 ([102, 114, 101, 115, 104, 0] ++ eightB n) (by rw [seed.2]; decide) (by simp [hel])
 generalize hmacT seed.1 ([102, 114, 101, 115, 104, 0] ++ eightB n) = T at *
 generalize eightB (n : Int) = E at *
 have hs1 := tagAV_sz seed
 have hs2 := tagAV_cell seed
 obtain ⟨S, hS⟩ := seed
 simp only at c3
 simp only [tagAV] at hs1 hs2 ⊢
 have htk : (S.map byteAV).take 32 = S.map byteAV := List.take_of_length_le (by rw [List.length_map]; omega)
 unfold strAV
 refine Bd Tryd.func51 Tryd.ntmps51 fun σ N hp hpn hk hkn hfree => ?_
 have hcs := And.intro c1 (And.intro c2 (And.intro c3 True.intro))
 clear c1 c2 c3
 exact W0
theorem Key_spec (a : Alg) (h0 : 0 ≤ a.fresh) (k : Nat) :
  ACall Tryd.prog 18 [algAV a] k [] (mkAV (keyS a)) [] := by
 obtain ⟨fr, sd, fs, L, B⟩ := a
 simp only at h0
 obtain ⟨n, rfl⟩ := Int.eq_ofNat_of_zero_le h0
 unfold keyS mkAV
 simp only [algAV] at *
 by_cases h1 : (65536 : Int) ≤ (n : Int)
 ·rw [if_pos h1]
  simp only [alg0, List.map_nil]
  refine Bd Tryd.func18 Tryd.ntmps18 fun σ N hp hpn hk hkn hfree => ?_
  exact WT
 ·rw [if_neg h1]
  have hn1 : (n : Int) + 1 = ((n + 1 : Nat) : Int) := by omega
  cases fr with
  | true =>
   have c1 := Symbol_spec 107 (n + 1) (by omega)
   rw [hn1]
   simp only [if_true]
   generalize symT 107 ((n + 1 : Nat) : Int) = T at *
   have e107 : ((107 : UInt8).toNat : Int) = 107 := rfl
   rw [e107] at c1
   clear hn1
   refine Bd Tryd.func18 Tryd.ntmps18 fun σ N hp hpn hk hkn hfree => ?_
   have hcs := And.intro c1 True.intro
   clear c1 e107
   exact W0
  | false =>
   have c1 := Derive_spec sd (n + 1) (by omega)
   rw [hn1]
   simp only [Bool.false_eq_true, if_false]
   generalize derT sd ((n + 1 : Nat) : Int) = T at *
   unfold strAV at c1
   clear hn1
   refine Bd Tryd.func18 Tryd.ntmps18 fun σ N hp hpn hk hkn hfree => ?_
   have hcs := And.intro c1 True.intro
   clear c1
   exact W0
end

theorem alg0_eq : algAV alg0 = .agg [.lit (.bool false), tagAV zeroTag, .lit (.int .i64 0), .slice none [], .slice none []] := rfl
theorem snocM {K msg : List UInt8} {t : Tg} (L : List MacE) (hK : K.length = 32) (a b : Option Nat) : AV.le (.slice a (L.map macAV ++ [.agg [.agg (K.map byteAV), .slice b (msg.map byteAV), tagAV t]])) (.slice none ((L ++ [(⟨⟨K, hK⟩, msg, t⟩ : MacE)]).map macAV)) := fun g v h => by
 rw [List.map_append]
 exact AV.le_own _ _ g v (AV.le_sliceS a (ALe.snoc (AV.sub_agg (.cons (AV.le_refl _) (.cons (AV.le_own b _) (.cons (AV.le_refl _) .nil))))) g v h)
section
variable [W : W32]
theorem macS_long {a : Alg} {key : Tg} {msg : List UInt8} (h : 4096 < msg.length) : macS a key msg = (alg0, zeroTag, 2) := by unfold macS; rw [if_pos h]
theorem macS_found {a : Alg} {key : Tg} {msg : List UInt8} {t : Tg} (h : ¬ 4096 < msg.length) (he : entL key msg a.macs = some t) : macS a key msg = (a, t, 0) := by unfold macS; rw [if_neg h, he]
theorem macS_full {a : Alg} {key : Tg} {msg : List UInt8} (h : ¬ 4096 < msg.length) (he : entL key msg a.macs = none) (hf : 65536 ≤ a.macs.length) : macS a key msg = (alg0, zeroTag, 2) := by unfold macS; rw [if_neg h, he]; simp only; rw [if_pos hf]
theorem macS_new {a : Alg} {key : Tg} {msg : List UInt8} (h : ¬ 4096 < msg.length) (he : entL key msg a.macs = none) (hf : ¬ 65536 ≤ a.macs.length) : macS a key msg = ({ a with macs := a.macs ++ [⟨key, msg, if a.free then symT 109 (a.macs.length + 1) else hmacT key.1 msg⟩] }, if a.free then symT 109 (a.macs.length + 1) else hmacT key.1 msg, 0) := by unfold macS; rw [if_neg h, he]; simp only; rw [if_neg hf]
set_option maxHeartbeats 2000000 in
theorem Mac_spec (a : Alg) (key : Tg) (msg : List UInt8) (hl : a.macs.length ≤ 1000000) (hm : ∀ e ∈ a.macs, e.msg.length ≤ 100000) (k : Nat) :
  ACall Tryd.prog 38 [algAV a, tagAV key, .slice none (msg.map byteAV)] k [] (mkAV (macS a key msg)) [] := by
 have c1 := entry_spec a key msg hl hm
 by_cases h1 : 4096 < msg.length
 ·rw [macS_long h1]
  have h1i : (4096 : Int) < (msg.length : Int) := by omega
  unfold mkAV
  simp only [alg0_eq]
  clear c1
  refine Bd Tryd.func38 Tryd.ntmps38 fun σ N hp hpn hk hkn hfree => ?_
  exact WT
 ·have h1i : ¬ (4096 : Int) < (msg.length : Int) := by omega
  cases he : entL key msg a.macs with
  | some t =>
   rw [macS_found h1 he]
   rw [he] at c1
   unfold entAV at c1
   simp only [Option.getD_some, Option.isSome_some] at c1
   unfold mkAV
   simp only
   refine Bd Tryd.func38 Tryd.ntmps38 fun σ N hp hpn hk hkn hfree => ?_
   have hcs := And.intro c1 True.intro
   clear c1 he hm
   exact W0
  | none =>
   rw [he] at c1
   unfold entAV at c1
   simp only [Option.getD_none, Option.isSome_none] at c1
   by_cases hf : 65536 ≤ a.macs.length
   ·rw [macS_full h1 he hf]
    obtain ⟨fr, sd, fs, L, B⟩ := a
    simp only at hf hl hm
    unfold mkAV
    simp only [alg0_eq]
    simp only [algAV] at c1 ⊢
    have hfi : (65536 : Int) ≤ (L.length : Int) := by omega
    refine Bd Tryd.func38 Tryd.ntmps38 fun σ N hp hpn hk hkn hfree => ?_
    have hcs := And.intro c1 True.intro
    clear c1 he hm
    exact WT
   ·rw [macS_new h1 he hf]
    obtain ⟨fr, sd, fs, L, B⟩ := a
    simp only at hf hl hm
    have hfi : ¬ (65536 : Int) ≤ (L.length : Int) := by omega
    have c2 := Hmac_spec key.1 msg (by rw [key.2]; decide) (by omega)
    have hb : (L.length + 1) * 88 ≤ 140737488355328 := by omega
    have hb0 : L.length * 88 ≤ 140737488355328 := by omega
    have hb1 : L.length ≤ 140737488355327 := by omega
    unfold mkAV
    cases fr with
    | false =>
     simp only [Bool.false_eq_true, if_false]
     generalize hmacT key.1 msg = t at *
     have hs1 := tagAV_sz key
     have hs2 := tagAV_cell key
     have hmA : macAV ⟨key, msg, t⟩ = .agg [tagAV key, bAV msg, tagAV t] := rfl
     have hmb := bAV_def msg
     obtain ⟨K, hK⟩ := key
     have hkA : tagAV ⟨K, hK⟩ = .agg (K.map byteAV) := rfl
     simp only [hkA] at hs1 hs2 c1 c2 hmA ⊢
     clear hkA
     have hs3 : AV.celll (K.map byteAV) = true := celll_bytes K
     have htk : (K.map byteAV).take 32 = K.map byteAV := List.take_of_length_le (by rw [List.length_map]; omega)
     simp only [algAV] at c1 ⊢
     refine Bd Tryd.func38 Tryd.ntmps38 fun σ N hp hpn hk hkn hfree => ?_
     have hcs := And.intro c1 (And.intro c2 True.intro)
     clear c1 c2 he hm hmA hmb
     refine Wm ?_
     iterate 8 refine Wz ?_
     refine go_lessIn N [3] (.slice none ((L ++ [(⟨⟨K, hK⟩, msg, t⟩ : MacE)]).map macAV)) (bt := 30) (c := .agg [.lit (.bool false), tagAV sd, .lit (.int .i64 fs), .slice (some (N + 30)) (L.map macAV ++ [.agg [.agg (K.map byteAV), .slice (some (N + 30 + 5)) (msg.map byteAV), tagAV t]]), .slice none (B.map sealAV)]) (by simp (disch := omega) [go_sem, *, -List.reduceReplicate]) rfl (snocM L hK _ _) rfl rfl ?_
     exact W0
    | true =>
     simp only [if_true]
     have c3 := Symbol_spec 109 (L.length + 1) (by omega)
     have e109 : ((109 : UInt8).toNat : Int) = 109 := rfl
     have hn1 : ((L.length + 1 : Nat) : Int) = (L.length : Int) + 1 := by omega
     rw [e109, hn1] at c3
     clear e109 hn1
     generalize hmacT key.1 msg = t0 at *
     generalize symT 109 ((L.length : Int) + 1) = t at *
     have hs1 := tagAV_sz key
     have hs2 := tagAV_cell key
     have hmA : macAV ⟨key, msg, t⟩ = .agg [tagAV key, bAV msg, tagAV t] := rfl
     have hmb := bAV_def msg
     obtain ⟨K, hK⟩ := key
     have hkA : tagAV ⟨K, hK⟩ = .agg (K.map byteAV) := rfl
     simp only [hkA] at hs1 hs2 c1 c2 hmA ⊢
     clear hkA
     have hs3 : AV.celll (K.map byteAV) = true := celll_bytes K
     have htk : (K.map byteAV).take 32 = K.map byteAV := List.take_of_length_le (by rw [List.length_map]; omega)
     simp only [algAV] at c1 ⊢
     refine Bd Tryd.func38 Tryd.ntmps38 fun σ N hp hpn hk hkn hfree => ?_
     have hcs := And.intro c1 (And.intro c2 (And.intro c3 True.intro))
     clear c1 c2 c3 he hm hmA hmb
     refine Wm ?_
     iterate 9 refine Wz ?_
     refine go_lessIn N [3] (.slice none ((L ++ [(⟨⟨K, hK⟩, msg, t⟩ : MacE)]).map macAV)) (bt := 30) (c := .agg [.lit (.bool true), tagAV sd, .lit (.int .i64 fs), .slice (some (N + 36)) (L.map macAV ++ [.agg [.agg (K.map byteAV), .slice (some (N + 36 + 5)) (msg.map byteAV), tagAV t]]), .slice none (B.map sealAV)]) (by simp (disch := omega) [go_sem, *, -List.reduceReplicate]) rfl (snocM L hK _ _) rfl rfl ?_
     exact W0
end
end Go.Proofs.YtdmjpolnbmoehaaDoor

namespace Go.Proofs.YtdmjpolnbmoehaaDoor
open Go.Ab
attribute [local irreducible] Go.Ab.tyAV Go.Ab.aw Go.Ab.aops Go.Ab.kReg Go.Ab.aThen Go.Ab.aBlk Go.Ab.acond Go.Ab.aguard Go.Ab.astep Go.Ab.AStepX Go.Ab.aRet
def bitsZ : List Int := [0, 64, 32, 7, 0, 0, 0, 0]
def bitsL : List AV := bitsZ.map fun z => .lit (.int .i64 z)
def bitsG : Ent := .glob 0 (.agg bitsL)
@[simp, go_sem] theorem bitsG_ne : (bitsG = .none) = False := by simp [bitsG]
@[go_sem] theorem bitsL_1 : bitsL[1]? = some (.lit (.int .i64 64)) := rfl
@[go_sem] theorem bitsL_2 : bitsL[2]? = some (.lit (.int .i64 32)) := rfl
@[go_sem] theorem bitsL_3 : bitsL[3]? = some (.lit (.int .i64 7)) := rfl
@[go_sem] theorem bitsL_t1 : AV.szl (bitsL.take 1) = 1 := rfl
@[go_sem] theorem bitsL_t2 : AV.szl (bitsL.take 2) = 2 := rfl
@[go_sem] theorem bitsL_t3 : AV.szl (bitsL.take 3) = 3 := rfl
def predB (p : Pr) : Bool :=
 if p.kind = 1 then maskB p.mask 64 && decide (p = ⟨p.kind, p.mask, 0, 0, [], 0⟩)
 else if p.kind = 2 then maskB p.mask 32 && decide (p = ⟨p.kind, p.mask, 0, 0, [], 0⟩)
 else if p.kind = 3 then maskB p.mask 7 && decide (p = ⟨p.kind, p.mask, 0, 0, [], 0⟩)
 else if p.kind = 4 then decide (0 ≤ p.frm) && (decide (p.frm ≤ p.to) && (decide (p.to ≤ 67108864) && decide (p = ⟨p.kind, 0, p.frm, p.to, [], 0⟩)))
 else if p.kind = 5 then decide (0 ≤ p.frm) && (decide (p.frm < 1440) && (decide (0 ≤ p.to) && (decide (p.to < 1440) && decide (p = ⟨p.kind, 0, p.frm, p.to, [], 0⟩))))
 else if p.kind = 6 then nameB p.name && decide (p = ⟨p.kind, 0, 0, 0, p.name, 0⟩)
 else if p.kind = 7 then decide (0 ≤ p.num) && (decide (p.num ≤ 1000000) && decide (p = ⟨p.kind, 0, 0, 0, [], p.num⟩))
 else false
structure PrOk (p : Pr) : Prop where
 m0 : 0 ≤ p.mask
 m1 : p.mask < 18446744073709551616
 nl : p.name.length ≤ 9223372036854775807
set_option maxHeartbeats 4000000 in
theorem predValid_spec (p : Pr) (hp0 : PrOk p) (d k : Nat) :
  ACall Tryd.prog 71 [prAV p] k [(d, bitsG)] (.lit (.bool (predB p))) [] := by
 obtain ⟨kd, m, f, t, n, x⟩ := p
 obtain ⟨m0, m1, nl⟩ := hp0
 simp only at m0 m1 nl
 simp only [prAV, predB]
 by_cases h1 : kd = 1
 ·subst h1
  simp only [Int.reduceEq, if_false, if_true]
  have c1 := mask_spec m m0 m1 64 (by decide)
  generalize maskB m 64 = b at *
  cases b <;> simp only [Bool.true_and, Bool.false_and]
  all_goals
   unfold bitsG
   refine Bd Tryd.func71 Tryd.ntmps71 fun σ N hp hpn hk hkn hfree => ?_
   obtain ⟨hd, hdn⟩ := HD0 hp hpn; clear hp hpn
   have G : GlobAt d 0 := ⟨⟩
   have hcs := And.intro c1 True.intro
   clear c1
   exact W0
 ·skip
  by_cases h2 : kd = 2
  ·subst h2
   simp only [Int.reduceEq, if_false, if_true]
   have c1 := mask_spec m m0 m1 32 (by decide)
   generalize maskB m 32 = b at *
   cases b <;> simp only [Bool.true_and, Bool.false_and]
   all_goals
    unfold bitsG
    refine Bd Tryd.func71 Tryd.ntmps71 fun σ N hp hpn hk hkn hfree => ?_
    obtain ⟨hd, hdn⟩ := HD0 hp hpn; clear hp hpn
    have G : GlobAt d 0 := ⟨⟩
    have hcs := And.intro c1 True.intro
    clear c1
    exact W0
  ·skip
   by_cases h3 : kd = 3
   ·subst h3
    simp only [Int.reduceEq, if_false, if_true]
    have c1 := mask_spec m m0 m1 7 (by decide)
    generalize maskB m 7 = b at *
    cases b <;> simp only [Bool.true_and, Bool.false_and]
    all_goals
     unfold bitsG
     refine Bd Tryd.func71 Tryd.ntmps71 fun σ N hp hpn hk hkn hfree => ?_
     obtain ⟨hd, hdn⟩ := HD0 hp hpn; clear hp hpn
     have G : GlobAt d 0 := ⟨⟩
     have hcs := And.intro c1 True.intro
     clear c1
     exact W0
   ·skip
    by_cases h4 : kd = 4
    ·subst h4
     simp only [Int.reduceEq, if_false, if_true]
     by_cases c1 : 0 ≤ f
     ·by_cases c2 : f ≤ t
      ·by_cases c3 : t ≤ 67108864
       ·simp only [decide_eq_true c1, decide_eq_true c2, decide_eq_true c3, Bool.true_and]
        unfold bitsG
        refine Bd Tryd.func71 Tryd.ntmps71 fun σ N hp hpn hk hkn hfree => ?_
        obtain ⟨hd, hdn⟩ := HD0 hp hpn; clear hp hpn
        have G : GlobAt d 0 := ⟨⟩
        exact W0
       ·simp only [decide_eq_true c1, decide_eq_true c2, decide_eq_false c3, Bool.true_and, Bool.false_and]
        unfold bitsG
        refine Bd Tryd.func71 Tryd.ntmps71 fun σ N hp hpn hk hkn hfree => ?_
        obtain ⟨hd, hdn⟩ := HD0 hp hpn; clear hp hpn
        have G : GlobAt d 0 := ⟨⟩
        exact W0
      ·simp only [decide_eq_true c1, decide_eq_false c2, Bool.true_and, Bool.false_and]
       unfold bitsG
       refine Bd Tryd.func71 Tryd.ntmps71 fun σ N hp hpn hk hkn hfree => ?_
       obtain ⟨hd, hdn⟩ := HD0 hp hpn; clear hp hpn
       have G : GlobAt d 0 := ⟨⟩
       exact W0
     ·simp only [decide_eq_false c1, Bool.false_and]
      unfold bitsG
      refine Bd Tryd.func71 Tryd.ntmps71 fun σ N hp hpn hk hkn hfree => ?_
      obtain ⟨hd, hdn⟩ := HD0 hp hpn; clear hp hpn
      have G : GlobAt d 0 := ⟨⟩
      exact W0
    ·skip
     by_cases h5 : kd = 5
     ·subst h5
      simp only [Int.reduceEq, if_false, if_true]
      by_cases c1 : 0 ≤ f
      ·by_cases c2 : f < 1440
       ·by_cases c3 : 0 ≤ t
        ·by_cases c4 : t < 1440
         ·simp only [decide_eq_true c1, decide_eq_true c2, decide_eq_true c3, decide_eq_true c4, Bool.true_and]
          unfold bitsG
          refine Bd Tryd.func71 Tryd.ntmps71 fun σ N hp hpn hk hkn hfree => ?_
          obtain ⟨hd, hdn⟩ := HD0 hp hpn; clear hp hpn
          have G : GlobAt d 0 := ⟨⟩
          exact W0
         ·simp only [decide_eq_true c1, decide_eq_true c2, decide_eq_true c3, decide_eq_false c4, Bool.true_and, Bool.false_and]
          unfold bitsG
          refine Bd Tryd.func71 Tryd.ntmps71 fun σ N hp hpn hk hkn hfree => ?_
          obtain ⟨hd, hdn⟩ := HD0 hp hpn; clear hp hpn
          have G : GlobAt d 0 := ⟨⟩
          exact W0
        ·simp only [decide_eq_true c1, decide_eq_true c2, decide_eq_false c3, Bool.true_and, Bool.false_and]
         unfold bitsG
         refine Bd Tryd.func71 Tryd.ntmps71 fun σ N hp hpn hk hkn hfree => ?_
         obtain ⟨hd, hdn⟩ := HD0 hp hpn; clear hp hpn
         have G : GlobAt d 0 := ⟨⟩
         exact W0
       ·simp only [decide_eq_true c1, decide_eq_false c2, Bool.true_and, Bool.false_and]
        unfold bitsG
        refine Bd Tryd.func71 Tryd.ntmps71 fun σ N hp hpn hk hkn hfree => ?_
        obtain ⟨hd, hdn⟩ := HD0 hp hpn; clear hp hpn
        have G : GlobAt d 0 := ⟨⟩
        exact W0
      ·simp only [decide_eq_false c1, Bool.false_and]
       unfold bitsG
       refine Bd Tryd.func71 Tryd.ntmps71 fun σ N hp hpn hk hkn hfree => ?_
       obtain ⟨hd, hdn⟩ := HD0 hp hpn; clear hp hpn
       have G : GlobAt d 0 := ⟨⟩
       exact W0
     ·skip
      by_cases h6 : kd = 6
      ·subst h6
       simp only [Int.reduceEq, if_false, if_true]
       have c1 := name_spec n nl
       generalize nameB n = b at *
       cases b <;> simp only [Bool.true_and, Bool.false_and]
       all_goals
        unfold bitsG
        refine Bd Tryd.func71 Tryd.ntmps71 fun σ N hp hpn hk hkn hfree => ?_
        obtain ⟨hd, hdn⟩ := HD0 hp hpn; clear hp hpn
        have G : GlobAt d 0 := ⟨⟩
        have hcs := And.intro c1 True.intro
        clear c1
        exact W0
      ·skip
       by_cases h7 : kd = 7
       ·subst h7
        simp only [Int.reduceEq, if_false, if_true]
        by_cases c1 : 0 ≤ x
        ·by_cases c2 : x ≤ 1000000
         ·simp only [decide_eq_true c1, decide_eq_true c2, Bool.true_and]
          unfold bitsG
          refine Bd Tryd.func71 Tryd.ntmps71 fun σ N hp hpn hk hkn hfree => ?_
          obtain ⟨hd, hdn⟩ := HD0 hp hpn; clear hp hpn
          have G : GlobAt d 0 := ⟨⟩
          exact W0
         ·simp only [decide_eq_true c1, decide_eq_false c2, Bool.true_and, Bool.false_and]
          unfold bitsG
          refine Bd Tryd.func71 Tryd.ntmps71 fun σ N hp hpn hk hkn hfree => ?_
          obtain ⟨hd, hdn⟩ := HD0 hp hpn; clear hp hpn
          have G : GlobAt d 0 := ⟨⟩
          exact W0
        ·simp only [decide_eq_false c1, Bool.false_and]
         unfold bitsG
         refine Bd Tryd.func71 Tryd.ntmps71 fun σ N hp hpn hk hkn hfree => ?_
         obtain ⟨hd, hdn⟩ := HD0 hp hpn; clear hp hpn
         have G : GlobAt d 0 := ⟨⟩
         exact W0
       ·skip
        simp only [if_neg h1, if_neg h2, if_neg h3, if_neg h4, if_neg h5, if_neg h6, if_neg h7]
        have g1 : (kd == 1) = false := by simp [h1]
        have g2 : (kd == 2) = false := by simp [h2]
        have g3 : (kd == 3) = false := by simp [h3]
        have g4 : (kd == 4) = false := by simp [h4]
        have g5 : (kd == 5) = false := by simp [h5]
        have g6 : (kd == 6) = false := by simp [h6]
        have g7 : (kd == 7) = false := by simp [h7]
        clear h1 h2 h3 h4 h5 h6 h7
        unfold bitsG
        refine Bd Tryd.func71 Tryd.ntmps71 fun σ N hp hpn hk hkn hfree => ?_
        obtain ⟨hd, hdn⟩ := HD0 hp hpn; clear hp hpn
        have G : GlobAt d 0 := ⟨⟩
        exact W0

structure Ca where
 third : Bool
 first : Pr
 party : Int
 ticket : List UInt8
 box : List UInt8
deriving DecidableEq
def caAV (c : Ca) : AV := .agg [.lit (.bool c.third), prAV c.first, .lit (.int .i64 c.party), .slice none (c.ticket.map byteAV), .slice none (c.box.map byteAV)]
@[go_sem] theorem caAV_sz (c : Ca) : (caAV c).sz = 10 := rfl
@[go_sem] theorem caAV_isAgg (c : Ca) : (caAV c).isAgg = true := rfl
@[go_sem] theorem caAV_cell (c : Ca) : (caAV c).cell = true := rfl
@[go_sem] theorem caAV_ren (f : Nat → Option Nat) (c : Ca) : (caAV c).ren f = caAV c := by
 simp only [caAV, AV.ren, AV.renl, prAV_ren, renl_bytes, Option.bind_none]
@[go_sem] theorem renl_cas (f : Nat → Option Nat) (l : List Ca) : AV.renl f (l.map caAV) = l.map caAV := by
 rw [AV.renl_map, List.map_map]; exact List.map_congr_left fun t _ => caAV_ren f t
@[go_sem] theorem all_cas1 (l : List Ca) : (l.map caAV).all (fun x => x.sz == 10) = true := by
 rw [List.all_eq_true]; intro x hx; obtain ⟨b, _, rfl⟩ := List.mem_map.1 hx; rfl
@[go_sem] theorem all_cas2 (l : List Ca) : (l.map caAV).all (fun x => x.sz == 10 && x.cell) = true := by
 rw [List.all_eq_true]; intro x hx; obtain ⟨b, _, rfl⟩ := List.mem_map.1 hx; rfl
@[go_sem] theorem renl_prs (f : Nat → Option Nat) (l : List Pr) : AV.renl f (l.map prAV) = l.map prAV := by
 rw [AV.renl_map, List.map_map]; exact List.map_congr_left fun t _ => prAV_ren f t
@[go_sem] theorem all_prs1 (l : List Pr) : (l.map prAV).all (fun x => x.sz == 6) = true := by
 rw [List.all_eq_true]; intro x hx; obtain ⟨b, _, rfl⟩ := List.mem_map.1 hx; rfl
@[go_sem] theorem all_prs2 (l : List Pr) : (l.map prAV).all (fun x => x.sz == 6 && x.cell) = true := by
 rw [List.all_eq_true]; intro x hx; obtain ⟨b, _, rfl⟩ := List.mem_map.1 hx; rfl
@[go_sem] theorem caAV_get0 (c : Ca) : (caAV c).get [0] = some (.lit (.bool c.third)) := rfl
@[go_sem] theorem caAV_get1 (c : Ca) : (caAV c).get [1] = some (prAV c.first) := rfl
@[go_sem] theorem caAV_get2 (c : Ca) : (caAV c).get [2] = some (.lit (.int .i64 c.party)) := rfl
@[go_sem] theorem caAV_get3 (c : Ca) : (caAV c).get [3] = some (.slice none (c.ticket.map byteAV)) := rfl
@[go_sem] theorem caAV_get4 (c : Ca) : (caAV c).get [4] = some (.slice none (c.box.map byteAV)) := rfl
@[go_sem] theorem caAV_offs0 (c : Ca) : (caAV c).offs [0] = 0 := rfl
@[go_sem] theorem caAV_offs1 (c : Ca) : (caAV c).offs [1] = 1 := rfl
@[go_sem] theorem caAV_offs2 (c : Ca) : (caAV c).offs [2] = 7 := rfl
@[go_sem] theorem caAV_offs3 (c : Ca) : (caAV c).offs [3] = 8 := rfl
@[go_sem] theorem caAV_offs4 (c : Ca) : (caAV c).offs [4] = 9 := rfl
def firstsS (l : List Ca) : List Pr := (l.filter fun c => !c.third).map (·.first)
theorem firsts_at {l : List Ca} {u : Nat} {c : Ca} (h : u < l.length) (hc : l[u] = c) : firstsS (l.take (u + 1)) = firstsS (l.take u) ++ (if c.third = true then [] else [c.first]) := by
 have : l.take (u + 1) = l.take u ++ [c] := by rw [List.take_add_one, List.getElem?_eq_getElem h, hc]; rfl
 unfold firstsS
 rw [this, List.filter_append, List.map_append]
 cases hb : c.third <;> simp [hb]
theorem firsts_len (l : List Ca) : (firstsS l).length ≤ l.length := by
 unfold firstsS; rw [List.length_map]; exact List.length_filter_le _ _
theorem firsts_gen (l : List Ca) (R : List Pr) (hR : firstsS l = R) (hl : l.length ≤ 10000) (k : Nat) :
  ACall Tryd.prog 117 [.slice none (l.map caAV)] k [] (.slice none (R.map prAV)) [] := by
 have hf0 : firstsS ([] : List Ca) = [] := rfl
 refine Bd Tryd.func117 Tryd.ntmps117 fun σ N hp hpn hk hkn hfree => ?_
 refine Wk ?_
 refine ALoop.nilrow 3 54 6 (by simp (disch := omega) [go_sem, *, -List.reduceReplicate]) ?_
 refine go_loopB (N) mixed (by kernel_rfl) [3, 5, 8, 9, 10, 11, 12, 13, 14, 15, 16, 17, 18, 19, 20] [] (fun m_ s_ σ_ n_ => ∃ (u : Nat) (q : Nat) (acc : List Pr), m_ = l.length - u ∧ s_ 8 = .lit (.int .i64 u) ∧ s_ 3 = .slice (some q) (acc.map prAV) ∧ σ_ (q) = .row 54 6 acc.length ∧ (u ≤ l.length) ∧ (N ≤ q) ∧ (q < n_) ∧ (acc.length ≤ u) ∧ (firstsS (l.take u) = acc)) ⟨_, 0, _, [], rfl, WF, WF, WF, WC, WC, WC, WC, WC⟩ ?_
 intro m_1 s_1 σ_1 n_1 hs_1 hf_1 hn_1 hI_1
 obtain ⟨u, q, acc, hm_1, h1_8, h1_3, e1_0, hu, hq, hqn, hal, hacc⟩ := hI_1
 have h1_2 := KS hs_1 2
 have h1_6 := KS hs_1 6
 have h1_7 := KS hs_1 7
 have hlow := KL (N := N) (σ := σ) hf_1
 by_cases hul : u = l.length
 ·rw [hul, List.take_length, hR] at hacc
  subst hacc hul
  clear hR
  exact WM
 ·have hui : u < l.length := by omega
  obtain ⟨c, hc⟩ : ∃ c, l[u] = c := ⟨_, rfl⟩
  have hf := firsts_at hui hc
  rw [hacc] at hf
  clear hacc hR
  cases hb : c.third with
  | true =>
   rw [hb, if_pos rfl, List.append_nil] at hf
   refine Wk ?_
   exact ⟨WS, WG, WN, _, (show l.length - (u + 1) < m_1 by omega), u + 1, q, acc, rfl, WF, WF, WF, WC, WC, WC, WC, WC⟩
  | false =>
   rw [hb, if_neg (by simp)] at hf
   refine Wk ?_
   exact ⟨WS, WG, WN, _, (show l.length - (u + 1) < m_1 by omega), u + 1, q, acc ++ [c.first], rfl, WF, WF, WF, WC, WC, WC, WC, WC⟩
theorem Equal_spec (a b : List UInt8) (_ha : a.length ≤ 140737488351232) (hb : b.length ≤ 140737488351232) (k : Nat) :
  ACall Tryd.prog 97 [.slice none (a.map byteAV), .slice none (b.map byteAV)] k [] (.lit (.bool (decide (a = b)))) [] := by
 by_cases h : a = b
 ·subst h
  simp only [decide_true]
  refine Bd Tryd.func97 Tryd.ntmps97 fun σ N hp hpn hk hkn hfree => ?_
  exact W0
 ·rw [decide_eq_false h]
  have h1 : ((ByteArray.mk a.toArray) == (ByteArray.mk b.toArray)) = false := by rw [barr_eq]; simp [h]
  have h2 : (a == b) = false := by simp [h]
  have h3 : (a.toArray == b.toArray) = false := by simp [h]
  refine Bd Tryd.func97 Tryd.ntmps97 fun σ N hp hpn hk hkn hfree => ?_
  exact W0
end Go.Proofs.YtdmjpolnbmoehaaDoor

namespace Go.Proofs.YtdmjpolnbmoehaaDoor
open Go.Ab
attribute [local irreducible] Go.Ab.tyAV Go.Ab.aw Go.Ab.aops Go.Ab.kReg Go.Ab.aThen Go.Ab.aBlk Go.Ab.acond Go.Ab.aguard Go.Ab.astep Go.Ab.AStepX Go.Ab.aRet
attribute [local irreducible] shaG
theorem ClipM_spec (l : List MacE) (_hl : l.length ≤ 1000000) (k : Nat) :
  ACall Tryd.prog 80 [.slice none (l.map macAV)] k [] (.clip (l.map macAV)) [] := by
 refine Bd Tryd.func80 Tryd.ntmps80 fun σ N hp hpn hk hkn hfree => ?_
 exact W0
theorem ClipB_spec (l : List BoxE) (_hl : l.length ≤ 1000000) (k : Nat) :
  ACall Tryd.prog 81 [.slice none (l.map sealAV)] k [] (.clip (l.map sealAV)) [] := by
 refine Bd Tryd.func81 Tryd.ntmps81 fun σ N hp hpn hk hkn hfree => ?_
 exact W0
def makAV (a : Alg) (e : Nat) (mx bx : AV) : AV := .agg [.agg [.lit (.bool a.free), tagAV a.seed, .lit (.int .i64 a.fresh), mx, bx], .lit (.int .i64 (e : Int))]
theorem Begin_spec (a : Alg) (hl : a.macs.length ≤ 1000000) (hb : a.boxes.length ≤ 1000000) (k : Nat) :
  ACall Tryd.prog 41 [algAV a] k [] (.ptr k [] 0) [(k, .box 140 (makAV a 0 (.clip (a.macs.map macAV)) (.clip (a.boxes.map sealAV))))] := by
 obtain ⟨fr, sd, fs, L, B⟩ := a
 simp only at hl hb
 have c1 := ClipM_spec L hl
 have c2 := ClipB_spec B hb
 unfold makAV
 simp only [algAV] at *
 refine Bd Tryd.func41 Tryd.ntmps41 fun σ N hp hpn hk hkn hfree => ?_
 have hcs := And.intro c1 (And.intro c2 True.intro)
 clear c1 c2
 refine Wk ?_
 refine go_result1 (r0 := N+12+2) (by simp (disch := omega) [go_sem, *, -List.reduceReplicate]; rfl) (by omega) (by simp (disch := omega) [go_sem]; try rfl) (fun id hid => by simp (disch := omega) only [upd_ne, wr_nil]; try exact hlow id hid) (by simp (disch := omega) [go_sem, *, -List.reduceReplicate]; rfl) (by simp (disch := omega) [go_sem])
def rowM (n : Nat) : Ent := .row 102 65 n
def rowB (n : Nat) : Ent := .row 105 35 n
@[go_sem] theorem rowM_eq (n : Nat) : rowM n = .row 102 65 n := rfl
@[go_sem] theorem rowB_eq (n : Nat) : rowB n = .row 105 35 n := rfl
def makB (a : Alg) (e r1 r2 : Nat) : Ent := .box 140 (makAV a e (.slice (some r1) (a.macs.map macAV)) (.slice (some r2) (a.boxes.map sealAV)))
def makE (a : Alg) (e d r1 r2 : Nat) : List (Nat × Ent) := [(d, makB a e r1 r2), (r1, rowM a.macs.length), (r2, rowB a.boxes.length)]
theorem Fail_spec (a : Alg) (e : Nat) (f d r1 r2 k : Nat) :
  ACall Tryd.prog 72 [.ptr d [] 0, .lit (.int .i64 (f : Nat))] k (makE a e d r1 r2) (.tup []) [(d, makB a (if e = 0 then f else e) r1 r2)] := by
 obtain ⟨fr, sd, fs, L, B⟩ := a
 unfold makE makB makAV
 by_cases h : e = 0
 ·subst h
  rw [if_pos rfl]
  refine Bd (hpre := by simp [rowM_eq, rowB_eq]) Tryd.func72 Tryd.ntmps72 fun σ N hp hpn hk hkn hfree => ?_
  simp only [List.mem_cons, List.not_mem_nil, or_false, forall_eq_or_imp, forall_eq] at hp hpn; obtain ⟨hd1, hd2, hd3⟩ := hp; obtain ⟨hdn1, hdn2, hdn3⟩ := hpn
  refine Wk ?_
  refine go_fall ?_
  exact RW (d) ((.box 140 (.agg [.agg [.lit (.bool fr), tagAV sd, .lit (.int .i64 fs), .slice (some r1) (L.map macAV), .slice (some r2) (B.map sealAV)], .lit (.int .i64 (f : Int))])))
 ·rw [if_neg h]
  have h1 : decide ((e : Int) = 0) = false := decide_eq_false (by omega)
  have h2 : ((e : Int) == 0) = false := h1
  refine Bd (hpre := by simp [rowM_eq, rowB_eq]) Tryd.func72 Tryd.ntmps72 fun σ N hp hpn hk hkn hfree => ?_
  simp only [List.mem_cons, List.not_mem_nil, or_false, forall_eq_or_imp, forall_eq] at hp hpn; obtain ⟨hd1, hd2, hd3⟩ := hp; obtain ⟨hdn1, hdn2, hdn3⟩ := hpn
  refine Wk ?_
  refine go_fall ?_
  exact RW (d) ((.box 140 (.agg [.agg [.lit (.bool fr), tagAV sd, .lit (.int .i64 fs), .slice (some r1) (L.map macAV), .slice (some r2) (B.map sealAV)], .lit (.int .i64 (e : Int))])))
theorem Done_ok (a : Alg) (d r1 r2 k : Nat) :
  ACall Tryd.prog 44 [.ptr d [] 0] k (makE a 0 d r1 r2) (.tup [algAV a, .lit (.int .i64 0)]) [] := by
 obtain ⟨fr, sd, fs, L, B⟩ := a
 unfold makE makB makAV
 simp only [algAV]
 refine Bd (hpre := by simp [rowM_eq, rowB_eq]) Tryd.func44 Tryd.ntmps44 fun σ N hp hpn hk hkn hfree => ?_
 simp only [List.mem_cons, List.not_mem_nil, or_false, forall_eq_or_imp, forall_eq] at hp hpn; obtain ⟨hd1, hd2, hd3⟩ := hp; obtain ⟨hdn1, hdn2, hdn3⟩ := hpn
 refine Wk ?_
 refine go_resultI (by simp (disch := omega) [go_sem, *, -List.reduceReplicate]; rfl) (by exact AV.sub_tup (.cons (AV.sub_agg (by repeat' first | exact ALe.nil | exact AV.le_refl _ | apply ALe.cons | ((first | apply AV.le_slices | apply AV.le_nilsE | apply AV.le_clipE); first | rfl | (simp (disch := omega) [go_sem, *, -List.reduceReplicate]; done)))) (by repeat' first | exact ALe.nil | exact AV.le_refl _ | apply ALe.cons | ((first | apply AV.le_slices | apply AV.le_nilsE | apply AV.le_clipE); first | rfl | (simp (disch := omega) [go_sem, *, -List.reduceReplicate]; done))))) (by simp (disch := omega) [go_sem]; try rfl) (fun id hid => by simp (disch := omega) only [upd_ne]; try exact hlow id hid)
theorem Done_bad (a : Alg) (e : Nat) (h : e ≠ 0) (d r1 r2 k : Nat) :
  ACall Tryd.prog 44 [.ptr d [] 0] k (makE a e d r1 r2) (.tup [algAV alg0, .lit (.int .i64 (e : Nat))]) [] := by
 obtain ⟨fr, sd, fs, L, B⟩ := a
 unfold makE makB makAV
 simp only [alg0_eq]
 have h1 : decide ((e : Int) = 0) = false := decide_eq_false (by omega)
 have h2 : ((e : Int) != 0) = true := by simp; omega
 refine Bd (hpre := by simp [rowM_eq, rowB_eq]) Tryd.func44 Tryd.ntmps44 fun σ N hp hpn hk hkn hfree => ?_
 simp only [List.mem_cons, List.not_mem_nil, or_false, forall_eq_or_imp, forall_eq] at hp hpn; obtain ⟨hd1, hd2, hd3⟩ := hp; obtain ⟨hdn1, hdn2, hdn3⟩ := hpn
 refine Wk ?_
 refine go_resultI (by simp (disch := omega) [go_sem, *, -List.reduceReplicate]; rfl) (by exact AV.sub_tup (.cons (AV.sub_agg (by repeat' first | exact ALe.nil | exact AV.le_refl _ | apply ALe.cons | ((first | apply AV.le_slices | apply AV.le_nilsE | apply AV.le_clipE); first | rfl | (simp (disch := omega) [go_sem, *, -List.reduceReplicate]; done)))) (by repeat' first | exact ALe.nil | exact AV.le_refl _ | apply ALe.cons | ((first | apply AV.le_slices | apply AV.le_nilsE | apply AV.le_clipE); first | rfl | (simp (disch := omega) [go_sem, *, -List.reduceReplicate]; done))))) (by simp (disch := omega) [go_sem]; try rfl) (fun id hid => by simp (disch := omega) only [upd_ne]; try exact hlow id hid)
def fI (key : Tg) (msg : List UInt8) : List MacE → Nat → Int
 | [], _ => -1
 | e :: r, u => if e.key = key ∧ e.msg = msg then u else fI key msg r (u + 1)
theorem fI_none {key : Tg} {msg : List UInt8} : ∀ (L : List MacE) (u : Nat), entL key msg L = none → fI key msg L u = -1
 | [], _, _ => rfl
 | e :: r, u, h => by
  rw [entL] at h
  split at h
  ·cases h
  ·rename_i hn
   rw [fI, if_neg hn]
   exact fI_none r _ h
theorem fI_some {key : Tg} {msg : List UInt8} {t : Tg} : ∀ (L : List MacE) (u : Nat), entL key msg L = some t → ∃ (i : Nat) (h : i < L.length), fI key msg L u = ((u + i : Nat) : Int) ∧ (L[i]).tag = t
 | [], _, h => by cases h
 | e :: r, u, h => by
  rw [entL] at h
  split at h
  ·rename_i hc
   injection h with h
   exact ⟨0, by simp, by rw [fI, if_pos hc, Nat.add_zero], h⟩
  ·rename_i hn
   obtain ⟨i, hi, h1, h2⟩ := fI_some r (u + 1) h
   exact ⟨i + 1, by simp; omega, by rw [fI, if_neg hn, h1]; congr 1; omega, h2⟩
theorem find1_spec (e : MacE) (key : Tg) (msg : List UInt8) (he : e.msg.length ≤ 100000) (hm : msg.length ≤ 1000000) (a b k : Nat) (_hab : a ≠ b) :
  ACall Tryd.prog 127 [macAV e, .ptr a [] 0, .ptr b [] 0] k [(a, .box 24 (tagAV key)), (b, .box 55 (.slice none (msg.map byteAV)))] (.lit (.bool (decide (e.key = key ∧ e.msg = msg)))) [] := by
 obtain ⟨zk, zm, zt⟩ := e
 simp only at he ⊢
 have c1 := Equal_spec zm msg (by omega) (by omega)
 have hzd : macAV ⟨zk, zm, zt⟩ = .agg [tagAV zk, bAV zm, tagAV zt] := rfl
 have hzb := bAV_def zm
 by_cases h1 : zk = key
 ·have d1 : decide (zk = key) = true := decide_eq_true h1
  by_cases h2 : zm = msg
  ·have d2 : decide (zm = msg) = true := decide_eq_true h2
   rw [decide_eq_true (show zk = key ∧ zm = msg from ⟨h1, h2⟩)]
   rw [d2] at c1
   refine Bd Tryd.func127 Tryd.ntmps127 fun σ N hp hpn hk hkn hfree => ?_
   simp only [List.mem_cons, List.not_mem_nil, or_false, forall_eq_or_imp, forall_eq] at hp hpn; obtain ⟨hd1, hd2⟩ := hp; obtain ⟨hdn1, hdn2⟩ := hpn
   have hcs := And.intro c1 True.intro
   clear c1 h1 h2 d2
   exact W0
  ·have d2 : decide (zm = msg) = false := decide_eq_false h2
   rw [decide_eq_false (show ¬ (zk = key ∧ zm = msg) from fun h => h2 h.2)]
   rw [d2] at c1
   refine Bd Tryd.func127 Tryd.ntmps127 fun σ N hp hpn hk hkn hfree => ?_
   simp only [List.mem_cons, List.not_mem_nil, or_false, forall_eq_or_imp, forall_eq] at hp hpn; obtain ⟨hd1, hd2⟩ := hp; obtain ⟨hdn1, hdn2⟩ := hpn
   have hcs := And.intro c1 True.intro
   clear c1 h1 h2 d2
   exact W0
 ·have d1 : decide (zk = key) = false := decide_eq_false h1
  rw [decide_eq_false (show ¬ (zk = key ∧ zm = msg) from fun h => h1 h.1)]
  refine Bd Tryd.func127 Tryd.ntmps127 fun σ N hp hpn hk hkn hfree => ?_
  simp only [List.mem_cons, List.not_mem_nil, or_false, forall_eq_or_imp, forall_eq] at hp hpn; obtain ⟨hd1, hd2⟩ := hp; obtain ⟨hdn1, hdn2⟩ := hpn
  clear c1 h1
  exact W0
theorem IndexM_spec (L : List MacE) (key : Tg) (msg : List UInt8) (hl : L.length ≤ 1000000) (hm : ∀ e ∈ L, e.msg.length ≤ 100000) (hmsg : msg.length ≤ 1000000) (a b k : Nat) (hab : a ≠ b) :
  ACall Tryd.prog 126 [.slice none (L.map macAV), .fn 127 [.ptr a [] 0, .ptr b [] 0]] k [(a, .box 24 (tagAV key)), (b, .box 55 (.slice none (msg.map byteAV)))] (.lit (.int .i64 (fI key msg L 0))) [] := by
 obtain ⟨R, hR⟩ : ∃ R, fI key msg L 0 = R := ⟨_, rfl⟩
 rw [hR]
 have hdr : L.drop 0 = L := rfl
 refine Bd Tryd.func126 Tryd.ntmps126 fun σ N hp hpn hk hkn hfree => ?_
 simp only [List.mem_cons, List.not_mem_nil, or_false, forall_eq_or_imp, forall_eq] at hp hpn; obtain ⟨hd1, hd2⟩ := hp; obtain ⟨hdn1, hdn2⟩ := hpn
 refine Wk ?_
 refine go_loopF mixed (by kernel_rfl) [4, 5, 8, 9, 10, 11, 12, 13, 14, 15, 16, 17, 18] [] (fun m_ s_ σ_ n_ => ∃ (u : Nat), m_ = L.length - u ∧ s_ 8 = .lit (.int .i64 u) ∧ (u ≤ L.length) ∧ (fI key msg (L.drop u) u = R)) ⟨_, 0, rfl, WF, WC, WC⟩ ?_
 intro m_1 s_1 σ_1 n_1 hs_1 hf_1 hn_1 hI_1
 obtain ⟨u, hm_1, h1_8, hu, hno⟩ := hI_1
 have h1_0 := KS hs_1 0
 have h1_1 := KS hs_1 1
 have h1_7 := KS hs_1 7
 have k1_0 := KE hf_1 (a)
 have k1_1 := KE hf_1 (b)
 have hlow := KL (N := N) (σ := σ) hf_1
 clear hR hdr
 by_cases hul : u = L.length
 ·subst hul
  rw [List.drop_length] at hno
  simp only [fI] at hno
  subst hno
  clear hm
  exact W0
 ·have hu1 : u < L.length := by omega
  rw [List.drop_eq_getElem_cons hu1, fI] at hno
  have hmz := hm _ (List.getElem_mem hu1)
  obtain ⟨z, hz⟩ : ∃ z, L[u] = z := ⟨_, rfl⟩
  rw [hz] at hno hmz
  have c1 := find1_spec z key msg hmz hmsg a b
  by_cases hc : z.key = key ∧ z.msg = msg
  ·rw [if_pos hc] at hno
   subst hno
   rw [decide_eq_true hc] at c1
   have hcs := And.intro (fun k => c1 k hab) True.intro
   clear c1 hm hc hmz
   exact W0
  ·rw [if_neg hc] at hno
   rw [decide_eq_false hc] at c1
   have hcs := And.intro (fun k => c1 k hab) True.intro
   clear c1 hm hc hmz
   refine Wk ?_
   exact ⟨WS, WG, WN, _, (show L.length - (u + 1) < m_1 by omega), u + 1, rfl, WF, WC, WC⟩
theorem find_spec (L : List MacE) (key : Tg) (msg : List UInt8) (hl : L.length ≤ 1000000) (hm : ∀ e ∈ L, e.msg.length ≤ 100000) (hmsg : msg.length ≤ 1000000) (k : Nat) :
  ACall Tryd.prog 107 [.slice none (L.map macAV), tagAV key, .slice none (msg.map byteAV)] k [] (.lit (.int .i64 (fI key msg L 0))) [] := by
 refine Bd Tryd.func107 Tryd.ntmps107 fun σ N hp hpn hk hkn hfree => ?_
 have hcs := And.intro (fun k => IndexM_spec L key msg hl hm hmsg N (N + 1) k (by omega)) True.intro
 clear hm
 exact W0
end Go.Proofs.YtdmjpolnbmoehaaDoor
