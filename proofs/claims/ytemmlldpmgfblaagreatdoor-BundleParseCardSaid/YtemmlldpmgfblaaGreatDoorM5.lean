/- Texts L1, M3, D1, R1, K1, M4, M5, N5, C12, M6, M7, D11, joined. -/
import Derived.Test.YtemmlldpmgfblaaGreatDoorM4

namespace Go.Proofs.YtemmlldpmgfblaaGreatDoor
open Go.Ab
attribute [local irreducible] Go.Ab.tyAV Go.Ab.aw Go.Ab.aops Go.Ab.kReg Go.Ab.aThen Go.Ab.aBlk Go.Ab.acond Go.Ab.aguard Go.Ab.astep Go.Ab.AStepX Go.Ab.aRet
def bAV (b : List UInt8) : AV := .slice none (b.map byteAV)
theorem bAV_def (b : List UInt8) : bAV b = .slice none (b.map byteAV) := rfl
@[go_sem] theorem bAV_sz (b : List UInt8) : (bAV b).sz = 1 := rfl
@[go_sem] theorem bAV_isAgg (b : List UInt8) : (bAV b).isAgg = false := rfl
@[go_sem] theorem all_bs1 (l : List (List UInt8)) : (l.map bAV).all (fun x => x.sz == 1) = true := by
 rw [List.all_eq_true]; intro x hx; obtain ⟨b, _, rfl⟩ := List.mem_map.1 hx; rfl
@[go_sem] theorem bAV_cell (b : List UInt8) : (bAV b).cell = true := rfl
@[go_sem] theorem bAV_ren (f : Nat → Option Nat) (b : List UInt8) : (bAV b).ren f = bAV b := by
 simp only [bAV, AV.ren, renl_bytes, Option.bind_none]
@[go_sem] theorem renl_bs (f : Nat → Option Nat) (l : List (List UInt8)) : AV.renl f (l.map bAV) = l.map bAV := by
 rw [AV.renl_map, List.map_map]; exact List.map_congr_left fun t _ => bAV_ren f t
@[go_sem] theorem all_bs2 (l : List (List UInt8)) : (l.map bAV).all (fun x => x.sz == 1 && x.cell) = true := by
 rw [List.all_eq_true]; intro x hx; obtain ⟨b, _, rfl⟩ := List.mem_map.1 hx; rfl
@[go_sem] theorem szl_bs (l : List (List UInt8)) : AV.szl (l.map bAV) = l.length := by
 rw [AV.szl_uniform _ 1 fun x hx => by obtain ⟨b, _, rfl⟩ := List.mem_map.1 hx; rfl]; simp
theorem AV.le_sliceS {xs ys : List AV} (o : Option Nat) (h : ALe xs ys) : AV.le (.slice o xs) (.slice o ys) := fun g v hr => by
 obtain ⟨h1, h2⟩ := h.at
 cases hr with
 | slice own _ vs A c size hvl hc hm hr hs hcell hown =>
  rw [h1] at hvl hc hcell hown ⊢
  exact .slice o ys vs A c size hvl hc hm (fun i y v hy hv => by obtain ⟨x, hx, hxy⟩ := h2 i y hy; exact hxy g v (hr i x v hx hv)) hs hcell hown
theorem ALe.snoc {xs : List AV} {x y : AV} (h : AV.le x y) : ALe (xs ++ [x]) (xs ++ [y]) := by
 induction xs with
 | nil => exact .cons h .nil
 | cons z r ih => exact .cons (AV.le_refl _) ih
end Go.Proofs.YtemmlldpmgfblaaGreatDoor

namespace Go.Proofs.YtemmlldpmgfblaaGreatDoor
open Go.Ab
attribute [local irreducible] Go.Ab.tyAV Go.Ab.aw Go.Ab.aops Go.Ab.kReg Go.Ab.aThen Go.Ab.aBlk Go.Ab.acond Go.Ab.aguard Go.Ab.astep Go.Ab.AStepX Go.Ab.aRet
attribute [local irreducible] shaG
@[go_sem] theorem ev_tag_eq (a b : Tg) : evBin Tryz.prog .eql 26 (tagAV a) (tagAV b) = some ⟨[], .lit (.bool (decide (a = b))), []⟩ := evBin_tag eq26 a b
@[go_sem] theorem ev_tag_ne (a b : Tg) : evBin Tryz.prog .neq 26 (tagAV a) (tagAV b) = some ⟨[], .lit (.bool (!decide (a = b))), []⟩ := evBin_tagN eq26 a b
structure MacE where
 key : Tg
 msg : List UInt8
 tag : Tg
structure BoxE where
 key : Tg
 nonce : Int
 plain : List UInt8
 box : List UInt8
structure Alg where
 free : Bool
 seed : Tg
 fresh : Int
 macs : List MacE
 boxes : List BoxE
def macAV (e : MacE) : AV := .agg [tagAV e.key, bAV e.msg, tagAV e.tag]
def sealAV (e : BoxE) : AV := .agg [tagAV e.key, .lit (.int .i64 e.nonce), bAV e.plain, bAV e.box]
def algAV (a : Alg) : AV := .agg [.lit (.bool a.free), tagAV a.seed, .lit (.int .i64 a.fresh), .slice none (a.macs.map macAV), .slice none (a.boxes.map sealAV)]
def alg0 : Alg := ⟨false, zeroTag, 0, [], []⟩
@[go_sem] theorem macAV_sz (e : MacE) : (macAV e).sz = 65 := by simp only [macAV, AV.sz, AV.szl, tagAV_sz, bAV_sz]
@[go_sem] theorem macAV_isAgg (e : MacE) : (macAV e).isAgg = true := rfl
@[go_sem] theorem macAV_cell (e : MacE) : (macAV e).cell = true := by simp only [macAV, AV.cell, AV.celll, tagAV_cell, bAV_cell, Bool.and_self]
@[go_sem] theorem macAV_ren (f : Nat → Option Nat) (e : MacE) : (macAV e).ren f = macAV e := by simp only [macAV, AV.ren, AV.renl, tagAV_ren, bAV_ren]
@[go_sem] theorem sealAV_sz (e : BoxE) : (sealAV e).sz = 35 := by simp only [sealAV, AV.sz, AV.szl, tagAV_sz, bAV_sz]
@[go_sem] theorem sealAV_isAgg (e : BoxE) : (sealAV e).isAgg = true := rfl
@[go_sem] theorem sealAV_cell (e : BoxE) : (sealAV e).cell = true := by simp only [sealAV, AV.cell, AV.celll, tagAV_cell, bAV_cell, Bool.and_self]
@[go_sem] theorem sealAV_ren (f : Nat → Option Nat) (e : BoxE) : (sealAV e).ren f = sealAV e := by simp only [sealAV, AV.ren, AV.renl, tagAV_ren, bAV_ren]
@[go_sem] theorem renl_macs (f : Nat → Option Nat) (l : List MacE) : AV.renl f (l.map macAV) = l.map macAV := by
 rw [AV.renl_map, List.map_map]; exact List.map_congr_left fun t _ => macAV_ren f t
@[go_sem] theorem renl_boxes (f : Nat → Option Nat) (l : List BoxE) : AV.renl f (l.map sealAV) = l.map sealAV := by
 rw [AV.renl_map, List.map_map]; exact List.map_congr_left fun t _ => sealAV_ren f t
@[go_sem] theorem all_macs1 (l : List MacE) : (l.map macAV).all (fun x => x.sz == 65) = true := by
 rw [List.all_eq_true]; intro x hx; obtain ⟨b, _, rfl⟩ := List.mem_map.1 hx; simp [macAV_sz]
@[go_sem] theorem all_macs2 (l : List MacE) : (l.map macAV).all (fun x => x.sz == 65 && x.cell) = true := by
 rw [List.all_eq_true]; intro x hx; obtain ⟨b, _, rfl⟩ := List.mem_map.1 hx; simp [macAV_sz, macAV_cell]
@[go_sem] theorem all_boxes1 (l : List BoxE) : (l.map sealAV).all (fun x => x.sz == 35) = true := by
 rw [List.all_eq_true]; intro x hx; obtain ⟨b, _, rfl⟩ := List.mem_map.1 hx; simp [sealAV_sz]
@[go_sem] theorem all_boxes2 (l : List BoxE) : (l.map sealAV).all (fun x => x.sz == 35 && x.cell) = true := by
 rw [List.all_eq_true]; intro x hx; obtain ⟨b, _, rfl⟩ := List.mem_map.1 hx; simp [sealAV_sz, sealAV_cell]
@[go_sem] theorem algAV_sz (a : Alg) : (algAV a).sz = 36 := by simp only [algAV, AV.sz, AV.szl, tagAV_sz]
@[go_sem] theorem algAV_isAgg (a : Alg) : (algAV a).isAgg = true := rfl
@[go_sem] theorem algAV_cell (a : Alg) : (algAV a).cell = true := by simp only [algAV, AV.cell, AV.celll, tagAV_cell, Bool.and_self]
@[go_sem] theorem algAV_ren (f : Nat → Option Nat) (a : Alg) : (algAV a).ren f = algAV a := by simp only [algAV, AV.ren, AV.renl, tagAV_ren, renl_macs, renl_boxes, Option.bind_none]
def symT (kind : UInt8) (n : Int) : Tg := ⟨[115, 121, 109, 98, 111, 108, kind] ++ eightB n ++ List.replicate 17 0, by simp [eightB]⟩
theorem Symbol_spec (kind : UInt8) (n : Nat) (hn : n ≤ 1000000000) (k : Nat) :
  ACall Tryz.prog 140 [.lit (.int .u8 kind.toNat), .lit (.int .i64 n)] k [] (tagAV (symT kind n)) [] := by
 have c1 := Eight_spec (n : Int) (by omega) (by omega)
 have hkb : byteAV kind = .lit (.int .u8 kind.toNat) := rfl
 have hel := eightB_len (n : Int)
 have hT : (symT kind n).1 = [115, 121, 109, 98, 111, 108, kind] ++ eightB n ++ List.replicate 17 0 := rfl
 generalize symT kind n = T at *
 obtain ⟨T, hTl⟩ := T
 simp only [tagAV] at hT ⊢
 generalize eightB (n : Int) = E at *
 have htk : (E.map byteAV).take 8 = E.map byteAV := List.take_of_length_le (by rw [List.length_map]; omega)
 have hz0 : (zeroTag.val.map byteAV).drop 15 = (List.replicate 17 (0 : UInt8)).map byteAV := rfl
 have hfin : AV.lit (.int .u8 115) :: .lit (.int .u8 121) :: .lit (.int .u8 109) :: .lit (.int .u8 98) :: .lit (.int .u8 111) :: .lit (.int .u8 108) :: .lit (.int .u8 kind.toNat) :: ((E.map byteAV).take 8 ++ (zeroTag.val.map byteAV).drop 15) = T.map byteAV := by
  rw [hT, htk, hz0, List.map_append, List.map_append]; rfl
 have hs1 : (AV.agg (T.map byteAV)).sz = 32 := by simp only [AV.sz, szl_bytes]; exact hTl
 have hs2 : (AV.agg (T.map byteAV)).cell = true := celll_bytes T
 clear htk hz0 hT
 refine Bd Tryz.func140 Tryz.ntmps140 fun σ N hp hpn hk hkn hfree => ?_
 have M : Mut (N + 2) := ⟨⟩
 have M2 : Mut (N + 2 + 1) := ⟨⟩
 have hcs := And.intro c1 True.intro
 clear c1
 exact W0
def entL (key : Tg) (msg : List UInt8) : List MacE → Option Tg
 | [] => none
 | e :: r => if e.key = key ∧ e.msg = msg then some e.tag else entL key msg r
def entAV (o : Option Tg) : AV := .tup [tagAV (o.getD zeroTag), .lit (.bool o.isSome)]
set_option maxHeartbeats 1000000 in
theorem entry_spec (a : Alg) (key : Tg) (msg : List UInt8) (hl : a.macs.length ≤ 1000000) (hm : ∀ e ∈ a.macs, e.msg.length ≤ 100000) (k : Nat) :
  ACall Tryz.prog 142 [algAV a, tagAV key, .slice none (msg.map byteAV)] k [] (entAV (entL key msg a.macs)) [] := by
 obtain ⟨fr, sd, fs, L, B⟩ := a
 simp only [algAV] at *
 generalize hR : entL key msg L = R
 unfold entAV
 refine Bd Tryz.func142 Tryz.ntmps142 fun σ N hp hpn hk hkn hfree => ?_
 refine Wk ?_
 refine go_loopF mixed (by kernel_rfl) [7, 8, 9, 10, 11, 12, 13, 14, 15, 16, 17, 18, 19, 20, 21, 22, 23, 24, 25, 26, 27, 28, 29, 30, 31, 32, 33, 34, 35, 36, 37, 38, 39] [N, N+1, N+2] (fun m_ s_ σ_ n_ => ∃ (u : Nat), m_ = L.length - u ∧ s_ 8 = .lit (.int .i64 u) ∧ σ_ (N) = .box 36 (.agg [.lit (.bool fr), tagAV sd, .lit (.int .i64 fs), .slice none (L.map macAV), .slice none (B.map sealAV)]) ∧ σ_ (N+1) = .box 26 (tagAV key) ∧ σ_ (N+2) = .box 26 (tagAV zeroTag) ∧ (u ≤ L.length) ∧ (entL key msg (L.drop u) = R)) ⟨_, 0, rfl, WF, WF, WF, WF, WC, WC⟩ ?_
 intro m_1 s_1 σ_1 n_1 hs_1 hf_1 hn_1 hI_1
 obtain ⟨u, hm_1, h1_8, e1_0, e1_1, e1_2, hu, hd⟩ := hI_1
 have h1_2 := KS hs_1 2
 have h1_3 := KS hs_1 3
 have h1_4 := KS hs_1 4
 have h1_6 := KS hs_1 6
 have hlow := KL (N := N) (σ := σ) hf_1
 by_cases hul : u = L.length
 ·subst hul
  rw [List.drop_length] at hd
  simp only [entL] at hd
  subst hd
  simp only [Option.getD_none, Option.isSome_none]
  exact W0
 ·have hu1 : u < L.length := by omega
  rw [List.drop_eq_getElem_cons hu1, entL] at hd
  have hmz := hm _ (List.getElem_mem hu1)
  obtain ⟨z, hz⟩ : ∃ z, L[u] = z := ⟨_, rfl⟩
  rw [hz] at hd hmz
  obtain ⟨zk, zm, zt⟩ := z
  simp only at hd hmz
  have hzd : macAV ⟨zk, zm, zt⟩ = .agg [tagAV zk, bAV zm, tagAV zt] := rfl
  have hzb := bAV_def zm
  have c1 := Same_spec zm msg (by omega)
  by_cases h1 : zk = key
  ·have d1 : decide (zk = key) = true := decide_eq_true h1
   by_cases h2 : zm = msg
   ·rw [if_pos ⟨h1, h2⟩] at hd
    subst hd
    rw [decide_eq_true h2] at c1
    have hcs := And.intro c1 True.intro
    simp only [Option.getD_some, Option.isSome_some]
    clear c1 hR hm
    subst h1
    subst h2
    exact W0
   ·rw [if_neg (fun h => h2 h.2)] at hd
    rw [decide_eq_false h2] at c1
    have hcs := And.intro c1 True.intro
    clear c1 hR hm
    subst h1
    refine Wk ?_
    exact ⟨WS, WG, WN, _, (show L.length - (u + 1) < m_1 by omega), u + 1, rfl, WF, WF, WF, WF, WC, WC⟩
  ·rw [if_neg (fun h => h1 h.1)] at hd
   have d1 : decide (zk = key) = false := decide_eq_false h1
   clear c1 hR hm
   refine Wk ?_
   exact ⟨WS, WG, WN, _, (show L.length - (u + 1) < m_1 by omega), u + 1, rfl, WF, WF, WF, WF, WC, WC⟩
end Go.Proofs.YtemmlldpmgfblaaGreatDoor

namespace Go.Proofs.YtemmlldpmgfblaaGreatDoor
open Go.Ab
attribute [local irreducible] Go.Ab.tyAV Go.Ab.aw Go.Ab.aops Go.Ab.kReg Go.Ab.aThen Go.Ab.aBlk Go.Ab.acond Go.Ab.aguard Go.Ab.astep Go.Ab.AStepX Go.Ab.aRet
theorem within_eq (x n : Int) (h : 0 < n) : (x.tmod n + n).tmod n = x % n := by
 have h2 : -n < x.tmod n := by have := Int.lt_tmod_of_pos x h; omega
 rw [Int.tmod_eq_emod_of_nonneg (by omega), Int.add_emod_right, Int.tmod_eq_emod]
 split
 ·rename_i hh; simp
 ·rw [Int.sub_emod]; have : n ∣ n.natAbs := by rw [Int.dvd_natAbs]; exact Int.dvd_refl n
  simp [Int.emod_emod_of_dvd, Int.emod_eq_zero_of_dvd this]
theorem Within_spec (x n : Int) (h : 0 < n) (hn : n ≤ 1000000000000000000) (k : Nat) :
  ACall Tryz.prog 38 [.lit (.int .i64 x), .lit (.int .i64 n)] k [] (.lit (.int .i64 (x % n))) [] := by
 have h0 : n ≠ 0 := by omega
 have h1 : x.tmod n < n := Int.tmod_lt_of_pos x h
 have h2 : -n < x.tmod n := by have := Int.lt_tmod_of_pos x h; omega
 refine Bd Tryz.func38 Tryz.ntmps38 fun σ N hp hpn hk hkn hfree => ?_
 refine Wk ?_
 exact go_result (by simp (disch := omega) [go_sem, *, -List.reduceReplicate]; rfl) (by simp only [AV.ren, within_eq x n h]) (fun id _ => rfl)
def deckBox (l : List Int) (i : Nat) : Ent := .box 123 (.agg [.slice none (l.map intAV), .lit (.int .i64 i)])
@[simp, go_sem] theorem deckBox_ne (l : List Int) (i : Nat) : (deckBox l i = .none) = False := by simp [deckBox]
@[go_sem] theorem deckBox_ren (l : List Int) (i : Nat) (f : Nat → Option Nat) : (deckBox l i).ren f = deckBox l i := by
 simp only [deckBox, ent_ren_box, AV.ren, AV.renl, renl_ints, Option.bind_none]
def Dk (l : List Int) (i : Nat) : Prop := l.length ≤ 9223372036854775807 ∧ i ≤ l.length
theorem New_spec (l : List Int) (k : Nat) : ACall Tryz.prog 17 [.slice none (l.map intAV)] k [] (.ptr k [] 0) [(k, deckBox l 0)] := by
 unfold deckBox
 refine Bd Tryz.func17 Tryz.ntmps17 fun σ N hp hpn hk hkn hfree => ?_
 refine Wk ?_
 refine go_result1 (r0 := N+3) (by simp (disch := omega) [go_sem, *, -List.reduceReplicate]; rfl) (by omega) (by simp (disch := omega) [go_sem]; try rfl) (fun id hid => by simp (disch := omega) only [upd_ne]; try exact hlow id hid) (by simp (disch := omega) only [upd_same]; rfl) (by simp (disch := omega) [go_sem])
theorem Next_none (l : List Int) (i : Nat) (n : Int) (hi : l.length ≤ i) (_hb : i ≤ 9223372036854775807) (d k : Nat) :
  ACall Tryz.prog 29 [.ptr d [] 0, .lit (.int .i64 n)] k [(d, deckBox l i)] (.lit (.int .i64 0)) [(d, deckBox l i)] := by
 unfold deckBox
 refine Bd Tryz.func29 Tryz.ntmps29 fun σ N hp hpn hk hkn hfree => ?_
 have hd := hp _ (List.mem_singleton.2 rfl)
 have hdn := hpn _ (List.mem_singleton.2 rfl)
 simp only at hd hdn
 clear hp hpn
 refine Wk ?_
 exact RW (d) (.box 123 (.agg [.slice none (l.map intAV), .lit (.int .i64 i)]))
theorem Next_some (l : List Int) (i : Nat) (n : Int) (hi : i < l.length) (hb : l.length ≤ 9223372036854775807) (h0 : 0 < n) (hn : n ≤ 1000000000000000000) (d k : Nat) :
  ACall Tryz.prog 29 [.ptr d [] 0, .lit (.int .i64 n)] k [(d, deckBox l i)] (.lit (.int .i64 (l[i] % n))) [(d, deckBox l (i + 1))] := by
 obtain ⟨x, hx⟩ : ∃ x, l[i] = x := ⟨_, rfl⟩
 have c1 := Within_spec x n h0 hn
 have hxx : intAV x = .lit (.int .i64 x) := rfl
 rw [hx]
 unfold deckBox
 refine Bd Tryz.func29 Tryz.ntmps29 fun σ N hp hpn hk hkn hfree => ?_
 have hd := hp _ (List.mem_singleton.2 rfl)
 have hdn := hpn _ (List.mem_singleton.2 rfl)
 simp only at hd hdn
 clear hp hpn
 have hcs := And.intro c1 True.intro
 refine Wk ?_
 exact RW (d) (.box 123 (.agg [.slice none (l.map intAV), .lit (.int .i64 ((i : Int) + 1))]))
def nextD (l : List Int) (i : Nat) (n : Nat) : Nat × Nat := if h : i < l.length then ((l[i] % (n : Int)).toNat, i + 1) else (0, i)
theorem nextD_lt (l : List Int) (i : Nat) (n : Nat) (h : 0 < n) : (nextD l i n).1 < n := by
 unfold nextD
 split
 ·have := Int.emod_nonneg l[i] (show (n : Int) ≠ 0 by omega)
  have := Int.emod_lt_of_pos l[i] (show (0 : Int) < (n : Int) by omega)
  simp only; omega
 ·exact h
theorem nextD_dk {l : List Int} {i : Nat} (n : Nat) (h : Dk l i) : Dk l (nextD l i n).2 := by
 unfold nextD Dk at *
 split
 ·exact ⟨h.1, by simp only; omega⟩
 ·exact h
theorem Next_spec (l : List Int) (i : Nat) (n : Nat) (h : Dk l i) (h0 : 0 < n) (hn : n ≤ 1000000000000000000) (d k : Nat) :
  ACall Tryz.prog 29 [.ptr d [] 0, .lit (.int .i64 n)] k [(d, deckBox l i)] (.lit (.int .i64 (nextD l i n).1)) [(d, deckBox l (nextD l i n).2)] := by
 unfold nextD
 split
 ·rename_i hi
  have := Next_some l i n hi h.1 (by omega) (by omega) d k
  have e : ((l[i] % (n : Int)).toNat : Int) = l[i] % (n : Int) := Int.toNat_of_nonneg (Int.emod_nonneg _ (by omega))
  simp only [e]; exact this
 ·rename_i hi; exact Next_none l i n (by omega) (by have := h.1; have := h.2; omega) d k
theorem Next_ex (l : List Int) (i : Nat) (n : Nat) (h : Dk l i) (h0 : 0 < n) (hn : n ≤ 1000000000000000000) :
  ∃ x j : Nat, x < n ∧ Dk l j ∧ ∀ d k, ACall Tryz.prog 29 [.ptr d [] 0, .lit (.int .i64 n)] k [(d, deckBox l i)] (.lit (.int .i64 x)) [(d, deckBox l j)] :=
 ⟨_, _, nextD_lt l i n h0, nextD_dk n h, Next_spec l i n h h0 hn⟩

def rangeD (l : List Int) (i lo n : Nat) : Nat × Nat := (lo + (nextD l i n).1, (nextD l i n).2)
theorem Range_spec (l : List Int) (i : Nat) (lo hi n : Nat) (h : Dk l i) (hlo : lo ≤ 1000000000) (hhi : hi ≤ 1000000000) (hn : hi + 1 = lo + n) (h0 : 0 < n) (d k : Nat) :
  ACall Tryz.prog 103 [.ptr d [] 0, .lit (.int .i64 lo), .lit (.int .i64 hi)] k [(d, deckBox l i)] (.lit (.int .i64 (rangeD l i lo n).1)) [(d, deckBox l (rangeD l i lo n).2)] := by
 have c1 := Next_spec l i n h h0 (by omega)
 have b1 := nextD_lt l i n h0
 unfold rangeD
 generalize nextD l i n = X at *
 obtain ⟨x, j⟩ := X
 simp only at c1 b1 ⊢
 have hx : (hi : Int) - lo + 1 = n := by omega
 have hc : ((lo + x : Nat) : Int) = (lo : Int) + x := by omega
 rw [hc]
 clear hc
 refine Bd Tryz.func103 Tryz.ntmps103 fun σ N hp hpn hk hkn hfree => ?_
 obtain ⟨hd, hdn⟩ := HD0 hp hpn; clear hp hpn
 have hcs := And.intro (c1 d) True.intro
 clear c1
 refine Wk ?_
 exact RW (d) (deckBox l j)
theorem rangeD_dk {l : List Int} {i lo n : Nat} (h : Dk l i) : Dk l (rangeD l i lo n).2 := nextD_dk n h

structure Pr where
 kind : Int
 mask : Int
 frm : Int
 to : Int
 name : List UInt8
 num : Int
deriving DecidableEq
def prAV (p : Pr) : AV := .agg [.lit (.int .i64 p.kind), .lit (.int .u64 p.mask), .lit (.int .i64 p.frm), .lit (.int .i64 p.to), .lit (.string ⟨p.name.toArray⟩), .lit (.int .i64 p.num)]
@[go_sem] theorem prAV_sz (p : Pr) : (prAV p).sz = 6 := rfl
@[go_sem] theorem prAV_isAgg (p : Pr) : (prAV p).isAgg = true := rfl
@[go_sem] theorem prAV_cell (p : Pr) : (prAV p).cell = true := rfl
@[go_sem] theorem prAV_ren (f : Nat → Option Nat) (p : Pr) : (prAV p).ren f = prAV p := rfl
theorem pr_eqB (a b : Pr) : (a.kind == b.kind && (a.mask == b.mask && (a.frm == b.frm && (a.to == b.to && (a.name == b.name && a.num == b.num))))) = decide (a = b) := by
 obtain ⟨a1, a2, a3, a4, a5, a6⟩ := a
 obtain ⟨b1, b2, b3, b4, b5, b6⟩ := b
 rw [Bool.eq_iff_iff]; simp
theorem barr_eq (l m : List UInt8) : ((ByteArray.mk l.toArray) == (ByteArray.mk m.toArray)) = (l == m) := by
 show (l.toArray == m.toArray) = (l == m)
 simp
theorem ev_pr_eq (a b : Pr) : evBin Tryz.prog .eql 110 (prAV a) (prAV b) = some ⟨[], .lit (.bool (decide (a = b))), []⟩ := by
 rw [← pr_eqB]
 simp only [evBin, prAV, evEqA, eq110, eqA, eqAs]
 simp
theorem ev_pr_ne (a b : Pr) : evBin Tryz.prog .neq 110 (prAV a) (prAV b) = some ⟨[], .lit (.bool (!decide (a = b))), []⟩ := by
 rw [← pr_eqB]
 simp only [evBin, prAV, evEqA, eq110, eqA, eqAs]
 simp
attribute [go_sem high] ev_pr_eq ev_pr_ne
@[go_sem high] theorem ev_pr_eq0 (a1 a2 a3 a4 a6 b1 b2 b3 b4 b6 : Int) (a5 b5 : List UInt8) :
  evBin Tryz.prog .eql 110 (.agg [.lit (.int .i64 a1), .lit (.int .u64 a2), .lit (.int .i64 a3), .lit (.int .i64 a4), .lit (.string ⟨a5.toArray⟩), .lit (.int .i64 a6)]) (.agg [.lit (.int .i64 b1), .lit (.int .u64 b2), .lit (.int .i64 b3), .lit (.int .i64 b4), .lit (.string ⟨b5.toArray⟩), .lit (.int .i64 b6)]) =
   some ⟨[], .lit (.bool (decide ((⟨a1, a2, a3, a4, a5, a6⟩ : Pr) = ⟨b1, b2, b3, b4, b5, b6⟩))), []⟩ := ev_pr_eq ⟨a1, a2, a3, a4, a5, a6⟩ ⟨b1, b2, b3, b4, b5, b6⟩
@[go_sem high] theorem ev_pr_eq1 (a1 a2 a3 a4 a6 b1 b2 b3 b4 b6 : Int) (a5 : List UInt8) :
  evBin Tryz.prog .eql 110 (.agg [.lit (.int .i64 a1), .lit (.int .u64 a2), .lit (.int .i64 a3), .lit (.int .i64 a4), .lit (.string ⟨a5.toArray⟩), .lit (.int .i64 a6)]) (.agg [.lit (.int .i64 b1), .lit (.int .u64 b2), .lit (.int .i64 b3), .lit (.int .i64 b4), .lit (.string ByteArray.empty), .lit (.int .i64 b6)]) =
   some ⟨[], .lit (.bool (decide ((⟨a1, a2, a3, a4, a5, a6⟩ : Pr) = ⟨b1, b2, b3, b4, [], b6⟩))), []⟩ := ev_pr_eq ⟨a1, a2, a3, a4, a5, a6⟩ ⟨b1, b2, b3, b4, [], b6⟩
def nmc (c : UInt8) : Bool := decide (97 ≤ c.toNat) && decide (c.toNat ≤ 122)
def nameB (s : List UInt8) : Bool := decide (1 ≤ s.length) && decide (s.length ≤ 16) && s.all nmc
theorem nameB_bad {s : List UInt8} {u : Nat} (hu : u < s.length) (h : nmc s[u] = false) : nameB s = false := by
 have : s.all nmc = false := by
  rw [List.all_eq_false]
  exact ⟨s[u], List.getElem_mem hu, by simp [h]⟩
 simp [nameB, this]
theorem name_gen (s : List UInt8) (r : Bool) (hr : nameB s = r) (hl : s.length ≤ 9223372036854775807) (k : Nat) :
  ACall Tryz.prog 148 [.lit (.string ⟨s.toArray⟩)] k [] (.lit (.bool r)) [] := by
 by_cases h1 : s.length < 1
 ·have : r = false := by rw [← hr]; simp [nameB, show ¬ 1 ≤ s.length by omega]
  subst this
  clear hr
  have hi : (s.length : Int) < 1 := by omega
  refine Bd Tryz.func148 Tryz.ntmps148 fun σ N hp hpn hk hkn hfree => ?_
  exact W0
 ·have hi : ¬ (s.length : Int) < 1 := by omega
  by_cases h2 : 16 < s.length
  ·have : r = false := by rw [← hr]; simp [nameB, show ¬ s.length ≤ 16 by omega]
   subst this
   clear hr
   have hi2 : (16 : Int) < (s.length : Int) := by omega
   refine Bd Tryz.func148 Tryz.ntmps148 fun σ N hp hpn hk hkn hfree => ?_
   exact W0
  ·have hi2 : ¬ (16 : Int) < (s.length : Int) := by omega
   refine Bd Tryz.func148 Tryz.ntmps148 fun σ N hp hpn hk hkn hfree => ?_
   refine Wk ?_
   refine go_loopF mixed (by kernel_rfl) [2, 3, 14, 15, 16, 17, 18, 19, 20, 21, 22, 23, 24, 25, 26, 27] [] (fun m_ s_ σ_ n_ => ∃ (u : Nat), m_ = s.length - u ∧ s_ 14 = .lit (.int .i64 u) ∧ (u ≤ s.length) ∧ (∀ c ∈ s.take u, nmc c = true)) ⟨_, 0, rfl, WF, WC, WC⟩ ?_
   intro m_1 s_1 σ_1 n_1 hs_1 hf_1 hn_1 hI_1
   obtain ⟨u, hm_1, h1_14, hu, hall⟩ := hI_1
   have h1_0 := KS hs_1 0
   have h1_13 := KS hs_1 13
   have hlow := KL (N := N) (σ := σ) hf_1
   by_cases hul : u = s.length
   ·have : r = true := by
     rw [← hr]
     rw [hul, List.take_length] at hall
     simp only [nameB, Bool.and_eq_true, decide_eq_true_eq, List.all_eq_true]
     exact ⟨⟨by omega, by omega⟩, hall⟩
    subst this
    subst hul
    clear hall hr
    exact W0
   ·have hui : u < s.length := by omega
    obtain ⟨c, hc⟩ : ∃ c, s[u] = c := ⟨_, rfl⟩
    have hcl := c.toNat_lt
    by_cases hg : nmc c = true
    ·have hall2 : ∀ c ∈ s.take (u + 1), nmc c = true := by
      intro x hx
      rw [List.take_add_one, List.getElem?_eq_getElem hui, hc] at hx
      simp only [Option.toList, List.mem_append, List.mem_singleton] at hx
      rcases hx with hx | rfl
      ·exact hall x hx
      ·exact hg
     simp only [nmc, Bool.and_eq_true, decide_eq_true_eq] at hg
     have g1 : ¬ (c.toNat : Int) < 97 := by omega
     have g2 : ¬ (122 : Int) < (c.toNat : Int) := by omega
     clear hall hg hr
     refine Wk ?_
     exact ⟨WS, WG, WN, _, (show s.length - (u + 1) < m_1 by omega), u + 1, rfl, WF, WC, WC⟩
    ·have hb : nmc c = false := by simpa using hg
     have : r = false := by rw [← hr]; exact nameB_bad hui (by rw [hc]; exact hb)
     subst this
     clear hall hr
     by_cases g1 : (c.toNat : Int) < 97
     ·clear hg hb
      exact W0
     ·have g2 : (122 : Int) < (c.toNat : Int) := by
       simp only [nmc, Bool.and_eq_false_iff, decide_eq_false_iff_not] at hb
       omega
      clear hg hb
      exact W0
theorem refname_gen (s : List UInt8) (r : Bool) (hr : nameB s = r) (hl : s.length ≤ 9223372036854775807) (k : Nat) :
  ACall Tryz.prog 86 [.lit (.string ⟨s.toArray⟩)] k [] (.lit (.bool r)) [] := by
 by_cases h1 : s.length < 1
 ·have : r = false := by rw [← hr]; simp [nameB, show ¬ 1 ≤ s.length by omega]
  subst this
  clear hr
  have hi : (s.length : Int) < 1 := by omega
  refine Bd Tryz.func86 Tryz.ntmps86 fun σ N hp hpn hk hkn hfree => ?_
  exact W0
 ·have hi : ¬ (s.length : Int) < 1 := by omega
  by_cases h2 : 16 < s.length
  ·have : r = false := by rw [← hr]; simp [nameB, show ¬ s.length ≤ 16 by omega]
   subst this
   clear hr
   have hi2 : (16 : Int) < (s.length : Int) := by omega
   refine Bd Tryz.func86 Tryz.ntmps86 fun σ N hp hpn hk hkn hfree => ?_
   exact W0
  ·have hi2 : ¬ (16 : Int) < (s.length : Int) := by omega
   refine Bd Tryz.func86 Tryz.ntmps86 fun σ N hp hpn hk hkn hfree => ?_
   refine Wk ?_
   refine go_loopF mixed (by kernel_rfl) [2, 3, 12, 13, 14, 15, 16, 17, 18, 19, 20, 21, 22, 23, 24, 25, 26, 27] [] (fun m_ s_ σ_ n_ => ∃ (u : Nat), m_ = s.length - u ∧ s_ 3 = .lit (.int .i64 u) ∧ (u ≤ s.length) ∧ (∀ c ∈ s.take u, nmc c = true)) ⟨_, 0, rfl, WF, WC, WC⟩ ?_
   intro m_2 s_2 σ_2 n_2 hs_2 hf_2 hn_2 hI_2
   obtain ⟨u, hm_2, h2_3, hu, hall⟩ := hI_2
   have h2_0 := KS hs_2 0
   have hlow := KL (N := N) (σ := σ) hf_2
   by_cases hul : u = s.length
   ·have : r = true := by
     rw [← hr]
     rw [hul, List.take_length] at hall
     simp only [nameB, Bool.and_eq_true, decide_eq_true_eq, List.all_eq_true]
     exact ⟨⟨by omega, by omega⟩, hall⟩
    subst this
    subst hul
    clear hall hr
    exact W0
   ·have hui : u < s.length := by omega
    obtain ⟨c, hc⟩ : ∃ c, s[u] = c := ⟨_, rfl⟩
    have hcl := c.toNat_lt
    by_cases hg : nmc c = true
    ·have hall2 : ∀ c ∈ s.take (u + 1), nmc c = true := by
      intro x hx
      rw [List.take_add_one, List.getElem?_eq_getElem hui, hc] at hx
      simp only [Option.toList, List.mem_append, List.mem_singleton] at hx
      rcases hx with hx | rfl
      ·exact hall x hx
      ·exact hg
     simp only [nmc, Bool.and_eq_true, decide_eq_true_eq] at hg
     have g1 : ¬ (c.toNat : Int) < 97 := by omega
     have g2 : ¬ (122 : Int) < (c.toNat : Int) := by omega
     clear hall hg hr
     refine Wk ?_
     exact ⟨WS, WG, WN, _, (show s.length - (u + 1) < m_2 by omega), u + 1, rfl, WF, WC, WC⟩
    ·have hb : nmc c = false := by simpa using hg
     have : r = false := by rw [← hr]; exact nameB_bad hui (by rw [hc]; exact hb)
     subst this
     clear hall hr
     by_cases g1 : (c.toNat : Int) < 97
     ·clear hg hb
      exact W0
     ·have g2 : (122 : Int) < (c.toNat : Int) := by
       simp only [nmc, Bool.and_eq_false_iff, decide_eq_false_iff_not] at hb
       omega
      clear hg hb
      exact W0
theorem name_spec (s : List UInt8) (hl : s.length ≤ 9223372036854775807) (k : Nat) :
  ACall Tryz.prog 148 [.lit (.string ⟨s.toArray⟩)] k [] (.lit (.bool (nameB s))) [] := name_gen s _ rfl hl k
theorem Name_spec (s : List UInt8) (hl : s.length ≤ 9223372036854775807) (k : Nat) :
  ACall Tryz.prog 86 [.lit (.string ⟨s.toArray⟩)] k [] (.lit (.bool (nameB s))) [] := refname_gen s _ rfl hl k
def maskB (m : Int) (n : Nat) : Bool := decide (m ≠ 0) && decide (m < 2 ^ n)
theorem mask_spec (m : Int) (h0 : 0 ≤ m) (h1 : m < 18446744073709551616) (n : Nat) (hn : n = 64 ∨ n = 32 ∨ n = 7) (k : Nat) :
  ACall Tryz.prog 147 [.lit (.int .u64 m), .lit (.int .i64 n)] k [] (.lit (.bool (maskB m n))) [] := by
 by_cases hm : m = 0
 ·subst hm
  simp only [maskB, ne_eq, not_true_eq_false, decide_false, Bool.false_and]
  refine Bd Tryz.func147 Tryz.ntmps147 fun σ N hp hpn hk hkn hfree => ?_
  exact W0
 ·have hmb : (m == 0) = false := by simp [hm]
  have hmc : (m != 0) = true := by simp [hm]
  have e0 : decide (m ≠ 0) = true := by simp [hm]
  unfold maskB
  rw [e0, Bool.true_and]
  clear e0
  rcases hn with rfl | rfl | rfl
  ·have e1 : decide (m < 2 ^ 64) = true := by simp; omega
   rw [e1]
   clear e1
   refine Bd Tryz.func147 Tryz.ntmps147 fun σ N hp hpn hk hkn hfree => ?_
   exact W0
  ·have e1 : (m.fdiv 4294967296 == 0) = decide (m < 2 ^ 32) := by
    rw [Int.fdiv_eq_ediv_of_nonneg _ (by omega), Bool.eq_iff_iff, beq_iff_eq, decide_eq_true_eq]; omega
   generalize decide (m < 2 ^ 32) = r at *
   cases r with
   | true =>
    refine Bd Tryz.func147 Tryz.ntmps147 fun σ N hp hpn hk hkn hfree => ?_
    exact W0
   | false =>
    refine Bd Tryz.func147 Tryz.ntmps147 fun σ N hp hpn hk hkn hfree => ?_
    exact W0
  ·have e1 : (m.fdiv 128 == 0) = decide (m < 2 ^ 7) := by
    rw [Int.fdiv_eq_ediv_of_nonneg _ (by omega), Bool.eq_iff_iff, beq_iff_eq, decide_eq_true_eq]; omega
   generalize decide (m < 2 ^ 7) = r at *
   cases r with
   | true =>
    refine Bd Tryz.func147 Tryz.ntmps147 fun σ N hp hpn hk hkn hfree => ?_
    exact W0
   | false =>
    refine Bd Tryz.func147 Tryz.ntmps147 fun σ N hp hpn hk hkn hfree => ?_
    exact W0
end Go.Proofs.YtemmlldpmgfblaaGreatDoor

namespace Go.Proofs.YtemmlldpmgfblaaGreatDoor
open Go.Ab
attribute [local irreducible] Go.Ab.tyAV Go.Ab.aw Go.Ab.aops Go.Ab.kReg Go.Ab.aThen Go.Ab.aBlk Go.Ab.acond Go.Ab.aguard Go.Ab.astep Go.Ab.AStepX Go.Ab.aRet
attribute [local irreducible] shaG
section
variable [W : W32]
def derT (seed : Tg) (n : Int) : Tg := hmacT seed.1 ([102, 114, 101, 115, 104, 0] ++ eightB n)
def keyS (a : Alg) : Alg × Tg × Nat :=
 if 65536 ≤ a.fresh then (alg0, zeroTag, 2) else ({ a with fresh := a.fresh + 1 }, if a.free then symT 107 (a.fresh + 1) else derT a.seed (a.fresh + 1), 0)
def macS (a : Alg) (key : Tg) (msg : List UInt8) : Alg × Tg × Nat :=
 if 4096 < msg.length then (alg0, zeroTag, 2) else match entL key msg a.macs with
  | some t => (a, t, 0)
  | none => if 65536 ≤ a.macs.length then (alg0, zeroTag, 2) else
   let t := if a.free then symT 109 (a.macs.length + 1) else hmacT key.1 msg
   ({ a with macs := a.macs ++ [⟨key, msg, t⟩] }, t, 0)
def mkAV (r : Alg × Tg × Nat) : AV := .tup [algAV r.1, tagAV r.2.1, .lit (.int .i64 (r.2.2 : Nat))]
theorem Derive_spec (seed : Tg) (n : Nat) (hn : n ≤ 1000000000) (k : Nat) :
  ACall Tryz.prog 141 [tagAV seed, strAV [102, 114, 101, 115, 104], .lit (.int .i64 n)] k [] (.tup [tagAV (derT seed n), .lit (.int .i64 0)]) [] := by
 have c1 := refname_gen [102, 114, 101, 115, 104] true (by decide) (by simp)
 have c2 := Eight_spec (n : Int) (by omega) (by omega)
 have hel := eightB_len (n : Int)
 unfold derT
 have c3 := Hmac_spec seed.1 ([102, 114, 101, 115, 104, 0] ++ eightB n) (by rw [seed.2]; decide) (by simp [hel])
 generalize hmacT seed.1 ([102, 114, 101, 115, 104, 0] ++ eightB n) = T at *
 generalize eightB (n : Int) = E at *
 have hs1 := tagAV_sz seed
 have hs2 := tagAV_cell seed
 obtain ⟨S, hS⟩ := seed
 simp only at c3
 simp only [tagAV] at hs1 hs2 ⊢
 have htk : (S.map byteAV).take 32 = S.map byteAV := List.take_of_length_le (by rw [List.length_map]; omega)
 unfold strAV
 refine Bd Tryz.func141 Tryz.ntmps141 fun σ N hp hpn hk hkn hfree => ?_
 have hcs := And.intro c1 (And.intro c2 (And.intro c3 True.intro))
 clear c1 c2 c3
 exact W0
theorem Key_spec (a : Alg) (h0 : 0 ≤ a.fresh) (k : Nat) :
  ACall Tryz.prog 68 [algAV a] k [] (mkAV (keyS a)) [] := by
 obtain ⟨fr, sd, fs, L, B⟩ := a
 simp only at h0
 obtain ⟨n, rfl⟩ := Int.eq_ofNat_of_zero_le h0
 unfold keyS mkAV
 simp only [algAV] at *
 by_cases h1 : (65536 : Int) ≤ (n : Int)
 ·rw [if_pos h1]
  simp only [alg0, List.map_nil]
  refine Bd Tryz.func68 Tryz.ntmps68 fun σ N hp hpn hk hkn hfree => ?_
  exact WT
 ·rw [if_neg h1]
  have hn1 : (n : Int) + 1 = ((n + 1 : Nat) : Int) := by omega
  cases fr with
  | true =>
   have c1 := Symbol_spec 107 (n + 1) (by omega)
   rw [hn1]
   simp only [if_true]
   generalize symT 107 ((n + 1 : Nat) : Int) = T at *
   have e107 : ((107 : UInt8).toNat : Int) = 107 := rfl
   rw [e107] at c1
   clear hn1
   refine Bd Tryz.func68 Tryz.ntmps68 fun σ N hp hpn hk hkn hfree => ?_
   have hcs := And.intro c1 True.intro
   clear c1 e107
   exact W0
  | false =>
   have c1 := Derive_spec sd (n + 1) (by omega)
   rw [hn1]
   simp only [Bool.false_eq_true, if_false]
   generalize derT sd ((n + 1 : Nat) : Int) = T at *
   unfold strAV at c1
   clear hn1
   refine Bd Tryz.func68 Tryz.ntmps68 fun σ N hp hpn hk hkn hfree => ?_
   have hcs := And.intro c1 True.intro
   clear c1
   exact W0
end

theorem alg0_eq : algAV alg0 = .agg [.lit (.bool false), tagAV zeroTag, .lit (.int .i64 0), .slice none [], .slice none []] := rfl
theorem snocM {K msg : List UInt8} {t : Tg} (L : List MacE) (hK : K.length = 32) (a b : Option Nat) : AV.le (.slice a (L.map macAV ++ [.agg [.agg (K.map byteAV), .slice b (msg.map byteAV), tagAV t]])) (.slice none ((L ++ [(⟨⟨K, hK⟩, msg, t⟩ : MacE)]).map macAV)) := fun g v h => by
 rw [List.map_append]
 exact AV.le_own _ _ g v (AV.le_sliceS a (ALe.snoc (AV.sub_agg (.cons (AV.le_refl _) (.cons (AV.le_own b _) (.cons (AV.le_refl _) .nil))))) g v h)
section
variable [W : W32]
theorem macS_long {a : Alg} {key : Tg} {msg : List UInt8} (h : 4096 < msg.length) : macS a key msg = (alg0, zeroTag, 2) := by unfold macS; rw [if_pos h]
theorem macS_found {a : Alg} {key : Tg} {msg : List UInt8} {t : Tg} (h : ¬ 4096 < msg.length) (he : entL key msg a.macs = some t) : macS a key msg = (a, t, 0) := by unfold macS; rw [if_neg h, he]
theorem macS_full {a : Alg} {key : Tg} {msg : List UInt8} (h : ¬ 4096 < msg.length) (he : entL key msg a.macs = none) (hf : 65536 ≤ a.macs.length) : macS a key msg = (alg0, zeroTag, 2) := by unfold macS; rw [if_neg h, he]; simp only; rw [if_pos hf]
theorem macS_new {a : Alg} {key : Tg} {msg : List UInt8} (h : ¬ 4096 < msg.length) (he : entL key msg a.macs = none) (hf : ¬ 65536 ≤ a.macs.length) : macS a key msg = ({ a with macs := a.macs ++ [⟨key, msg, if a.free then symT 109 (a.macs.length + 1) else hmacT key.1 msg⟩] }, if a.free then symT 109 (a.macs.length + 1) else hmacT key.1 msg, 0) := by unfold macS; rw [if_neg h, he]; simp only; rw [if_neg hf]
set_option maxHeartbeats 2000000 in
theorem Mac_spec (a : Alg) (key : Tg) (msg : List UInt8) (hl : a.macs.length ≤ 1000000) (hm : ∀ e ∈ a.macs, e.msg.length ≤ 100000) (k : Nat) :
  ACall Tryz.prog 69 [algAV a, tagAV key, .slice none (msg.map byteAV)] k [] (mkAV (macS a key msg)) [] := by
 have c1 := entry_spec a key msg hl hm
 by_cases h1 : 4096 < msg.length
 ·rw [macS_long h1]
  have h1i : (4096 : Int) < (msg.length : Int) := by omega
  unfold mkAV
  simp only [alg0_eq]
  clear c1
  refine Bd Tryz.func69 Tryz.ntmps69 fun σ N hp hpn hk hkn hfree => ?_
  exact WT
 ·have h1i : ¬ (4096 : Int) < (msg.length : Int) := by omega
  cases he : entL key msg a.macs with
  | some t =>
   rw [macS_found h1 he]
   rw [he] at c1
   unfold entAV at c1
   simp only [Option.getD_some, Option.isSome_some] at c1
   unfold mkAV
   simp only
   refine Bd Tryz.func69 Tryz.ntmps69 fun σ N hp hpn hk hkn hfree => ?_
   have hcs := And.intro c1 True.intro
   clear c1 he hm
   exact W0
  | none =>
   rw [he] at c1
   unfold entAV at c1
   simp only [Option.getD_none, Option.isSome_none] at c1
   by_cases hf : 65536 ≤ a.macs.length
   ·rw [macS_full h1 he hf]
    obtain ⟨fr, sd, fs, L, B⟩ := a
    simp only at hf hl hm
    unfold mkAV
    simp only [alg0_eq]
    simp only [algAV] at c1 ⊢
    have hfi : (65536 : Int) ≤ (L.length : Int) := by omega
    refine Bd Tryz.func69 Tryz.ntmps69 fun σ N hp hpn hk hkn hfree => ?_
    have hcs := And.intro c1 True.intro
    clear c1 he hm
    exact WT
   ·rw [macS_new h1 he hf]
    obtain ⟨fr, sd, fs, L, B⟩ := a
    simp only at hf hl hm
    have hfi : ¬ (65536 : Int) ≤ (L.length : Int) := by omega
    have c2 := Hmac_spec key.1 msg (by rw [key.2]; decide) (by omega)
    have hb : (L.length + 1) * 88 ≤ 140737488355328 := by omega
    have hb0 : L.length * 88 ≤ 140737488355328 := by omega
    have hb1 : L.length ≤ 140737488355327 := by omega
    unfold mkAV
    cases fr with
    | false =>
     simp only [Bool.false_eq_true, if_false]
     generalize hmacT key.1 msg = t at *
     have hs1 := tagAV_sz key
     have hs2 := tagAV_cell key
     have hmA : macAV ⟨key, msg, t⟩ = .agg [tagAV key, bAV msg, tagAV t] := rfl
     have hmb := bAV_def msg
     obtain ⟨K, hK⟩ := key
     have hkA : tagAV ⟨K, hK⟩ = .agg (K.map byteAV) := rfl
     simp only [hkA] at hs1 hs2 c1 c2 hmA ⊢
     clear hkA
     have hs3 : AV.celll (K.map byteAV) = true := celll_bytes K
     have htk : (K.map byteAV).take 32 = K.map byteAV := List.take_of_length_le (by rw [List.length_map]; omega)
     simp only [algAV] at c1 ⊢
     refine Bd Tryz.func69 Tryz.ntmps69 fun σ N hp hpn hk hkn hfree => ?_
     have hcs := And.intro c1 (And.intro c2 True.intro)
     clear c1 c2 he hm hmA hmb
     refine Wm ?_
     iterate 8 refine Wz ?_
     refine go_lessIn N [3] (.slice none ((L ++ [(⟨⟨K, hK⟩, msg, t⟩ : MacE)]).map macAV)) (bt := 36) (c := .agg [.lit (.bool false), tagAV sd, .lit (.int .i64 fs), .slice (some (N + 30)) (L.map macAV ++ [.agg [.agg (K.map byteAV), .slice (some (N + 30 + 5)) (msg.map byteAV), tagAV t]]), .slice none (B.map sealAV)]) (by simp (disch := omega) [go_sem, *, -List.reduceReplicate]) rfl (snocM L hK _ _) rfl rfl ?_
     exact W0
    | true =>
     simp only [if_true]
     have c3 := Symbol_spec 109 (L.length + 1) (by omega)
     have e109 : ((109 : UInt8).toNat : Int) = 109 := rfl
     have hn1 : ((L.length + 1 : Nat) : Int) = (L.length : Int) + 1 := by omega
     rw [e109, hn1] at c3
     clear e109 hn1
     generalize hmacT key.1 msg = t0 at *
     generalize symT 109 ((L.length : Int) + 1) = t at *
     have hs1 := tagAV_sz key
     have hs2 := tagAV_cell key
     have hmA : macAV ⟨key, msg, t⟩ = .agg [tagAV key, bAV msg, tagAV t] := rfl
     have hmb := bAV_def msg
     obtain ⟨K, hK⟩ := key
     have hkA : tagAV ⟨K, hK⟩ = .agg (K.map byteAV) := rfl
     simp only [hkA] at hs1 hs2 c1 c2 hmA ⊢
     clear hkA
     have hs3 : AV.celll (K.map byteAV) = true := celll_bytes K
     have htk : (K.map byteAV).take 32 = K.map byteAV := List.take_of_length_le (by rw [List.length_map]; omega)
     simp only [algAV] at c1 ⊢
     refine Bd Tryz.func69 Tryz.ntmps69 fun σ N hp hpn hk hkn hfree => ?_
     have hcs := And.intro c1 (And.intro c2 (And.intro c3 True.intro))
     clear c1 c2 c3 he hm hmA hmb
     refine Wm ?_
     iterate 9 refine Wz ?_
     refine go_lessIn N [3] (.slice none ((L ++ [(⟨⟨K, hK⟩, msg, t⟩ : MacE)]).map macAV)) (bt := 36) (c := .agg [.lit (.bool true), tagAV sd, .lit (.int .i64 fs), .slice (some (N + 36)) (L.map macAV ++ [.agg [.agg (K.map byteAV), .slice (some (N + 36 + 5)) (msg.map byteAV), tagAV t]]), .slice none (B.map sealAV)]) (by simp (disch := omega) [go_sem, *, -List.reduceReplicate]) rfl (snocM L hK _ _) rfl rfl ?_
     exact W0
end
end Go.Proofs.YtemmlldpmgfblaaGreatDoor

namespace Go.Proofs.YtemmlldpmgfblaaGreatDoor
open Go.Ab
attribute [local irreducible] Go.Ab.tyAV Go.Ab.aw Go.Ab.aops Go.Ab.kReg Go.Ab.aThen Go.Ab.aBlk Go.Ab.acond Go.Ab.aguard Go.Ab.astep Go.Ab.AStepX Go.Ab.aRet
theorem Eight_row (m : Int) (_m0 : 0 ≤ m) (_m1 : m < 18446744073709551616) (k : Nat) :
  ACall Tryz.prog 144 [.lit (.int .u64 m)] k [] (.slice (some k) ((eightB m).map byteAV)) [(k, .row 5 1 8)] := by
 have e7 := sh8_wrap m 56
 have e6 := sh8_wrap m 48
 have e5 := sh8_wrap m 40
 have e4 := sh8_wrap m 32
 have e3 := sh8_wrap m 24
 have e2 := sh8_wrap m 16
 have e1 := sh8_wrap m 8
 have e0 := sh8_wrap m 0
 simp only [Int.reducePow, Int.pow_zero, Int.fdiv_one] at e7 e6 e5 e4 e3 e2 e1 e0
 unfold eightB
 generalize sh8 m 56 = b7 at *
 generalize sh8 m 48 = b6 at *
 generalize sh8 m 40 = b5 at *
 generalize sh8 m 32 = b4 at *
 generalize sh8 m 24 = b3 at *
 generalize sh8 m 16 = b2 at *
 generalize sh8 m 8 = b1 at *
 generalize sh8 m 0 = b0 at *
 refine Bd Tryz.func144 Tryz.ntmps144 fun σ N hp hpn hk hkn hfree => ?_
 refine Wk ?_
 refine ALoop.nilrow 3 5 1 (by simp (disch := omega) [go_sem, *, -List.reduceReplicate]) ?_
 refine go_loopB (N) mixed (by kernel_rfl) [3, 4, 5, 6, 7, 8, 9, 10, 11, 12, 13, 14, 15, 16] [] (fun m_ s_ σ_ n_ => ∃ (u : Nat) (q : Nat) (acc : List UInt8), m_ = 8 - u ∧ s_ 4 = .lit (.int .i64 (56 - 8 * (u : Int))) ∧ s_ 3 = .slice (some q) (acc.map byteAV) ∧ σ_ (q) = .row 5 1 acc.length ∧ (u ≤ 8) ∧ (N ≤ q) ∧ (q < n_) ∧ (acc = [b7, b6, b5, b4, b3, b2, b1, b0].take u)) ⟨_, 0, _, [], rfl, WF, WF, WF, WC, WC, WC, WC⟩ ?_
 intro m_1 s_1 σ_1 n_1 hs_1 hf_1 hn_1 hI_1
 obtain ⟨u, q, acc, hm_1, h1_4, h1_3, e1_0, hu, hq, hqn, hacc⟩ := hI_1
 have h1_0 := KS hs_1 0
 have h1_2 := KS hs_1 2
 have hlow := KL (N := N) (σ := σ) hf_1
 have hb7 : byteAV b7 = .lit (.int .u8 b7.toNat) := rfl
 have hb6 : byteAV b6 = .lit (.int .u8 b6.toNat) := rfl
 have hb5 : byteAV b5 = .lit (.int .u8 b5.toNat) := rfl
 have hb4 : byteAV b4 = .lit (.int .u8 b4.toNat) := rfl
 have hb3 : byteAV b3 = .lit (.int .u8 b3.toNat) := rfl
 have hb2 : byteAV b2 = .lit (.int .u8 b2.toNat) := rfl
 have hb1 : byteAV b1 = .lit (.int .u8 b1.toNat) := rfl
 have hb0 : byteAV b0 = .lit (.int .u8 b0.toNat) := rfl
 have hcase : u = 0 ∨ u = 1 ∨ u = 2 ∨ u = 3 ∨ u = 4 ∨ u = 5 ∨ u = 6 ∨ u = 7 ∨ u = 8 := by omega
 rcases hcase with rfl | hcase
 ·simp only [List.take_zero] at hacc
  subst hacc
  refine Wk ?_
  exact ⟨WS, WG, WN, _, (show 8 - (1) < m_1 by omega), 1, q, [b7], rfl, WF, WF, WF, WC, WC, WC, WC⟩
 rcases hcase with rfl | hcase
 ·simp only [List.take_succ_cons, List.take_zero] at hacc
  subst hacc
  refine Wk ?_
  exact ⟨WS, WG, WN, _, (show 8 - (2) < m_1 by omega), 2, q, [b7, b6], rfl, WF, WF, WF, WC, WC, WC, WC⟩
 rcases hcase with rfl | hcase
 ·simp only [List.take_succ_cons, List.take_zero] at hacc
  subst hacc
  refine Wk ?_
  exact ⟨WS, WG, WN, _, (show 8 - (3) < m_1 by omega), 3, q, [b7, b6, b5], rfl, WF, WF, WF, WC, WC, WC, WC⟩
 rcases hcase with rfl | hcase
 ·simp only [List.take_succ_cons, List.take_zero] at hacc
  subst hacc
  refine Wk ?_
  exact ⟨WS, WG, WN, _, (show 8 - (4) < m_1 by omega), 4, q, [b7, b6, b5, b4], rfl, WF, WF, WF, WC, WC, WC, WC⟩
 rcases hcase with rfl | hcase
 ·simp only [List.take_succ_cons, List.take_zero] at hacc
  subst hacc
  refine Wk ?_
  exact ⟨WS, WG, WN, _, (show 8 - (5) < m_1 by omega), 5, q, [b7, b6, b5, b4, b3], rfl, WF, WF, WF, WC, WC, WC, WC⟩
 rcases hcase with rfl | hcase
 ·simp only [List.take_succ_cons, List.take_zero] at hacc
  subst hacc
  refine Wk ?_
  exact ⟨WS, WG, WN, _, (show 8 - (6) < m_1 by omega), 6, q, [b7, b6, b5, b4, b3, b2], rfl, WF, WF, WF, WC, WC, WC, WC⟩
 rcases hcase with rfl | hcase
 ·simp only [List.take_succ_cons, List.take_zero] at hacc
  subst hacc
  refine Wk ?_
  exact ⟨WS, WG, WN, _, (show 8 - (7) < m_1 by omega), 7, q, [b7, b6, b5, b4, b3, b2, b1], rfl, WF, WF, WF, WC, WC, WC, WC⟩
 rcases hcase with rfl | hcase
 ·simp only [List.take_succ_cons, List.take_zero] at hacc
  subst hacc
  refine Wk ?_
  exact ⟨WS, WG, WN, _, (show 8 - (8) < m_1 by omega), 8, q, [b7, b6, b5, b4, b3, b2, b1, b0], rfl, WF, WF, WF, WC, WC, WC, WC⟩
 subst hcase
 simp only [List.take_succ_cons, List.take_zero] at hacc
 subst hacc
 clear hb7 hb6 hb5 hb4 hb3 hb2 hb1 hb0
 refine Wk ?_
 refine go_result1 (r0 := q) (by simp (disch := omega) [go_sem, *, -List.reduceReplicate]; rfl) (by omega) (by simp (disch := omega) [go_sem]; try rfl) (fun id hid => by simp (disch := omega) only; try exact hlow id hid) (by simp (disch := omega) [go_sem, *, -List.reduceReplicate]; rfl) (by simp (disch := omega) [go_sem])
end Go.Proofs.YtemmlldpmgfblaaGreatDoor

namespace Go.Ab
open Go.RowKit
theorem go_fixBox {P : Program} {N : Nat} {b : Code} {Q : AExit → Cfg → Prop} {s : Slots} {σ : Nat → Ent} {n : Nat} (id : Nat) {bt : TypeId} {x : AV} (hσ : σ id = .box bt x) (h : aw P N b Q ⟨s, upd σ id (.fbox bt x), n⟩) : aw P N b Q ⟨s, σ, n⟩ :=
 go_ghost (fun W0 g a w hS => by
  obtain ⟨b0, v, hb0, _⟩ := hS.sim.box id bt x hσ
  obtain ⟨g', h1, h2, _⟩ := hS.sim.freeze hσ hb0
  exact ⟨g', h1, ⟨h2, hS.size, fun t => (hS.slots t).mono h1⟩⟩) h
section
variable {P : Program} {o : Oper} {s : Slots} {id : Nat}
theorem holds_slice_whole {t e : TypeId} {x : Operand} {i off n size : Nat} {path : List Nat} {bt : TypeId} {c : AV} {ys : List AV} (ho : o.op = .slice t x none none none) (ht : ptrArr P t = some (n, e, size)) (hx : aeval s x = .ptr i path off)
  (hy : c.get path = some (.agg ys)) (hoff : c.offs path = off) (hn : ys.length = n) (hsz : ys.all (fun y => y.sz == size) = true) (h4 : n ≤ maxLen) :
  OpHolds P o s id [(i, .box bt c)] (.clip ys) [(i, .fbox bt c)] := by
 refine ⟨fun p hp => by simp at hp; subst hp; simp, fun q hq => .inr ⟨_, List.mem_cons_self .., by simp at hq; subst hq; rfl⟩, fun W0 g σ N w a hS hr _ _ hp => ?_⟩
 have hx' := hr x (by simp [ho, Op.operands])
 rw [hx] at hx'
 generalize hv : a.eval x = v at hx'
 cases hx' with
 | ptr _ _ _ b hb =>
  have hbd := run_bounds (P := P) (a := a) (g := g) (s := s) (lo := none) (hi := none) (len := n) (l := 0) (h := n) rfl rfl (fun x hx => by cases hx) (fun x hx => by cases hx) (Nat.zero_le _) (Nat.le_refl _) false w
  have hrun := run_slice_arr (P := P) (b := b) (off := off) ht hbd
  have hexec : (execOp a.eval o).run P w = .ok (.value (.slice (some (if n = 0 then ⟨b, off, none⟩ else ⟨b, off + 0 * size, none⟩)) (n - 0) (n - 0))) w := by
   simp only [execOp, ho, Sem.run_bind, hv, Option.map_none]
   rw [show ((none : Option Operand).map a.eval) = none from rfl] at hrun
   simp only [hrun, Result.andThen_ok, Sem.run_pure]
  unfold runsTo
  rw [hexec]
  obtain ⟨g', hle, hS', v', hrep, hG⟩ := hS.freeze (hp (i, .box bt c) (by simp)) hb
  refine ⟨g', hle, hS', ?_⟩
  obtain ⟨u, hu, hub, huc⟩ := hrep.get hy
  cases hu with
  | agg _ vs hvl hvr =>
   refine .clip _ _ _ ?_
   have := arr_part (g := g') (b := b) (off := off) (l := 0) (h := n) (c := n - 0) hvl hvr (sizes_of hvl hvr hsz) (fun j q hq => by
    rw [hG, ← Array.getElem?_toList, ← hoff]
    exact huc j q (by simpa [Value.cells] using hq)) (Nat.zero_le _) (by omega) (by omega) (by omega) (if n = 0 then ⟨b, off, none⟩ else ⟨b, off + 0 * size, none⟩) (by
    by_cases h0 : n = 0
    ·exact .inl (by omega)
    ·exact .inr (by rw [if_neg h0]))
   rw [show (ys.take n).drop 0 = ys by rw [List.drop_zero, List.take_of_length_le (by omega)]] at this
   exact this
theorem OpHolds.ofClip {s2 : Slots} {x : Operand} {e : TypeId} {size m : Nat} {xs : List AV} {v : AV} (hx : aeval s x = .clip xs) (hx2 : aeval s2 x = .slice (some id) xs) (hxo : x ∈ o.op.operands) (hne : ∀ y ∈ o.op.operands, y ≠ x → aeval s2 y = aeval s y) (hsx : xs.all (fun x => x.sz == size) = true)
  (h : ∀ id', OpHolds P o s2 id' [(id, .row e size xs.length)] v [(id, .row e size m)]) : OpHolds P o s id [] v [(id, .row e size m)] := by
 refine ⟨fun p hp => (by cases hp), fun q hq => .inl (by simp at hq; subst hq; rfl), fun W0 g σ n w a hS hr hf hn _ => ?_⟩
 have h1 := hr x hxo
 rw [hx] at h1
 generalize hv : a.eval x = u at h1
 cases h1 with
 | clip _ A k hcl =>
  obtain ⟨g1, hle1, hS1, hrow1, hrep1⟩ := hS.ofClip (k := id) (e := e) (size := size) hf hn hcl hsx
  refine ((h n).2.2 W0 g1 _ (n + 1) w a (hS1.more (Nat.le_succ n)) (fun y hy => ?_) (by rw [upd_ne _ _ _ _ (by omega)]; exact hS.bound n (Nat.le_refl _)) (Nat.lt_succ_self n) (fun p hp => by simp at hp; subst hp; exact upd_same _ _ _)).mono ?_
  ·by_cases hyx : y = x
   ·subst hyx; rw [hx2, hv]; exact hrep1
   ·rw [hne y hy hyx]; exact (hr y hy).mono hle1
  ·rintro u w' ⟨g', hle, hS', hrep⟩
   refine ⟨g', hle1.trans hle, ?_, hrep⟩
   have e1 : wr (upd σ id (.row e size xs.length)) [(id, .row e size m)] = wr σ [(id, .row e size m)] := by
    simp only [wr_cons, wr_nil, upd_upd]
   rw [e1] at hS'
   refine ⟨hS'.below, hS'.imm, fun i hi => ?_, hS'.ents, hS'.sep, hS'.fresh⟩
   by_cases hin : i = n
   ·subst hin
    simp only [wr_cons, wr_nil]
    rw [upd_ne _ _ _ _ (by omega)]
    exact hS.bound i (Nat.le_refl _)
   ·exact hS'.bound i (by omega)
theorem holds_appendz_clip {t tn e : TypeId} {size bytes tx : Nat} {z : AV} {y : Operand} {xs : List AV} {k kn : IntKind} {m : Int} (ho : o.op = .call { callee := .builtin .append, args := #[.tmp tx, y], argTypes := #[t, tn] }) (ht : sliceTy P t = some e) (htn : intTy P tn = some kn) (hs : sizeIs P e size = true) (hb : bytesIs P e bytes = true)
  (hz : ztree P e = some z) (hzs : z.sz = size) (hzc : z.cell = true) (hpos : 0 < size) (hx : s tx = .clip xs) (hyx : y ≠ .tmp tx) (hy : aeval s y = .lit (.int k m)) (h0 : 0 ≤ m)
  (hsx : xs.all (fun x => x.sz == size) = true) (hbytes : (xs.length + m.toNat) * bytes ≤ 140737488355328) (hmx : xs.length + m.toNat ≤ 140737488355328) :
  OpHolds P o s id [] (.slice (some id) (xs ++ List.replicate m.toNat z)) [(id, .row e size (xs.length + m.toNat))] := by
 have hy2 : aeval (upd s tx (.slice (some id) xs)) y = aeval s y := aeval_sput (d := some tx) (fun e he => by cases he; exact hyx)
 refine OpHolds.ofClip (s2 := upd s tx (.slice (some id) xs)) (x := .tmp tx) hx (upd_same _ _ _) (by simp [ho, Op.operands, Call.operands]) (fun y' hy' hne => aeval_sput (d := some tx) (fun e he => by cases he; exact hne)) hsx fun id' => ?_
 exact holds_append_zeros ho ht htn hs hb hz hzs hzc hpos (upd_same _ _ _) (by rw [hy2]; exact hy) h0 hsx hbytes hmx
end
section
variable {P : Program} {ops : Array Oper} {m i : Nat} {r : List Oper} {T : Trace} {k : Cfg → Trace → Prop} {s : Slots} {σ : Nat → Ent} {n : Nat} {ty : TypeId} {pos : String} {after : Array Edge}
theorem go_sliceWhole {t : Tmp} {t' e : TypeId} {x : Operand} {id off len size : Nat} {path : List Nat} {bt : TypeId} {c : AV} {ys : List AV} (hx : aeval s x = .ptr id path off) (hσ : σ id = .box bt c) (ht : ptrArr P t' = some (len, e, size))
  (hy : c.get path = some (.agg ys)) (hoff : c.offs path = off) (hn : ys.length = len) (hsz : ys.all (fun y => y.sz == size) = true) (h4 : len ≤ maxLen)
  (h : aops P ops m r (i + 1) ((i, [(id, .box bt c)], [(id, .fbox bt c)]) :: T) k ⟨upd s t (.clip ys), upd σ id (.fbox bt c), n⟩) : aops P ops m (⟨some t, .slice t' x none none none, ty, pos, after, none⟩ :: r) i T k ⟨s, σ, n⟩ := by
 rw [aops_cons, wantedG_none, aguard_true]
 exact ⟨⟨[(id, .box bt c)], .clip ys, [(id, .fbox bt c)]⟩, ⟨holds_slice_whole rfl ht hx hy hoff hn hsz h4, fun p hp => by simp at hp; subst hp; exact hσ⟩, h⟩
theorem go_appendzC {t : Tmp} {t' tn e : TypeId} {size bytes tx : Nat} {z : AV} {y : Operand} {xs : List AV} {kk kn : IntKind} {q : Int} (hx : s tx = .clip xs) (hi : sliceInfo P t' = some (e, size, bytes, z)) (htn : intTy P tn = some kn) (hzc : z.cell = true) (hyx : y ≠ .tmp tx) (hy : aeval s y = .lit (.int kk q)) (h0 : 0 ≤ q)
  (hsx : xs.all (fun x => x.sz == size) = true) (hbytes : (xs.length + q.toNat) * bytes ≤ 140737488355328) (hmx : xs.length + q.toNat ≤ 140737488355328)
  (h : aops P ops m r (i + 1) ((i, [], [(m + i, .row e size (xs.length + q.toNat))]) :: T) k ⟨upd s t (.slice (some (m + i)) (xs ++ List.replicate q.toNat z)), upd σ (m + i) (.row e size (xs.length + q.toNat)), n⟩) :
  aops P ops m (⟨some t, .call { callee := .builtin .append, args := #[.tmp tx, y], argTypes := #[t', tn] }, ty, pos, after, none⟩ :: r) i T k ⟨s, σ, n⟩ := by
 obtain ⟨k1, k2, k3, k4, k5, k6⟩ := sliceInfo_sound hi
 rw [aops_cons, wantedG_none, aguard_true]
 exact ⟨⟨[], .slice (some (m + i)) (xs ++ List.replicate q.toNat z), [(m + i, .row e size (xs.length + q.toNat))]⟩, ⟨holds_appendz_clip rfl k1 htn k2 k3 k4 k5 hzc k6 hx hyx hy h0 hsx hbytes hmx, fun p hp => by cases hp⟩, h⟩
end
end Go.Ab

namespace Go.Proofs.YtemmlldpmgfblaaGreatDoor
open Go.Ab
attribute [local irreducible] Go.Ab.tyAV Go.Ab.aw Go.Ab.aops Go.Ab.kReg Go.Ab.aThen Go.Ab.aBlk Go.Ab.acond Go.Ab.aguard Go.Ab.astep Go.Ab.AStepX Go.Ab.aRet
attribute [local irreducible] shaG
theorem Word_spec (s b : List UInt8) (hs : s.length ≤ 100000) (hb : b.length ≤ 1000000) (k : Nat) :
  ACall Tryz.prog 146 [.lit (.string ⟨s.toArray⟩), .slice none (b.map byteAV)] k [] (.slice none ((s ++ b).map byteAV)) [] := by
 refine Bd Tryz.func146 Tryz.ntmps146 fun σ N hp hpn hk hkn hfree => ?_
 exact WM
section
variable {P E : List UInt8}
def mixN (P E : List UInt8) (i : Nat) : List UInt8 := P.take i ++ E.drop i
theorem mixN_len (h : P.length = E.length) (i : Nat) (hi : i ≤ E.length) : (mixN P E i).length = E.length := by
 unfold mixN; rw [List.length_append, List.length_take, List.length_drop]; omega
theorem mixN_0 : mixN P E 0 = E := by simp [mixN]
theorem mixN_all (h : P.length = E.length) : mixN P E E.length = P := by
 unfold mixN; rw [List.take_of_length_le (by omega), List.drop_of_length_le (by omega), List.append_nil]
theorem mixN_at (h : P.length = E.length) (i : Nat) (hi : i < E.length) : (mixN P E i)[i]? = E[i]? := by
 unfold mixN
 have hl : (P.take i).length = i := by rw [List.length_take]; omega
 rw [List.getElem?_append_right (by omega), hl, Nat.sub_self, List.getElem?_drop, Nat.add_zero]
theorem mixN_set (h : P.length = E.length) (i : Nat) (hi : i < P.length) : (mixN P E i).set i P[i] = mixN P E (i + 1) := by
 unfold mixN
 have hl : (P.take i).length = i := by rw [List.length_take]; omega
 rw [List.set_append_right _ _ (by omega), hl, Nat.sub_self, List.drop_eq_getElem_cons (by omega : i < E.length), List.set_cons_zero, List.take_succ_eq_append_getElem hi, List.append_assoc]
 rfl
end
section
variable [W : W32]
def kst (key : List UInt8) (nonce : Int) (q : Nat) : Tg := hmacT key ([115, 116, 114, 101, 97, 109] ++ (eightB nonce ++ eightB q))
def strmB (key : List UInt8) (nonce : Int) (b : List UInt8) : List UInt8 := (List.range b.length).map fun i => x8 (b.getD i 0) ((kst key nonce (i / 32)).1.getD (i % 32) 0)
theorem strmB_len (key : List UInt8) (nonce : Int) (b : List UInt8) : (strmB key nonce b).length = b.length := by simp [strmB]
theorem strmB_at (key : List UInt8) (nonce : Int) (b : List UInt8) (i : Nat) (hi : i < b.length) (h : i < (strmB key nonce b).length) (h2 : i % 32 < (kst key nonce (i / 32)).1.length) : (strmB key nonce b)[i] = x8 b[i] ((kst key nonce (i / 32)).1[i % 32]) := by
 have h3 : i % 32 < (kst key nonce (i / 32)).1.length := h2
 simp only [strmB, List.getElem_map, List.getElem_range, List.getD_eq_getElem?_getD, List.getElem?_eq_getElem hi, List.getElem?_eq_getElem h3, Option.getD_some]
set_option maxHeartbeats 2000000 in
theorem stream_spec (key : Tg) (nonce : Nat) (hn : nonce < 18446744073709551616) (b : List UInt8) (hb : b.length ≤ 100000) (k : Nat) :
  ACall Tryz.prog 145 [tagAV key, .lit (.int .u64 nonce), .slice none (b.map byteAV)] k [] (.slice none ((strmB key.1 nonce b).map byteAV)) [] := by
 have c1 := Eight_row (nonce : Int) (by omega) (by omega)
 have hP := strmB_len key.1 nonce b
 obtain ⟨E1, hE1⟩ : ∃ e, eightB (nonce : Int) = e := ⟨_, rfl⟩
 have hE1l : E1.length = 8 := by rw [← hE1]; rfl
 rw [hE1] at c1
 obtain ⟨ky, hky⟩ : ∃ ky, key = ky := ⟨_, rfl⟩
 have hs1 := tagAV_sz key
 have hs2 := tagAV_cell key
 have hat := strmB_at key.1 nonce b
 generalize hPP : strmB key.1 nonce b = P at *
 have hAt : ∀ i (hi : i < b.length), P[i]'(by omega) = x8 b[i] ((kst key.1 nonce (i / 32)).1[i % 32]'(by rw [(kst key.1 nonce (i / 32)).2]; omega)) := fun i hi => hat i hi _ _
 clear hat hPP hky
 obtain ⟨K, hK⟩ := key
 have hkA : tagAV ⟨K, hK⟩ = .agg (K.map byteAV) := rfl
 simp only [hkA] at hs1 hs2 hAt ⊢
 clear hkA
 have hs3 : AV.celll (K.map byteAV) = true := celll_bytes K
 have htk : (K.map byteAV).take 32 = K.map byteAV := List.take_of_length_le (by rw [List.length_map]; omega)
 have hm0 := @mixN_0 P b
 refine Bd Tryz.func145 Tryz.ntmps145 fun σ N hp hpn hk hkn hfree => ?_
 have M : Mut (N + 2) := ⟨⟩
 refine Wk ?_
 refine go_fixBox N (bt := 26) (x := .agg (K.map byteAV)) (by simp (disch := omega) [go_sem, *, -List.reduceReplicate]) ?_
 refine go_loopF mixed (by kernel_rfl) [8, 9, 13, 14, 15, 16, 17, 18, 19, 20, 21, 22, 23, 24, 25, 26, 27, 28, 29, 30, 31, 32, 33, 34, 35, 36, 37, 38, 39, 40] [N, N+2] (fun m_ s_ σ_ n_ => ∃ (i : Nat) (cur : List UInt8), m_ = b.length - i ∧ s_ 8 = .lit (.int .i64 i) ∧ s_ 7 = .ms (N + 2) 1 1 0 b.length ∧ σ_ (N) = .fbox 26 (.agg (K.map byteAV)) ∧ σ_ (N+2) = .mrow 1 5 1 (cur.map byteAV) ∧ (i ≤ b.length) ∧ (mixN P b i = cur)) ⟨_, 0, b, rfl, WF, WF, WF, WF, WC, WC⟩ ?_
 intro m_1 s_1 σ_1 n_1 hs_1 hf_1 hn_1 hI_1
 obtain ⟨i, cur, hm_1, h1_8, h1_7, e1_0, e1_1, hi, hc⟩ := hI_1
 have h1_1 := KS hs_1 1
 have h1_3 := KS hs_1 3
 have h1_6 := KS hs_1 6
 have h1_7 := KS hs_1 7
 have hlow := KL (N := N) (σ := σ) hf_1
 clear hm0
 have hcl := mixN_len hP i hi
 rw [hc] at hcl
 by_cases hil : i = b.length
 ·subst hil
  rw [mixN_all hP] at hc
  subst hc
  clear M hAt
  refine Wm ?_
  iterate 1 refine Wz ?_
  refine go_freeze 7 (id := N + 2) (ver := 1) (size := 1) (e := 5) (xs := P.map byteAV) (k := b.length) (by simp (disch := omega) [go_sem, *, -List.reduceReplicate]) (by simp (disch := omega) [go_sem, *, -List.reduceReplicate]) (by simp (disch := omega) [go_sem, *, -List.reduceReplicate]) ?_
  exact WM
 ·have hi2 : i < b.length := by omega
  have hi2i : (i : Int) < (b.length : Int) := by omega
  have ha0 := mixN_at hP i hi2
  have hs := mixN_set hP i (by omega)
  have hA := hAt i hi2
  rw [hc] at ha0 hs
  have hic : i < cur.length := by omega
  rw [List.getElem?_eq_getElem hic, List.getElem?_eq_getElem hi2] at ha0
  injection ha0 with ha
  have c2 := Eight_spec ((i / 32 : Nat) : Int) (by omega) (by omega)
  have hkt : kst K nonce (i / 32) = hmacT K ([115, 116, 114, 101, 97, 109] ++ (eightB nonce ++ eightB ((i / 32 : Nat) : Int))) := rfl
  have hE2l := eightB_len ((i / 32 : Nat) : Int)
  rw [hE1] at hkt
  generalize eightB ((i / 32 : Nat) : Int) = E2 at *
  have c3 := Word_spec [115, 116, 114, 101, 97, 109] (E1 ++ E2) (by decide) (by simp; omega)
  have c4 := Hmac_spec K ([115, 116, 114, 101, 97, 109] ++ (E1 ++ E2)) (by omega) (by simp; omega)
  rw [← hkt] at c4
  generalize kst K nonce (i / 32) = T at *
  generalize [115, 116, 114, 101, 97, 109] ++ (E1 ++ E2) = Wd at *
  have hq : (i : Int).tdiv 32 = ((i / 32 : Nat) : Int) := by rw [Int.tdiv_eq_ediv_of_nonneg (by omega)]; omega
  have hr : (i : Int).tmod 32 = ((i % 32 : Nat) : Int) := by rw [Int.tmod_eq_emod_of_nonneg (by omega)]; omega
  have hr32 : i % 32 < 32 := Nat.mod_lt _ (by decide)
  have hq32 : i / 32 ≤ 100000 := by omega
  clear hkt
  obtain ⟨y, hy⟩ : ∃ y, T.1[i % 32]'(by rw [T.2]; exact hr32) = y := ⟨_, rfl⟩
  obtain ⟨z, hz⟩ : ∃ z, b[i] = z := ⟨_, rfl⟩
  rw [hy, hz] at hA
  rw [hz] at ha
  have hx := x8_eq z y
  have hset := set_bytes cur i (x8 z y)
  rw [← hA, hs, hA] at hset
  generalize x8 z y = v at *
  have hyb : byteAV y = .lit (.int .u8 y.toNat) := rfl
  have hzb : byteAV z = .lit (.int .u8 z.toNat) := rfl
  have hvb : byteAV v = .lit (.int .u8 v.toNat) := rfl
  rw [hvb] at hset
  generalize hc' : mixN P b (i + 1) = cn at *
  generalize i / 32 = iq at *
  generalize hir : i % 32 = ir at *
  have hcs := And.intro c1 (And.intro c2 (And.intro c3 (And.intro c4 True.intro)))
  clear c1 c2 c3 c4 hs hc M hAt hz hA hir
  refine Wk ?_
  exact ⟨WS, WG, WN, _, (show b.length - (i + 1) < m_1 by omega), i + 1, cn, rfl, WF, WF, WF, WF, WC, WC⟩
end

def boxL (key : Tg) (nonce : Int) (plain : List UInt8) : List BoxE → Option (List UInt8)
 | [] => none
 | e :: r => if e.key = key ∧ e.nonce = nonce ∧ e.plain = plain then some e.box else boxL key nonce plain r
def skAV (r : Alg × List UInt8 × Nat) : AV := .tup [algAV r.1, .slice none (r.2.1.map byteAV), .lit (.int .i64 (r.2.2 : Nat))]
theorem snocB {K plain box : List UInt8} {nonce : Int} (L : List BoxE) (hK : K.length = 32) (a b c : Option Nat) : AV.le (.slice a (L.map sealAV ++ [.agg [.agg (K.map byteAV), .lit (.int .i64 nonce), .slice b (plain.map byteAV), .slice c (box.map byteAV)]])) (.slice none ((L ++ [(⟨⟨K, hK⟩, nonce, plain, box⟩ : BoxE)]).map sealAV)) := fun g v h => by
 rw [List.map_append]
 exact AV.le_own _ _ g v (AV.le_sliceS a (ALe.snoc (AV.sub_agg (.cons (AV.le_refl _) (.cons (AV.le_refl _) (.cons (AV.le_own b _) (.cons (AV.le_own c _) .nil)))))) g v h)
section
variable [W : W32]
def sealB (key : List UInt8) (nonce : Int) (plain : List UInt8) : List UInt8 :=
 (eightB nonce ++ strmB key nonce plain) ++ (hmacT key ([98, 111, 120] ++ (eightB nonce ++ strmB key nonce plain))).1
def sealN (a : Alg) (key : Tg) (nonce : Int) (plain : List UInt8) : List UInt8 :=
 if a.free then (symT 98 (a.boxes.length + 1)).1 ++ List.replicate (plain.length + 8) 0 else sealB key.1 nonce plain
def sealS (a : Alg) (key : Tg) (nonce : Int) (plain : List UInt8) : Alg × List UInt8 × Nat :=
 if nonce < 0 ∨ 281474976710656 < nonce then (alg0, [], 1) else if 256 < plain.length then (alg0, [], 2) else match boxL key nonce plain a.boxes with
  | some b => (a, b, 0)
  | none => if 65536 ≤ a.boxes.length then (alg0, [], 2) else ({ a with boxes := a.boxes ++ [⟨key, nonce, plain, sealN a key nonce plain⟩] }, sealN a key nonce plain, 0)
theorem Seal_bad (a : Alg) (key : Tg) (nonce : Int) (plain : List UInt8) (h : (nonce < 0 ∨ 281474976710656 < nonce) ∨ 256 < plain.length) (k : Nat) :
  ACall Tryz.prog 72 [algAV a, tagAV key, .lit (.int .i64 nonce), .slice none (plain.map byteAV)] k [] (skAV (sealS a key nonce plain)) [] := by
 unfold sealS
 by_cases h1 : nonce < 0 ∨ 281474976710656 < nonce
 ·rw [if_pos h1]
  unfold skAV
  simp only [alg0_eq, List.map_nil]
  rcases h1 with h1 | h1
  ·refine Bd Tryz.func72 Tryz.ntmps72 fun σ N hp hpn hk hkn hfree => ?_
   exact WT
  ·have h2 : ¬ nonce < 0 := by omega
   refine Bd Tryz.func72 Tryz.ntmps72 fun σ N hp hpn hk hkn hfree => ?_
   exact WT
 ·rw [if_neg h1]
  have h3 : 256 < plain.length := h.resolve_left h1
  rw [if_pos h3]
  have h2 : ¬ nonce < 0 := by omega
  have h4 : ¬ 281474976710656 < nonce := by omega
  have h5 : (256 : Int) < plain.length := by omega
  unfold skAV
  simp only [alg0_eq, List.map_nil]
  clear h h1
  refine Bd Tryz.func72 Tryz.ntmps72 fun σ N hp hpn hk hkn hfree => ?_
  exact WT
set_option maxHeartbeats 4000000 in
theorem Seal_ok (a : Alg) (key : Tg) (nn : Nat) (plain : List UInt8) (hn : nn ≤ 281474976710656) (hp : plain.length ≤ 256) (hl : a.boxes.length ≤ 1000000) (hm : ∀ e ∈ a.boxes, e.plain.length ≤ 100000 ∧ e.box.length ≤ 100000) (k : Nat) :
  ACall Tryz.prog 72 [algAV a, tagAV key, .lit (.int .i64 nn), .slice none (plain.map byteAV)] k [] (skAV (sealS a key nn plain)) [] := by
 unfold sealS
 rw [if_neg (by omega), if_neg (by omega)]
 obtain ⟨fr, sd, fs, L, B⟩ := a
 simp only at hl hm ⊢
 have g1 : ¬ (nn : Int) < 0 := by omega
 have g2 : ¬ (281474976710656 : Int) < (nn : Int) := by omega
 have g3 : ¬ (256 : Int) < (plain.length : Int) := by omega
 generalize hR : boxL key nn plain B = R
 refine Bd Tryz.func72 Tryz.ntmps72 fun σ N hp hpn hk hkn hfree => ?_
 refine Wk ?_
 refine go_loopF mixed (by kernel_rfl) [9, 10, 11, 12, 27, 28, 29, 30, 31, 32, 33, 34, 35, 36, 37, 38, 39, 40, 41, 42, 43, 44, 45, 46, 47, 48, 49, 50, 51, 52, 53, 54, 55, 56, 57, 58, 59] [N, N+1, N+2] (fun m_ s_ σ_ n_ => ∃ (u : Nat), m_ = B.length - u ∧ s_ 11 = .lit (.int .i64 u) ∧ σ_ (N) = .box 36 (algAV ⟨fr, sd, fs, L, B⟩) ∧ σ_ (N+1) = .box 26 (tagAV key) ∧ σ_ (N+2) = .box 36 (.agg [.lit (.bool false), tagAV zeroTag, .lit (.int .i64 0), .nils, .nils]) ∧ (u ≤ B.length) ∧ (boxL key nn plain (B.drop u) = R)) ⟨_, 0, rfl, WF, WF, WF, WF, WC, WC⟩ ?_
 intro m_1 s_1 σ_1 n_1 hs_1 hf_1 hn_1 hI_1
 obtain ⟨u, hm_1, h1_11, e1_0, e1_1, e1_2, hu, hd⟩ := hI_1
 have h1_2 := KS hs_1 2
 have h1_3 := KS hs_1 3
 have h1_4 := KS hs_1 4
 have h1_5 := KS hs_1 5
 have h1_8 := KS hs_1 8
 have hlow := KL (N := N) (σ := σ) hf_1
 have haA : algAV ⟨fr, sd, fs, L, B⟩ = .agg [.lit (.bool fr), tagAV sd, .lit (.int .i64 fs), .slice none (L.map macAV), .slice none (B.map sealAV)] := rfl
 rw [haA] at e1_0
 by_cases hul : u = B.length
 ·subst hul
  rw [List.drop_length] at hd
  simp only [boxL] at hd
  subst hd
  clear hR hm
  by_cases hf : 65536 ≤ B.length
  ·have hfi : (65536 : Int) ≤ (B.length : Int) := by omega
   simp only [if_pos hf]
   unfold skAV
   simp only [alg0_eq, List.map_nil]
   exact WT
  ·have hfi : ¬ (65536 : Int) ≤ (B.length : Int) := by omega
   simp only [if_neg hf]
   have hb : (B.length + 1) * 88 ≤ 140737488355328 := by omega
   have hb0 : B.length * 88 ≤ 140737488355328 := by omega
   have hb1 : B.length ≤ 140737488355327 := by omega
   have hs1 := tagAV_sz key
   have hs2 := tagAV_cell key
   unfold skAV sealN
   cases fr with
   | false =>
    simp only [Bool.false_eq_true, if_false]
    have c1 := Eight_row (nn : Int) (by omega) (by omega)
    have c2 := stream_spec key nn (by omega) plain (by omega)
    have hE := eightB_len (nn : Int)
    have hS := strmB_len key.1 (nn : Int) plain
    unfold sealB
    obtain ⟨K, hK⟩ := key
    simp only at c2 hS ⊢
    generalize eightB (nn : Int) = E at *
    generalize strmB K (nn : Int) plain = S at *
    obtain ⟨b0, hb0'⟩ : ∃ b0, E ++ S = b0 := ⟨_, rfl⟩
    have hbm : E.map byteAV ++ S.map byteAV = b0.map byteAV := by rw [← hb0', List.map_append]
    have hbl : b0.length = 8 + plain.length := by rw [← hb0', List.length_append]; omega
    rw [hb0']
    have c3 := Word_spec [98, 111, 120] b0 (by decide) (by omega)
    have c4 := Hmac_spec K ([98, 111, 120] ++ b0) (by omega) (by simp; omega)
    generalize hmacT K ([98, 111, 120] ++ b0) = T at *
    generalize [98, 111, 120] ++ b0 = Wd at *
    have ht1 := tagAV_sz T
    have ht2 := tagAV_cell T
    obtain ⟨T, hT⟩ := T
    have hkA : tagAV ⟨K, hK⟩ = .agg (K.map byteAV) := rfl
    have htA : tagAV ⟨T, hT⟩ = .agg (T.map byteAV) := rfl
    rw [htA] at c4 ht1 ht2
    rw [hkA] at c2 hs1 hs2 e1_1
    clear hkA htA
    have hs3 : AV.celll (K.map byteAV) = true := celll_bytes K
    have htk : (K.map byteAV).take 32 = K.map byteAV := List.take_of_length_le (by rw [List.length_map]; omega)
    have htk2 : (T.map byteAV).take 32 = T.map byteAV := List.take_of_length_le (by rw [List.length_map]; omega)
    obtain ⟨bb, hbb⟩ : ∃ bb, b0 ++ T = bb := ⟨_, rfl⟩
    have hbbm : b0.map byteAV ++ T.map byteAV = bb.map byteAV := by rw [← hbb, List.map_append]
    have hbbl : b0.length + T.length = bb.length := by rw [← hbb, List.length_append]
    have hbb2 : bb.length ≤ 1000 := by omega
    rw [hbb]
    have hcs := And.intro c1 (And.intro c2 (And.intro c3 (And.intro c4 True.intro)))
    clear c1 c2 c3 c4 hbb hb0'
    refine Wm ?_
    iterate 8 refine Wz ?_
    refine go_lessIn N [4] (.slice none ((B ++ [(⟨⟨K, hK⟩, nn, plain, bb⟩ : BoxE)]).map sealAV)) (bt := 36) (c := .agg [.lit (.bool false), tagAV sd, .lit (.int .i64 fs), .slice none (L.map macAV), .slice (some (n_1 + 32)) (B.map sealAV ++ [.agg [.agg (K.map byteAV), .lit (.int .i64 nn), .slice (some (n_1 + 32 + 6)) (plain.map byteAV), .slice (some (n_1 + 12 + 2)) (bb.map byteAV)]])]) (by simp (disch := omega) [go_sem, *, -List.reduceReplicate]) rfl (snocB B hK _ _ _) rfl rfl ?_
    simp only [algAV]
    exact WT
   | true =>
    simp only [if_true]
    have c1 := Symbol_spec 98 (B.length + 1) (by omega)
    have e98 : ((98 : UInt8).toNat : Int) = 98 := rfl
    have hn1 : ((B.length + 1 : Nat) : Int) = (B.length : Int) + 1 := by omega
    rw [e98, hn1] at c1
    clear e98 hn1
    generalize symT 98 ((B.length : Int) + 1) = T at *
    have ht1 := tagAV_sz T
    have ht2 := tagAV_cell T
    obtain ⟨T, hT⟩ := T
    obtain ⟨K, hK⟩ := key
    have hkA : tagAV ⟨K, hK⟩ = .agg (K.map byteAV) := rfl
    have htA : tagAV ⟨T, hT⟩ = .agg (T.map byteAV) := rfl
    rw [htA] at c1 ht1 ht2
    rw [hkA] at hs1 hs2 e1_1
    clear hkA htA
    simp only
    have hs3 : AV.celll (K.map byteAV) = true := celll_bytes K
    obtain ⟨bb, hbb⟩ : ∃ bb, T ++ List.replicate (plain.length + 8) 0 = bb := ⟨_, rfl⟩
    have hbbm : T.map byteAV ++ List.replicate ((plain.length : Int) + 8).toNat (AV.lit (.int .u8 0)) = bb.map byteAV := by
     rw [← hbb, List.map_append, List.map_replicate, show ((plain.length : Int) + 8).toNat = plain.length + 8 by omega]; rfl
    have hbb2 : bb.length ≤ 1000 := by rw [← hbb, List.length_append, List.length_replicate]; omega
    have hbbl : 32 + ((plain.length : Int) + 8).toNat = bb.length := by rw [← hbb, List.length_append, List.length_replicate, hT]; omega
    rw [hbb]
    have hcs := And.intro c1 True.intro
    clear c1 hbb
    refine Wm ?_
    iterate 5 refine Wz ?_
    (apply go_region; (· (simp only [List.length_cons, List.length_nil, Nat.reduceAdd, Nat.add_assoc]; rfl)))
    refine go_sliceWhole (id := n_1 + 12 + 5) (path := []) (off := 0) (bt := 26) (c := .agg (T.map byteAV)) (ys := T.map byteAV) (by simp (disch := omega) [go_sem, *, -List.reduceReplicate]) (by simp (disch := omega) [go_sem, *, -List.reduceReplicate]) pa26 rfl rfl (by rw [List.length_map]; exact hT) (bytes_all1 T) (by unfold maxLen; omega) ?_
    refine Wm ?_
    refine go_appendzC (xs := T.map byteAV) (q := (plain.length : Int) + 8) (by simp (disch := omega) [go_sem, *, -List.reduceReplicate]) si57 it3 rfl (by simp) (by simp (disch := omega) [go_sem, *, -List.reduceReplicate]; try rfl) (by omega) (bytes_all1 T) (by rw [List.length_map, hT, hbbl]; omega) (by rw [List.length_map, hT, hbbl]; omega) ?_
    rw [hbbm, List.length_map, hT, hbbl]
    refine Wm ?_
    iterate 1 refine Wz ?_
    refine go_lessIn N [4] (.slice none ((B ++ [(⟨⟨K, hK⟩, nn, plain, bb⟩ : BoxE)]).map sealAV)) (bt := 36) (c := .agg [.lit (.bool true), tagAV sd, .lit (.int .i64 fs), .slice none (L.map macAV), .slice (some (n_1 + 25)) (B.map sealAV ++ [.agg [.agg (K.map byteAV), .lit (.int .i64 nn), .slice (some (n_1 + 25 + 6)) (plain.map byteAV), .slice (some (n_1 + 19 + 4)) (bb.map byteAV)]])]) (by simp (disch := omega) [go_sem, *, -List.reduceReplicate]) rfl (snocB B hK _ _ _) rfl rfl ?_
    simp only [algAV]
    exact WT
 ·have hu1 : u < B.length := by omega
  rw [List.drop_eq_getElem_cons hu1, boxL] at hd
  have hmz := hm _ (List.getElem_mem hu1)
  obtain ⟨z, hz⟩ : ∃ z, B[u] = z := ⟨_, rfl⟩
  rw [hz] at hd hmz
  obtain ⟨zk, zn, zp, zb⟩ := z
  simp only at hd hmz
  have hzd : sealAV ⟨zk, zn, zp, zb⟩ = .agg [tagAV zk, .lit (.int .i64 zn), bAV zp, bAV zb] := rfl
  have hzb := bAV_def zp
  have hzb2 := bAV_def zb
  obtain ⟨hmz1, hmz2⟩ := hmz
  have c1 := Same_spec zp plain (by omega)
  clear hR hm
  by_cases h1 : zk = key
  ·by_cases h2 : zn = nn
   ·by_cases h3 : zp = plain
    ·rw [if_pos ⟨h1, h2, h3⟩] at hd
     subst hd
     rw [decide_eq_true h3] at c1
     have hcs := And.intro c1 True.intro
     clear c1
     subst h1
     subst h2
     subst h3
     unfold skAV
     simp only [haA]
     exact WT
    ·rw [if_neg (fun h => h3 h.2.2)] at hd
     rw [decide_eq_false h3] at c1
     have hcs := And.intro c1 True.intro
     clear c1
     subst h1
     subst h2
     refine Wk ?_
     exact ⟨WS, WG, WN, _, (show B.length - (u + 1) < m_1 by omega), u + 1, rfl, WF, WF, WF, WF, WC, WC⟩
   ·rw [if_neg (fun h => h2 h.2.1)] at hd
    have h2' : (zn == (nn : Int)) = false := by rw [beq_eq_false_iff_ne]; exact h2
    clear c1
    subst h1
    refine Wk ?_
    exact ⟨WS, WG, WN, _, (show B.length - (u + 1) < m_1 by omega), u + 1, rfl, WF, WF, WF, WF, WC, WC⟩
  ·rw [if_neg (fun h => h1 h.1)] at hd
   have d1 : decide (zk = key) = false := decide_eq_false h1
   clear c1
   refine Wk ?_
   exact ⟨WS, WG, WN, _, (show B.length - (u + 1) < m_1 by omega), u + 1, rfl, WF, WF, WF, WF, WC, WC⟩
end
end Go.Proofs.YtemmlldpmgfblaaGreatDoor

namespace Go.Proofs.YtemmlldpmgfblaaGreatDoor
open Go.Ab
attribute [local irreducible] Go.Ab.tyAV Go.Ab.aw Go.Ab.aops Go.Ab.kReg Go.Ab.aThen Go.Ab.aBlk Go.Ab.acond Go.Ab.aguard Go.Ab.astep Go.Ab.AStepX Go.Ab.aRet
def tagSt (l : List Int) (i : Nat) : Nat → Tg × Nat
 | 0 => (zeroTag, i)
 | u + 1 => (setT (tagSt l i u).1 (u * 9) (UInt8.ofNat (nextD l (tagSt l i u).2 256).1), (nextD l (tagSt l i u).2 256).2)
theorem tagSt_dk {l : List Int} {i : Nat} (h : Dk l i) : ∀ u, Dk l (tagSt l i u).2
 | 0 => h
 | u + 1 => nextD_dk 256 (tagSt_dk h u)
def tagD (l : List Int) (i : Nat) : Tg × Nat := tagSt l i 4
theorem tagD_dk {l : List Int} {i : Nat} (h : Dk l i) : Dk l (tagD l i).2 := tagSt_dk h 4
theorem Tag_spec (l : List Int) (i : Nat) (h : Dk l i) (d k : Nat) :
  ACall Tryz.prog 28 [.ptr d [] 0] k [(d, deckBox l i)] (tagAV (tagD l i).1) [(d, deckBox l (tagD l i).2)] := by
 refine Bd Tryz.func28 Tryz.ntmps28 fun σ N hp hpn hk hkn hfree => ?_
 have hd := hp _ (List.mem_singleton.2 rfl)
 have hdn := hpn _ (List.mem_singleton.2 rfl)
 simp only at hd hdn
 clear hp hpn
 refine Wg ?_
 refine go_loop (aloop mixed (by kernel_rfl) (fun c => ∃ (u : Nat), c.s 0 = .ptr d [] 0 ∧ c.s 4 = .lit (.int .i64 u) ∧ u ≤ 4 ∧ c.s 2 = .ptr N [] 0 ∧ c.σ N = .box 26 (tagAV zeroTag) ∧ c.s 3 = .ptr (N + 1) [] 0 ∧ c.σ (N + 1) = .box 26 (tagAV (tagSt l i u).1) ∧ c.σ d = deckBox l (tagSt l i u).2 ∧ N + 1 < c.n ∧ (∀ id, id < N → id ≠ d → c.σ id = σ id))
  (fun c => match c.s 4 with | .lit (.int _ m) => 4 - m.toNat | _ => 0) ⟨0, by simp (disch := omega) [go_sem, *, -List.reduceReplicate], by simp (disch := omega) [go_sem, *, -List.reduceReplicate], by omega, by simp (disch := omega) [go_sem, *, -List.reduceReplicate], by simp (disch := omega) [go_sem, *, -List.reduceReplicate], by simp (disch := omega) [go_sem, *, -List.reduceReplicate], by simp (disch := omega) [go_sem, *, -List.reduceReplicate]; rfl, by simp (disch := omega) [go_sem, *, -List.reduceReplicate]; rfl, by simp only; omega, (fun id hid hdd => by simp (disch := omega) only [upd_ne])⟩ ?_)
 rintro ⟨s, σ', n'⟩ ⟨u, h0, h4, hu, h2, hN, h3, hN1, hdk, hn', hlow⟩
 simp only at h0 h4 h2 hN h3 hN1 hdk hn' hlow
 by_cases hu4 : u = 4
 ·subst hu4
  unfold tagD
  generalize tagSt l i 4 = X at hN1 hdk ⊢
  obtain ⟨T, j⟩ := X
  simp only at hN1 hdk ⊢
  refine Wg ?_
  refine go_condF (by simp (disch := omega) [go_sem, *, -List.reduceReplicate]; try first | rfl | omega) ?_
  refine Wg ?_
  exact RW (d) (deckBox l j)
 ·have hj := tagSt_dk h u
  have hs1 : (tagSt l i (u + 1)).1 = setT (tagSt l i u).1 (u * 9) (UInt8.ofNat (nextD l (tagSt l i u).2 256).1) := rfl
  have hs2 : (tagSt l i (u + 1)).2 = (nextD l (tagSt l i u).2 256).2 := rfl
  generalize tagSt l i u = X at hj hs1 hs2 hN1 hdk
  obtain ⟨T, j⟩ := X
  simp only at hj hs1 hs2 hN1 hdk
  have c1 := Next_spec l j 256 hj (by omega) (by omega)
  have hl1 := nextD_lt l j 256 (by omega)
  generalize nextD l j 256 = X at c1 hl1 hs1 hs2
  obtain ⟨a, j2⟩ := X
  simp only at c1 hl1 hs1 hs2
  have hi1 : ((u : Int) * 9).toNat = u * 9 := by omega
  have hw : IntKind.u8.wrap (a : Int) = a := by rw [IntKind.wrap_u8]; omega
  have hi3 : u * 9 < 32 := by omega
  clear hj h
  refine Wg ?_
  refine go_condT (by simp (disch := omega) [go_sem, *, -List.reduceReplicate]; try first | rfl | omega) ?_
  refine Wg ?_
  refine go_callw (c1 _ _) (by simp (disch := omega) [go_sem, *, -List.reduceReplicate]; try rfl) (by simp (disch := omega) [go_sem, *, -List.reduceReplicate]; repeat' first | exact ALe.nil | exact AV.le_refl _ | exact AV.le_nils | exact AV.le_own _ _ | apply ALe.cons | apply AV.sub_agg) (by simp (disch := omega) [go_sem, *, -List.reduceReplicate]) ?_
  refine Wg ?_
  refine ⟨⟨u + 1, by simp (disch := omega) [go_sem, *, -List.reduceReplicate], by simp (disch := omega) [go_sem, *, -List.reduceReplicate], by omega, by simp (disch := omega) [go_sem, *, -List.reduceReplicate], by simp (disch := omega) [go_sem, *, -List.reduceReplicate], by simp (disch := omega) [go_sem, *, -List.reduceReplicate], by rw [hs1]; simp (disch := omega) [go_sem, *, -List.reduceReplicate], by rw [hs2]; simp (disch := omega) [go_sem, *, -List.reduceReplicate], by simp only; omega, (fun id hid hdd => by simp (disch := omega) only [upd_ne, wr_cons, wr_nil]; exact hlow id hid hdd)⟩, ?_⟩
  simp (disch := omega) [go_sem, *, -List.reduceReplicate]
  omega
end Go.Proofs.YtemmlldpmgfblaaGreatDoor
