/- Texts K3p, D8p, R2p, M8p, K7p, Q5, X3, X4, K19p, X5, X6, C16, joined. -/
import Derived.Test.YtdmjpolnbmoehaaGreatDoorME1

namespace Go.Proofs.YtdmjpolnbmoehaaGreatDoor
open Go.Ab
attribute [local irreducible] Go.Ab.tyAV Go.Ab.aw Go.Ab.aops Go.Ab.kReg Go.Ab.aThen Go.Ab.aBlk Go.Ab.acond Go.Ab.aguard Go.Ab.astep Go.Ab.AStepX Go.Ab.aRet
theorem SamePredicates_refl (l : List Pr) (hl : l.length ≤ 100000) (k : Nat) :
  ACall Tryz.prog 87 [.slice none (l.map prAV), .slice none (l.map prAV)] k [] (.lit (.bool true)) [] := by
 refine Bd Tryz.func87 Tryz.ntmps87 fun σ N hp hpn hk hkn hfree => ?_
 refine Wk ?_
 refine go_loopF mixed (by kernel_rfl) [4, 5, 11, 12, 13, 14, 15, 16, 17, 18, 19, 20, 21, 22, 23, 24, 25] [] (fun m_ s_ σ_ n_ => ∃ (u : Nat), m_ = l.length - u ∧ s_ 5 = .lit (.int .i64 u) ∧ (u ≤ l.length)) ⟨_, 0, rfl, WF, WC⟩ ?_
 intro m_3 s_3 σ_3 n_3 hs_3 hf_3 hn_3 hI_3
 obtain ⟨u, hm_3, h3_5, hu⟩ := hI_3
 have h3_0 := KS hs_3 0
 have h3_1 := KS hs_3 1
 have hlow := KL (N := N) (σ := σ) hf_3
 by_cases hul : u = l.length
 ·subst hul
  exact W0
 ·have hui : u < l.length := by omega
  obtain ⟨c, hc⟩ : ∃ c, l[u] = c := ⟨_, rfl⟩
  refine Wk ?_
  exact ⟨WS, WG, WN, _, (show l.length - (u + 1) < m_3 by omega), u + 1, rfl, WF, WC⟩

def names5 : List (List UInt8) := [[97, 110, 110], [98, 111, 98], [99, 105, 100], [122, 111, 101], [97]]
def persD (l : List Int) (nm : List (List UInt8)) : Nat → Nat → Nat → List Pe × Nat
 | 0, _, i => ([], i)
 | f + 1, u, i => if u < 1 + (nextD l i 5).1 then (⟨nm.getD u [], -((nextD l (nextD l i 5).2 100).1 : Int) * 365 * 1440⟩ :: (persD l nm f (u + 1) (nextD l (nextD l i 5).2 100).2).1, (persD l nm f (u + 1) (nextD l (nextD l i 5).2 100).2).2) else ([], (nextD l i 5).2)
theorem persD_dk {l : List Int} {nm : List (List UInt8)} : ∀ f u i, Dk l i → Dk l (persD l nm f u i).2
 | 0, _, _, h => h
 | f + 1, u, i, h => by
  unfold persD
  split
  ·exact persD_dk f _ _ (nextD_dk _ (nextD_dk _ h))
  ·exact nextD_dk _ h
theorem persD_len {l : List Int} {nm : List (List UInt8)} : ∀ f u i, (persD l nm f u i).1.length ≤ f
 | 0, _, _ => Nat.le_refl _
 | f + 1, u, i => by
  unfold persD
  split
  ·have := persD_len (l := l) (nm := nm) f (u + 1) (nextD l (nextD l i 5).2 100).2
   simp only [List.length_cons]; omega
  ·simp
theorem pers_core (l : List Int) (i : Nat) (h : Dk l i) (NM : List (List UInt8)) (hNM : NM.length = 5)
  (hL : [AV.lit (.string (ByteArray.mk #[97, 110, 110])), .lit (.string (ByteArray.mk #[98, 111, 98])), .lit (.string (ByteArray.mk #[99, 105, 100])), .lit (.string (ByteArray.mk #[122, 111, 101])), .lit (.string (ByteArray.mk #[97]))] = NM.map strAV) (d k : Nat) :
  ACall Tryz.prog 120 [.ptr d [] 0] k [(d, deckBox l i)] (.slice none ((persD l NM 5 0 i).1.map persAV)) [(d, deckBox l (persD l NM 5 0 i).2)] := by
 refine Bd Tryz.func120 Tryz.ntmps120 fun σ N hp hpn hk hkn hfree => ?_
 have hd := hp _ (List.mem_singleton.2 rfl)
 have hdn := hpn _ (List.mem_singleton.2 rfl)
 simp only at hd hdn
 clear hp hpn
 refine Wg ?_
 refine ALoop.nilrow 3 130 2 (by simp (disch := omega) [go_sem, *, -List.reduceReplicate]) ?_
 refine go_loop (aloop mixed (by kernel_rfl) (fun c => ∃ (u r f j : Nat) (o : Option Nat) (acc : List Pe), c.s 0 = .ptr d [] 0 ∧ c.s 5 = .lit (.int .i64 u) ∧ u + f = 5 ∧ c.s 4 = .slice o (NM.map strAV) ∧ c.s 3 = .slice (some r) (acc.map persAV) ∧ c.σ r = .row 130 2 acc.length ∧ acc.length = u ∧ N ≤ r ∧ r < c.n ∧ c.σ d = deckBox l j ∧ Dk l j ∧ acc ++ (persD l NM f u j).1 = (persD l NM 5 0 i).1 ∧ (persD l NM f u j).2 = (persD l NM 5 0 i).2 ∧ N ≤ c.n ∧ (∀ id, id < N → id ≠ d → c.σ id = σ id))
  (fun c => match c.s 5 with | .lit (.int _ m) => 5 - m.toNat | _ => 0) ⟨0, _, 5, i, _, [], by simp (disch := omega) [go_sem, *, -List.reduceReplicate], by simp (disch := omega) [go_sem, *, -List.reduceReplicate], by omega, by (simp (disch := omega) [go_sem, *]; try rfl), by simp (disch := omega) [go_sem, *, -List.reduceReplicate]; rfl, by simp (disch := omega) [go_sem, *, -List.reduceReplicate], rfl, by omega, by simp only; omega, by simp (disch := omega) [go_sem, *, -List.reduceReplicate], h, by simp, rfl, by simp only; omega, (fun id hid hdd => by simp (disch := omega) only [upd_ne])⟩ ?_)
 rintro ⟨s, σ', n'⟩ ⟨u, r, f, j, o, acc, h0, h5, huf, h4, h3, hr, hal, hNr, hrn, hdk, hj, hacc, hend, hn', hlow⟩
 simp only at h0 h5 h4 h3 hr hNr hrn hdk hn' hlow
 generalize persD l NM 5 0 i = R at hacc hend ⊢
 obtain ⟨R1, R2⟩ := R
 simp only at hacc hend ⊢
 clear hL h
 cases f with
 | zero =>
  have hu5 : u = 5 := by omega
  subst hu5
  simp only [persD, List.append_nil] at hacc hend
  subst hacc hend
  refine Wg ?_
  refine go_condF (by simp (disch := omega) [go_sem, *, -List.reduceReplicate]; try first | rfl | omega) ?_
  refine Wg ?_
  exact RV (d) (deckBox l j)
 | succ f =>
  have hu5 : u < 5 := by omega
  have c1 := Next_spec l j 5 hj (by omega) (by omega)
  have d1 := nextD_dk 5 hj
  have b1 := nextD_lt l j 5 (by omega)
  unfold persD at hacc hend
  generalize nextD l j 5 = X at c1 d1 b1 hacc hend
  obtain ⟨a, j1⟩ := X
  simp only at c1 d1 b1 hacc hend
  have hu5i : (u : Int) < 5 := by omega
  by_cases ha : u < 1 + a
  ·rw [if_pos ha] at hacc hend
   have c2 := Next_spec l j1 100 d1 (by omega) (by omega)
   have d2 := nextD_dk 100 d1
   have b2 := nextD_lt l j1 100 (by omega)
   generalize nextD l j1 100 = X at c2 d2 b2 hacc hend
   obtain ⟨b, j2⟩ := X
   simp only at c2 d2 b2 hacc hend
   obtain ⟨nm, hnm⟩ : ∃ x, NM[u]'(by omega) = x := ⟨_, rfl⟩
   have hgd : NM.getD u [] = nm := by rw [List.getD_eq_getElem?_getD, List.getElem?_eq_getElem (by omega), hnm]; rfl
   rw [hgd] at hacc
   have hnmv : strAV nm = .lit (.string ⟨nm.toArray⟩) := rfl
   have hne : ¬ r = d := by
    intro hh; subst hh; rw [hr] at hdk; cases hdk
   clear d1 hj
   have ha2 : (u : Int) < 1 + (a : Int) := by omega
   refine Wg ?_
   refine go_callw (c1 _ _) (by simp (disch := omega) [go_sem, *, -List.reduceReplicate]; try rfl) (by simp (disch := omega) [go_sem, *, -List.reduceReplicate]; repeat' first | exact ALe.nil | exact AV.le_refl _ | exact AV.le_nils | exact AV.le_own _ _ | apply ALe.cons | apply AV.sub_agg) (by simp (disch := omega) [go_sem, *, -List.reduceReplicate]) ?_
   refine Wg ?_
   refine go_condT (by simp (disch := omega) [go_sem, *, -List.reduceReplicate]; try first | rfl | omega) ?_
   refine Wg ?_
   refine go_callw (c2 _ _) (by simp (disch := omega) [go_sem, *, -List.reduceReplicate]; try rfl) (by simp (disch := omega) [go_sem, *, -List.reduceReplicate]; repeat' first | exact ALe.nil | exact AV.le_refl _ | exact AV.le_nils | exact AV.le_own _ _ | apply ALe.cons | apply AV.sub_agg) (by simp (disch := omega) [go_sem, *, -List.reduceReplicate]) ?_
   refine Wg ?_
   refine ⟨⟨u + 1, r, f, j2, o, acc ++ [⟨nm, -(b : Int) * 365 * 1440⟩], by simp (disch := omega) [go_sem, *, -List.reduceReplicate], by simp (disch := omega) [go_sem, *, -List.reduceReplicate], by omega, by simp (disch := omega) [go_sem, *, -List.reduceReplicate], by simp (disch := omega) [go_sem, *, -List.reduceReplicate], by simp (disch := omega) [go_sem, *, -List.reduceReplicate], by simp [hal], hNr, by simp only; omega, by simp (disch := omega) [go_sem, *, -List.reduceReplicate], d2, by rw [List.append_assoc]; exact hacc, hend, by simp only; omega, (fun id hid hdd => by simp (disch := omega) only [upd_ne, wr_cons, wr_nil]; exact hlow id hid hdd)⟩, ?_⟩
   simp (disch := omega) [go_sem, *, -List.reduceReplicate]
   omega
  ·rw [if_neg ha] at hacc hend
   simp only [List.append_nil] at hacc hend
   subst hacc hend
   have ha2 : ¬ (u : Int) < 1 + (a : Int) := by omega
   clear hj d1
   refine Wg ?_
   refine go_callw (c1 _ _) (by simp (disch := omega) [go_sem, *, -List.reduceReplicate]; try rfl) (by simp (disch := omega) [go_sem, *, -List.reduceReplicate]; repeat' first | exact ALe.nil | exact AV.le_refl _ | exact AV.le_nils | exact AV.le_own _ _ | apply ALe.cons | apply AV.sub_agg) (by simp (disch := omega) [go_sem, *, -List.reduceReplicate]) ?_
   refine Wg ?_
   refine go_condF (by simp (disch := omega) [go_sem, *, -List.reduceReplicate]; try first | rfl | omega) ?_
   refine Wg ?_
   exact RV (d) (deckBox l j1)
def personsD (l : List Int) (i : Nat) : List Pe × Nat := persD l names5 5 0 i
theorem Persons_spec (l : List Int) (i : Nat) (h : Dk l i) (d k : Nat) :
  ACall Tryz.prog 120 [.ptr d [] 0] k [(d, deckBox l i)] (.slice none ((personsD l i).1.map persAV)) [(d, deckBox l (personsD l i).2)] := pers_core l i h names5 rfl rfl d k
theorem personsD_dk {l : List Int} {i : Nat} (h : Dk l i) : Dk l (personsD l i).2 := persD_dk _ _ _ h
theorem personsD_len (l : List Int) (i : Nat) : (personsD l i).1.length ≤ 5 := persD_len _ _ _
def concD (l : List Int) (i : Nat) (t : Tg) : Co × Nat := (⟨(nextD l i 8).1, t, (personsD l (nextD l i 8).2).1⟩, (personsD l (nextD l i 8).2).2)
theorem concD_dk {l : List Int} {i : Nat} {t : Tg} (h : Dk l i) : Dk l (concD l i t).2 := personsD_dk (nextD_dk _ h)
theorem concD_len (l : List Int) (i : Nat) (t : Tg) : (concD l i t).1.ps.length ≤ 5 := personsD_len _ _
theorem Concession_spec (l : List Int) (i : Nat) (t : Tg) (h : Dk l i) (d k : Nat) :
  ACall Tryz.prog 51 [.ptr d [] 0, tagAV t] k [(d, deckBox l i)] (concAV (concD l i t).1) [(d, deckBox l (concD l i t).2)] := by
 have c1 := Next_spec l i 8 h (by omega) (by omega)
 have d1 := nextD_dk 8 h
 unfold concD
 generalize nextD l i 8 = X at c1 d1 ⊢
 obtain ⟨x, j⟩ := X
 simp only at c1 d1 ⊢
 have c2 := Persons_spec l j d1
 generalize personsD l j = X at c2 ⊢
 obtain ⟨ps, j2⟩ := X
 simp only at c2 ⊢
 clear h d1
 refine Bd Tryz.func51 Tryz.ntmps51 fun σ N hp hpn hk hkn hfree => ?_
 have hd := hp _ (List.mem_singleton.2 rfl)
 have hdn := hpn _ (List.mem_singleton.2 rfl)
 simp only at hd hdn
 clear hp hpn
 refine Wg ?_
 refine go_callw (c1 _ _) (by simp (disch := omega) [go_sem, *, -List.reduceReplicate]; try rfl) (by simp (disch := omega) [go_sem, *, -List.reduceReplicate]; repeat' first | exact ALe.nil | exact AV.le_refl _ | exact AV.le_nils | exact AV.le_own _ _ | apply ALe.cons | apply AV.sub_agg) (by simp (disch := omega) [go_sem, *, -List.reduceReplicate]) ?_
 refine Wg ?_
 refine go_callw (c2 _ _) (by simp (disch := omega) [go_sem, *, -List.reduceReplicate]; try rfl) (by simp (disch := omega) [go_sem, *, -List.reduceReplicate]; repeat' first | exact ALe.nil | exact AV.le_refl _ | exact AV.le_nils | exact AV.le_own _ _ | apply ALe.cons | apply AV.sub_agg) (by simp (disch := omega) [go_sem, *, -List.reduceReplicate]) ?_
 refine Wg ?_
 exact RW (d) (deckBox l j2)

theorem Bytes_spec (l : List Int) (i n : Nat) (h : Dk l i) (hn : n ≤ 100000) (d k : Nat) :
  ACall Tryz.prog 24 [.ptr d [] 0, .lit (.int .i64 n)] k [(d, deckBox l i)] (.slice none ((bytesD l i n).1.map byteAV)) [(d, deckBox l (bytesD l i n).2)] := by
 have c1 := Next_spec l i (n + 1) h (by omega) (by omega)
 have d1 := nextD_dk (n + 1) h
 have b1 := nextD_lt l i (n + 1) (by omega)
 have hn1 : ((n + 1 : Nat) : Int) = (n : Int) + 1 := by omega
 unfold bytesD
 rw [hn1] at c1
 generalize nextD l i (n + 1) = X at *
 obtain ⟨K, j⟩ := X
 simp only at c1 d1 b1 ⊢
 clear h hn1
 have hcs := And.intro (c1 d) True.intro
 generalize hR : bytesK l K j = R
 obtain ⟨R1, R2⟩ := R
 simp only
 refine Bd Tryz.func24 Tryz.ntmps24 fun σ N hp hpn hk hkn hfree => ?_
 obtain ⟨hd, hdn⟩ := HD0 hp hpn; clear hp hpn
 clear c1
 refine Wk ?_
 refine ALoop.nilrow 5 5 1 (by simp (disch := omega) [go_sem, *, -List.reduceReplicate]) ?_
 refine go_loopB (N) mixed (by kernel_rfl) [5, 6, 11, 12, 13, 14, 15, 16, 17, 18, 19, 20] [d] (fun m_ s_ σ_ n_ => ∃ (f : Nat) (j' : Nat) (r : Nat) (acc : List UInt8), m_ = f ∧ s_ 6 = .lit (.int .i64 f) ∧ s_ 5 = .slice (some r) (acc.map byteAV) ∧ σ_ (d) = deckBox l j' ∧ σ_ (r) = .row 5 1 acc.length ∧ (N ≤ r) ∧ (r < n_) ∧ (f + acc.length ≤ 100000) ∧ (Dk l j') ∧ ((acc ++ (bytesK l f j').1, (bytesK l f j').2) = (R1, R2))) ⟨_, K, j, _, [], rfl, WF, WF, WF, WF, WC, WC, WC, WC, WC⟩ ?_
 intro m_1 s_1 σ_1 n_1 hs_1 hf_1 hn_1 hI_1
 obtain ⟨f, j', r, acc, hm_1, h1_6, h1_5, e1_0, e1_1, hNr, hrn, hfl, hdj, hacc⟩ := hI_1
 have h1_0 := KS hs_1 0
 have h1_4 := KS hs_1 4
 have hlow := KD (N := N) (d := d) (σ := σ) hf_1
 have hne : ¬ r = d := by omega
 have hne2 : ¬ d = r := by omega
 cases f with
 | zero =>
  simp only [bytesK, List.append_nil, Prod.mk.injEq] at hacc
  obtain ⟨rfl, rfl⟩ := hacc
  refine Wk ?_
  exact RV (d) (deckBox l j')
 | succ f =>
  have c1 := Next_spec l j' 256 hdj (by omega) (by omega)
  have d1 := nextD_dk 256 hdj
  have b1 := nextD_lt l j' 256 (by omega)
  rw [bytesK] at hacc
  generalize nextD l j' 256 = X at *
  obtain ⟨x, j2⟩ := X
  simp only at c1 d1 b1 hacc
  have hw : IntKind.u8.wrap (x : Int) = x := by rw [IntKind.wrap_u8]; omega
  have hbx : AV.lit (.int .u8 (x : Int)) = byteAV (UInt8.ofNat x) := by simp [byteAV, Nat.mod_eq_of_lt b1]
  have hcs := And.intro (c1 d) True.intro
  clear c1 hdj
  refine Wk ?_
  exact ⟨WS, WG, WN, _, (show (f) < m_1 by omega), f, j2, r, acc ++ [UInt8.ofNat x], rfl, WF, WF, WF, WF, WC, WC, WC, WC, WC⟩
end Go.Proofs.YtdmjpolnbmoehaaGreatDoor

namespace Go.Proofs.YtdmjpolnbmoehaaGreatDoor
open Go.Ab
attribute [local irreducible] Go.Ab.tyAV Go.Ab.aw Go.Ab.aops Go.Ab.kReg Go.Ab.aThen Go.Ab.aBlk Go.Ab.acond Go.Ab.aguard Go.Ab.astep Go.Ab.AStepX Go.Ab.aRet
attribute [local irreducible] shaG
def knownD (l : List Int) (i : Nat) (a : Alg) : Tg × Nat :=
 let q := nextD l i 4
 if q.1 = 0 ∧ 0 < a.macs.length then ((a.macs.getD (nextD l q.2 a.macs.length).1 ⟨zeroTag, [], zeroTag⟩).tag, (nextD l q.2 a.macs.length).2)
 else if q.1 = 1 ∧ 0 < a.macs.length then ((a.macs.getD (nextD l q.2 a.macs.length).1 ⟨zeroTag, [], zeroTag⟩).key, (nextD l q.2 a.macs.length).2)
 else if q.1 = 2 ∧ 0 < a.boxes.length then ((a.boxes.getD (nextD l q.2 a.boxes.length).1 ⟨zeroTag, 0, [], []⟩).key, (nextD l q.2 a.boxes.length).2)
 else tagD l q.2
theorem knownD_dk {l : List Int} {i : Nat} (a : Alg) (h : Dk l i) : Dk l (knownD l i a).2 := by
 have h1 := nextD_dk 4 h
 unfold knownD
 simp only
 split
 ·exact nextD_dk _ h1
 ·split
  ·exact nextD_dk _ h1
  ·split
   ·exact nextD_dk _ h1
   ·exact tagD_dk h1
section
variable [W : W32]
omit W in
set_option maxHeartbeats 4000000 in
theorem Known_spec (l : List Int) (i : Nat) (h : Dk l i) (a : Alg) (m : Nat) (ha : AlgIn a m) (hm : m ≤ 1000000) (d k : Nat) :
  ACall Tryz.prog 118 [.ptr d [] 0, algAV a] k [(d, deckBox l i)] (tagAV (knownD l i a).1) [(d, deckBox l (knownD l i a).2)] := by
 have c1 := Next_spec l i 4 h (by omega) (by omega)
 have d1 := nextD_dk 4 h
 have b1 := nextD_lt l i 4 (by omega)
 obtain ⟨fr, sd, fs, L, B⟩ := a
 have hL := ha.ml
 have hB := ha.bl
 simp only at hL hB
 clear ha
 unfold knownD
 generalize nextD l i 4 = X at *
 obtain ⟨q, j⟩ := X
 simp only at c1 d1 b1 ⊢
 by_cases h0 : q = 0 ∧ 0 < L.length
 ·rw [if_pos h0]
  obtain ⟨rfl, hl0⟩ := h0
  have hl0i : (0 : Int) < (L.length : Int) := by omega
  have c2 := Next_spec l j L.length d1 hl0 (by omega)
  have b2 := nextD_lt l j L.length hl0
  generalize nextD l j L.length = Y at *
  obtain ⟨p, j2⟩ := Y
  simp only at c2 b2 ⊢
  rw [List.getD_eq_getElem?_getD, List.getElem?_eq_getElem b2, Option.getD_some]
  obtain ⟨z, hz⟩ : ∃ z, L[p] = z := ⟨_, rfl⟩
  rw [hz]
  obtain ⟨zk, zm, zt⟩ := z
  have hzd : macAV ⟨zk, zm, zt⟩ = .agg [tagAV zk, bAV zm, tagAV zt] := rfl
  simp only [algAV]
  refine Bd Tryz.func118 Tryz.ntmps118 fun σ N hp hpn hk hkn hfree => ?_
  obtain ⟨hd, hdn⟩ := HD0 hp hpn; clear hp hpn
  have hcs := And.intro (c1 d) (And.intro (c2 d) True.intro)
  clear c1 c2 h d1
  refine Wk ?_
  exact RW (d) (deckBox l j2)
 ·rw [if_neg h0]
  by_cases h1 : q = 1 ∧ 0 < L.length
  ·rw [if_pos h1]
   obtain ⟨rfl, hl0⟩ := h1
   have hl0i : (0 : Int) < (L.length : Int) := by omega
   have c2 := Next_spec l j L.length d1 hl0 (by omega)
   have b2 := nextD_lt l j L.length hl0
   generalize nextD l j L.length = Y at *
   obtain ⟨p, j2⟩ := Y
   simp only at c2 b2 ⊢
   rw [List.getD_eq_getElem?_getD, List.getElem?_eq_getElem b2, Option.getD_some]
   obtain ⟨z, hz⟩ : ∃ z, L[p] = z := ⟨_, rfl⟩
   rw [hz]
   obtain ⟨zk, zm, zt⟩ := z
   have hzd : macAV ⟨zk, zm, zt⟩ = .agg [tagAV zk, bAV zm, tagAV zt] := rfl
   simp only [algAV]
   refine Bd Tryz.func118 Tryz.ntmps118 fun σ N hp hpn hk hkn hfree => ?_
   obtain ⟨hd, hdn⟩ := HD0 hp hpn; clear hp hpn
   have hcs := And.intro (c1 d) (And.intro (c2 d) True.intro)
   clear c1 c2 h d1
   refine Wk ?_
   exact RW (d) (deckBox l j2)
  ·rw [if_neg h1]
   by_cases h2 : q = 2 ∧ 0 < B.length
   ·rw [if_pos h2]
    obtain ⟨rfl, hl0⟩ := h2
    have hl0i : (0 : Int) < (B.length : Int) := by omega
    have c2 := Next_spec l j B.length d1 hl0 (by omega)
    have b2 := nextD_lt l j B.length hl0
    generalize nextD l j B.length = Y at *
    obtain ⟨p, j2⟩ := Y
    simp only at c2 b2 ⊢
    rw [List.getD_eq_getElem?_getD, List.getElem?_eq_getElem b2, Option.getD_some]
    obtain ⟨z, hz⟩ : ∃ z, B[p] = z := ⟨_, rfl⟩
    rw [hz]
    obtain ⟨zk, zn, zp, zb⟩ := z
    have hzd : sealAV ⟨zk, zn, zp, zb⟩ = .agg [tagAV zk, .lit (.int .i64 zn), bAV zp, bAV zb] := rfl
    simp only [algAV]
    refine Bd Tryz.func118 Tryz.ntmps118 fun σ N hp hpn hk hkn hfree => ?_
    obtain ⟨hd, hdn⟩ := HD0 hp hpn; clear hp hpn
    have hcs := And.intro (c1 d) (And.intro (c2 d) True.intro)
    clear c1 c2 h d1
    refine Wk ?_
    exact RW (d) (deckBox l j2)
   ·rw [if_neg h2]
    clear hm
    rcases Nat.lt_or_ge q 1 with hq | hq
    ·obtain rfl : q = 0 := by omega
     have hl0 : L.length = 0 := by omega
     have hl0i : ¬ (0 : Int) < (L.length : Int) := by omega
     clear h0 h1 h2
     have T1 := Tag_spec l j d1
     generalize tagD l j = Y at *
     obtain ⟨tg, j2⟩ := Y
     simp only at T1 ⊢
     simp only [algAV]
     refine Bd Tryz.func118 Tryz.ntmps118 fun σ N hp hpn hk hkn hfree => ?_
     obtain ⟨hd, hdn⟩ := HD0 hp hpn; clear hp hpn
     have hcs := And.intro (c1 d) (And.intro (T1 d) True.intro)
     clear c1 T1 h d1
     refine Wk ?_
     exact RW (d) (deckBox l j2)
    ·rcases Nat.lt_or_ge q 2 with hq2 | hq2
     ·obtain rfl : q = 1 := by omega
      have hl0 : L.length = 0 := by omega
      have hl0i : ¬ (0 : Int) < (L.length : Int) := by omega
      clear h0 h1 h2 hq hq2
      have T1 := Tag_spec l j d1
      generalize tagD l j = Y at *
      obtain ⟨tg, j2⟩ := Y
      simp only at T1 ⊢
      simp only [algAV]
      refine Bd Tryz.func118 Tryz.ntmps118 fun σ N hp hpn hk hkn hfree => ?_
      obtain ⟨hd, hdn⟩ := HD0 hp hpn; clear hp hpn
      have hcs := And.intro (c1 d) (And.intro (T1 d) True.intro)
      clear c1 T1 h d1
      refine Wk ?_
      exact RW (d) (deckBox l j2)
     ·rcases Nat.lt_or_ge q 3 with hq3 | hq3
      ·obtain rfl : q = 2 := by omega
       have hl0 : B.length = 0 := by omega
       have hl0i : ¬ (0 : Int) < (B.length : Int) := by omega
       clear h0 h1 h2 hq hq2 hq3
       have T1 := Tag_spec l j d1
       generalize tagD l j = Y at *
       obtain ⟨tg, j2⟩ := Y
       simp only at T1 ⊢
       simp only [algAV]
       refine Bd Tryz.func118 Tryz.ntmps118 fun σ N hp hpn hk hkn hfree => ?_
       obtain ⟨hd, hdn⟩ := HD0 hp hpn; clear hp hpn
       have hcs := And.intro (c1 d) (And.intro (T1 d) True.intro)
       clear c1 T1 h d1
       refine Wk ?_
       exact RW (d) (deckBox l j2)
      ·obtain rfl : q = 3 := by omega
       clear h0 h1 h2 hq hq2 hq3
       have T1 := Tag_spec l j d1
       generalize tagD l j = Y at *
       obtain ⟨tg, j2⟩ := Y
       simp only at T1 ⊢
       simp only [algAV]
       refine Bd Tryz.func118 Tryz.ntmps118 fun σ N hp hpn hk hkn hfree => ?_
       obtain ⟨hd, hdn⟩ := HD0 hp hpn; clear hp hpn
       have hcs := And.intro (c1 d) (And.intro (T1 d) True.intro)
       clear c1 T1 h d1
       refine Wk ?_
       exact RW (d) (deckBox l j2)
end
end Go.Proofs.YtdmjpolnbmoehaaGreatDoor

namespace Go.Proofs.YtdmjpolnbmoehaaGreatDoor
open Go.Ab
attribute [local irreducible] Go.Ab.tyAV Go.Ab.aw Go.Ab.aops Go.Ab.kReg Go.Ab.aThen Go.Ab.aBlk Go.Ab.acond Go.Ab.aguard Go.Ab.astep Go.Ab.AStepX Go.Ab.aRet
theorem Enc_bad (p : Pr) (hp0 : PrOk p) (h : predB p = false) (d k : Nat) :
  ACall Tryz.prog 96 [prAV p] k [(d, bitsG)] (.tup [.nils, .lit (.int .i64 5)]) [] := by
 have c1 := predValid_spec p hp0 d
 rw [h] at c1
 refine Bd Tryz.func96 Tryz.ntmps96 fun σ N hp hpn hk hkn hfree => ?_
 obtain ⟨hd, hdn⟩ := HD0 hp hpn; clear hp hpn
 have hcs := And.intro c1 True.intro
 clear c1
 exact W0
end Go.Proofs.YtdmjpolnbmoehaaGreatDoor

namespace Go.Proofs.YtdmjpolnbmoehaaGreatDoor
open Go.Ab
attribute [local irreducible] Go.Ab.tyAV Go.Ab.aw Go.Ab.aops Go.Ab.kReg Go.Ab.aThen Go.Ab.aBlk Go.Ab.acond Go.Ab.aguard Go.Ab.astep Go.Ab.AStepX Go.Ab.aRet
attribute [local irreducible] shaG
section
variable [W : W32]
end

section
variable [W : W32]
end
section
variable [W : W32]
end

section
variable [W : W32]
end
end Go.Proofs.YtdmjpolnbmoehaaGreatDoor

namespace Go.Proofs.YtdmjpolnbmoehaaGreatDoor
open Go.Ab
set_option maxHeartbeats 2000000 in
theorem eight_be8 (L : List UInt8) (h : L.length = 8) : eightB (be8 L : Int) = L := by
 obtain ⟨a, b, c, d, e, f, g, i, rfl⟩ : ∃ a b c d e f g i, L = [a, b, c, d, e, f, g, i] := by
  match L, h with
  | [a, b, c, d, e, f, g, i], _ => exact ⟨a, b, c, d, e, f, g, i, rfl⟩
 have ha := a.toNat_lt
 have hb := b.toNat_lt
 have hc := c.toNat_lt
 have hd := d.toNat_lt
 have he := e.toNat_lt
 have hf := f.toNat_lt
 have hg := g.toNat_lt
 have hi := i.toNat_lt
 obtain ⟨m, hm⟩ : ∃ m : Int, ((be8 [a, b, c, d, e, f, g, i] : Nat) : Int) = m := ⟨_, rfl⟩
 rw [hm]
 simp only [be8, List.foldl_cons, List.foldl_nil] at hm
 have d7 : m / 72057594037927936 % 256 = a.toNat := by omega
 have d6 : m / 281474976710656 % 256 = b.toNat := by omega
 have d5 : m / 1099511627776 % 256 = c.toNat := by omega
 have d4 : m / 4294967296 % 256 = d.toNat := by omega
 have d3 : m / 16777216 % 256 = e.toNat := by omega
 have d2 : m / 65536 % 256 = f.toNat := by omega
 have d1 : m / 256 % 256 = g.toNat := by omega
 have d0 : m % 256 = i.toNat := by omega
 have e7 := sh8_toNat m 56
 have e6 := sh8_toNat m 48
 have e5 := sh8_toNat m 40
 have e4 := sh8_toNat m 32
 have e3 := sh8_toNat m 24
 have e2 := sh8_toNat m 16
 have e1 := sh8_toNat m 8
 have e0 := sh8_toNat m 0
 simp only [Int.reducePow, Int.pow_zero, Int.ediv_one] at e7 e6 e5 e4 e3 e2 e1 e0
 rw [d7] at e7
 rw [d6] at e6
 rw [d5] at e5
 rw [d4] at e4
 rw [d3] at e3
 rw [d2] at e2
 rw [d1] at e1
 rw [d0] at e0
 have key : ∀ x y : UInt8, (x.toNat : Int) = (y.toNat : Int) → x = y := fun x y h => UInt8.toNat_inj.1 (by exact_mod_cast h)
 unfold eightB
 rw [key (sh8 m 56) a e7, key (sh8 m 48) b e6, key (sh8 m 40) c e5, key (sh8 m 32) d e4, key (sh8 m 24) e e3, key (sh8 m 16) f e2, key (sh8 m 8) g e1, key (sh8 m 0) i e0]
end Go.Proofs.YtdmjpolnbmoehaaGreatDoor

namespace Go.Proofs.YtdmjpolnbmoehaaGreatDoor
open Go.Ab
attribute [local irreducible] Go.Ab.tyAV Go.Ab.aw Go.Ab.aops Go.Ab.kReg Go.Ab.aThen Go.Ab.aBlk Go.Ab.acond Go.Ab.aguard Go.Ab.astep Go.Ab.AStepX Go.Ab.aRet
attribute [local irreducible] shaG
section
variable [W : W32]
end

def o8 (a b : UInt8) : UInt8 := a ||| b
theorem o8_eq (a b : UInt8) : bits .or .u8 (a.toNat : Int) (b.toNat : Int) = ((o8 a b).toNat : Int) := by
 have ha := a.toNat_lt
 have hb := b.toNat_lt
 have h2 := (a ||| b).toNat_lt
 have h3 : (BitVec.ofInt 8 (a.toNat : Int) ||| BitVec.ofInt 8 (b.toNat : Int)).toNat = (a ||| b).toNat := by
  rw [UInt8.toNat_or, BitVec.toNat_or]
  congr 1
  ·rw [BitVec.ofInt_natCast, BitVec.toNat_ofNat]; exact Nat.mod_eq_of_lt ha
  ·rw [BitVec.ofInt_natCast, BitVec.toNat_ofNat]; exact Nat.mod_eq_of_lt hb
 show IntKind.u8.wrap (((BitVec.ofInt 8 (a.toNat : Int) ||| BitVec.ofInt 8 (b.toNat : Int)).toNat : Nat) : Int) = _
 rw [h3, IntKind.wrap_u8]
 unfold o8
 omega
theorem x8_zero {a b : UInt8} : x8 a b = 0 ↔ a = b := by
 rw [x8_xor]; exact UInt8.xor_eq_zero_iff
theorem o8_zero {a b : UInt8} : o8 a b = 0 ↔ a = 0 ∧ b = 0 := by
 unfold o8; exact UInt8.or_eq_zero_iff
theorem hEqual_spec (a b : List UInt8) (ha : a.length ≤ 100000) (_hb : b.length ≤ 100000) (k : Nat) :
  ACall Tryz.prog 144 [.slice none (a.map byteAV), .slice none (b.map byteAV)] k [] (.lit (.bool (decide (a = b)))) [] := by
 by_cases hl : a.length = b.length
 ·refine Bd Tryz.func144 Tryz.ntmps144 fun σ N hp hpn hk hkn hfree => ?_
  refine Wk ?_
  refine go_loopF mixed (by kernel_rfl) [5, 6, 14, 15, 16, 17, 18, 19, 20, 21, 22, 23, 24, 25, 26, 27, 28] [] (fun m_ s_ σ_ n_ => ∃ (u : Nat) (d : UInt8), m_ = a.length - u ∧ s_ 14 = .lit (.int .i64 u) ∧ s_ 5 = .lit (.int .u8 d.toNat) ∧ (u ≤ a.length) ∧ (d = 0 ↔ a.take u = b.take u)) ⟨_, 0, 0, rfl, WF, WF, WC, WC⟩ ?_
  intro m_1 s_1 σ_1 n_1 hs_1 hf_1 hn_1 hI_1
  obtain ⟨u, d, hm_1, h1_14, h1_5, hu, hd⟩ := hI_1
  have h1_0 := KS hs_1 0
  have h1_1 := KS hs_1 1
  have h1_4 := KS hs_1 4
  have h1_13 := KS hs_1 13
  have hlow := KL (N := N) (σ := σ) hf_1
  by_cases hul : u = a.length
  ·have hr : decide (d = 0) = decide (a = b) := by
    have : (d = 0) ↔ a = b := by
     rw [hd, hul, List.take_length, hl, List.take_length]
    simp only [this]
   have hr2 : ((d.toNat : Int) == 0) = decide (a = b) := by
    rw [← hr]
    by_cases h0 : d = 0
    ·subst h0; rfl
    ·rw [decide_eq_false h0, beq_eq_false_iff_ne]
     intro h1
     exact h0 (UInt8.toNat_inj.1 (by simpa using h1))
   have hr3 : decide ((d.toNat : Int) = 0) = decide (a = b) := hr2
   generalize decide (a = b) = R at *
   subst hul
   clear hd hr
   exact W0
  ·have hua : u < a.length := by omega
   have hub : u < b.length := by omega
   obtain ⟨x, hx⟩ : ∃ x, a[u] = x := ⟨_, rfl⟩
   obtain ⟨y, hy⟩ : ∃ y, b[u] = y := ⟨_, rfl⟩
   have hxx : byteAV x = .lit (.int .u8 x.toNat) := rfl
   have hyy : byteAV y = .lit (.int .u8 y.toNat) := rfl
   have h1 := x8_eq x y
   have h2 := o8_eq d (x8 x y)
   have h3 : o8 d (x8 x y) = 0 ↔ a.take (u + 1) = b.take (u + 1) := by
    rw [o8_zero, x8_zero, hd, List.take_succ_eq_append_getElem hua, List.take_succ_eq_append_getElem hub, hx, hy]
    constructor
    ·rintro ⟨e1, e2⟩; rw [e1, e2]
    ·intro e
     have := List.append_inj e (by rw [List.length_take, List.length_take]; omega)
     exact ⟨this.1, by simpa using this.2⟩
   clear hd
   generalize x8 x y = v at *
   generalize o8 d v = w at *
   refine Wk ?_
   exact ⟨WS, WG, WN, _, (show a.length - (u + 1) < m_1 by omega), u + 1, w, rfl, WF, WF, WC, WC⟩
 ·rw [decide_eq_false (fun h => hl (by rw [h]))]
  have hl2 : ((a.length : Int) != (b.length : Int)) = true := by simp; omega
  refine Bd Tryz.func144 Tryz.ntmps144 fun σ N hp hpn hk hkn hfree => ?_
  exact W0
section
variable [W : W32]
set_option maxHeartbeats 1000000 in
theorem pOpen_free (sd : Tg) (fs : Int) (L : List MacE) (B : List BoxE) (key : Tg) (b : List UInt8) (hl : B.length ≤ 1000000) (hm : ∀ e ∈ B, e.plain.length ≤ 100000 ∧ e.box.length ≤ 100000) (hb : b.length ≤ 100000) (g k : Nat) :
  ACall Tryz.prog 68 [algAV ⟨true, sd, fs, L, B⟩, tagAV key, .slice none (b.map byteAV)] k [(g, shaG)] (soAV (openS ⟨true, sd, fs, L, B⟩ key b)) [] := by
 unfold openS
 rw [if_pos rfl]
 simp only
 generalize hR : openL key b B = R
 refine Bd Tryz.func68 Tryz.ntmps68 fun σ N hp hpn hk hkn hfree => ?_
 obtain ⟨hd, hdn⟩ := HD0 hp hpn; clear hp hpn
 have haA : algAV ⟨true, sd, fs, L, B⟩ = .agg [.lit (.bool true), tagAV sd, .lit (.int .i64 fs), .slice none (L.map macAV), .slice none (B.map sealAV)] := rfl
 refine Wk ?_
 refine go_loopF mixed (by kernel_rfl) [6, 7, 9, 17, 18, 19, 20, 21, 22, 23, 24, 25, 26, 27, 28, 29, 30, 31, 32, 33, 34] [N, N+1] (fun m_ s_ σ_ n_ => ∃ (u : Nat), m_ = B.length - u ∧ s_ 17 = .lit (.int .i64 u) ∧ σ_ (N) = .box 38 (.agg [.lit (.bool true), tagAV sd, .lit (.int .i64 fs), .slice none (L.map macAV), .slice none (B.map sealAV)]) ∧ σ_ (N+1) = .box 29 (tagAV key) ∧ (u ≤ B.length) ∧ (openL key b (B.drop u) = R)) ⟨_, 0, rfl, WF, WF, WF, WC, WC⟩ ?_
 intro m_2 s_2 σ_2 n_2 hs_2 hf_2 hn_2 hI_2
 obtain ⟨u, hm_2, h2_17, e2_0, e2_1, hu, hd⟩ := hI_2
 have h2_2 := KS hs_2 2
 have h2_4 := KS hs_2 4
 have h2_15 := KS hs_2 15
 have h2_16 := KS hs_2 16
 have k2_0 := KE hf_2 (g)
 have hlow := KL (N := N) (σ := σ) hf_2
 clear haA
 by_cases hul : u = B.length
 ·subst hul
  rw [List.drop_length] at hd
  simp only [openL] at hd
  subst hd
  clear hR hm
  unfold soAV
  simp only [List.map_nil]
  exact WL
 ·have hu1 : u < B.length := by omega
  rw [List.drop_eq_getElem_cons hu1, openL] at hd
  have hmz := hm _ (List.getElem_mem hu1)
  obtain ⟨z, hz⟩ : ∃ z, B[u] = z := ⟨_, rfl⟩
  rw [hz] at hd hmz
  obtain ⟨zk, zn, zp, zb⟩ := z
  simp only at hd hmz
  have hzd : sealAV ⟨zk, zn, zp, zb⟩ = .agg [tagAV zk, .lit (.int .i64 zn), bAV zp, bAV zb] := rfl
  have hzb := bAV_def zp
  have hzb2 := bAV_def zb
  obtain ⟨hmz1, hmz2⟩ := hmz
  have c1 := Equal_spec zb b (by omega) (by omega)
  have c2 := Clone_spec zp (by omega)
  clear hR hm
  by_cases h1 : zk = key
  ·by_cases h3 : zb = b
   ·rw [if_pos ⟨h1, h3⟩] at hd
    subst hd
    rw [decide_eq_true h3] at c1
    have hcs := And.intro c1 (And.intro c2 True.intro)
    clear c1 c2
    subst h1
    subst h3
    unfold soAV
    simp only
    exact WL
   ·rw [if_neg (fun h => h3 h.2)] at hd
    rw [decide_eq_false h3] at c1
    have hcs := And.intro c1 True.intro
    clear c1 c2
    subst h1
    refine Wk ?_
    exact ⟨WS, WG, WN, _, (show B.length - (u + 1) < m_2 by omega), u + 1, rfl, WF, WF, WF, WC, WC⟩
  ·rw [if_neg (fun h => h1 h.1)] at hd
   have d1 : decide (zk = key) = false := decide_eq_false h1
   clear c1 c2
   refine Wk ?_
   exact ⟨WS, WG, WN, _, (show B.length - (u + 1) < m_2 by omega), u + 1, rfl, WF, WF, WF, WC, WC⟩
set_option maxHeartbeats 1000000 in
theorem pOpen_real (sd : Tg) (fs : Int) (L : List MacE) (B : List BoxE) (key : Tg) (b : List UInt8) (hb : b.length ≤ 100000) (g k : Nat) :
  ACall Tryz.prog 68 [algAV ⟨false, sd, fs, L, B⟩, tagAV key, .slice none (b.map byteAV)] k [(g, shaG)] (soAV (openS ⟨false, sd, fs, L, B⟩ key b)) [] := by
 unfold openS
 rw [if_neg (by simp)]
 have haA : algAV ⟨false, sd, fs, L, B⟩ = .agg [.lit (.bool false), tagAV sd, .lit (.int .i64 fs), .slice none (L.map macAV), .slice none (B.map sealAV)] := rfl
 unfold soAV
 by_cases h1 : b.length < 40
 ·rw [if_pos (.inl h1)]
  have h1i : (b.length : Int) < 40 := by omega
  simp only [List.map_nil]
  refine Bd Tryz.func68 Tryz.ntmps68 fun σ N hp hpn hk hkn hfree => ?_
  obtain ⟨hd, hdn⟩ := HD0 hp hpn; clear hp hpn
  exact WL
 have h1i : ¬ (b.length : Int) < 40 := by omega
 by_cases h2 : 296 < b.length
 ·rw [if_pos (.inr h2)]
  have h2i : (296 : Int) < (b.length : Int) := by omega
  simp only [List.map_nil]
  refine Bd Tryz.func68 Tryz.ntmps68 fun σ N hp hpn hk hkn hfree => ?_
  obtain ⟨hd, hdn⟩ := HD0 hp hpn; clear hp hpn
  exact WL
 have h2i : ¬ (296 : Int) < (b.length : Int) := by omega
 rw [if_neg (by omega)]
 have hn32 : ((b.length : Int) - 32).toNat = b.length - 32 := by omega
 have hn32i : (0 : Int) ≤ (b.length : Int) - 32 := by omega
 have hA1 : (b.map byteAV).take (b.length - 32) = (b.take (b.length - 32)).map byteAV := by rw [List.map_take]
 have hD1 : (b.map byteAV).drop (b.length - 32) = (b.drop (b.length - 32)).map byteAV := by rw [List.map_drop]
 have hD2 : ((b.take (b.length - 32)).map byteAV).drop 8 = ((b.take (b.length - 32)).drop 8).map byteAV := by rw [List.map_drop]
 have hl1 : (b.take (b.length - 32)).length = b.length - 32 := by rw [List.length_take]; omega
 have hl2 : (b.drop (b.length - 32)).length = 32 := by rw [List.length_drop]; omega
 have hL8 : (b.take 8).length = 8 := by rw [List.length_take]; omega
 have hT8 : (b.take (b.length - 32)).take 8 = b.take 8 := by rw [List.take_take, Nat.min_eq_left (by omega)]
 have hE8 := eight_be8 (b.take 8) hL8
 have c1 := bCheck_spec key (b.take (b.length - 32)) (by omega) g
 have c3 := bCrypt_spec key (be8 (b.take 8) : Int) ((b.take (b.length - 32)).drop 8) (by rw [List.length_drop]; omega) g
 rw [hE8] at c3
 have hD3 : ((b.take (b.length - 32)).map byteAV).take 8 = (b.take 8).map byteAV := by rw [← List.map_take, hT8]
 generalize hmacT key.1 ([98, 111, 120] ++ b.take (b.length - 32)) = T at *
 have c2 := hEqual_spec T.1 (b.drop (b.length - 32)) (by rw [T.2]; decide) (by omega)
 have ht1 := tagAV_sz T
 have ht2 := tagAV_cell T
 obtain ⟨T, hT⟩ := T
 have htA : tagAV ⟨T, hT⟩ = .agg (T.map byteAV) := rfl
 simp only [htA] at ht1 ht2 c1 c2 ⊢
 clear htA hE8 hT8
 have htk2 : (T.map byteAV).take 32 = T.map byteAV := List.take_of_length_le (by rw [List.length_map]; omega)
 generalize b.take 8 = N8 at *
 by_cases h3 : T = b.drop (b.length - 32)
 ·rw [if_pos h3]
  rw [decide_eq_true h3] at c2
  simp only
  generalize strmB key.1 (be8 N8 : Int) ((b.take (b.length - 32)).drop 8) = St at *
  clear h3
  generalize (b.take (b.length - 32)).drop 8 = Bq at *
  generalize b.drop (b.length - 32) = Dr at *
  generalize b.take (b.length - 32) = Tk at *
  have hTk : (Tk.map byteAV).take (b.length - 32) = Tk.map byteAV := List.take_of_length_le (by rw [List.length_map]; omega)
  refine Bd Tryz.func68 Tryz.ntmps68 fun σ N hp hpn hk hkn hfree => ?_
  obtain ⟨hd, hdn⟩ := HD0 hp hpn; clear hp hpn
  have hcs := And.intro c1 (And.intro c2 (And.intro c3 True.intro))
  clear c1 c2 c3
  exact WL
 ·rw [if_neg h3]
  rw [decide_eq_false h3] at c2
  simp only [List.map_nil]
  clear h3 c3
  generalize b.drop (b.length - 32) = Dr at *
  generalize b.take (b.length - 32) = Tk at *
  refine Bd Tryz.func68 Tryz.ntmps68 fun σ N hp hpn hk hkn hfree => ?_
  obtain ⟨hd, hdn⟩ := HD0 hp hpn; clear hp hpn
  have hcs := And.intro c1 (And.intro c2 True.intro)
  clear c1 c2
  exact WL
theorem pOpen_spec (a : Alg) (m : Nat) (ha : AlgIn a m) (hm : m ≤ 900000) (key : Tg) (b : List UInt8) (hb : b.length ≤ 100000) (g k : Nat) :
  ACall Tryz.prog 68 [algAV a, tagAV key, .slice none (b.map byteAV)] k [(g, shaG)] (soAV (openS a key b)) [] := by
 obtain ⟨fr, sd, fs, L, B⟩ := a
 cases fr with
 | true => exact pOpen_free sd fs L B key b (by have := ha.bl; simp only at this; omega) ha.bm hb g k
 | false => exact pOpen_real sd fs L B key b hb g k
end
end Go.Proofs.YtdmjpolnbmoehaaGreatDoor

namespace Go.Ab
open Go.RowKit
def LQP (W0 : World) (g : Ghost) (N : Nat) (D : List Deferred) (Q : AExit → Cfg → Prop) (QP : List PanicEntry → Cfg → Prop) : Exit → Act → World → Prop := fun e a w =>
 ∃ c g', g.le g' ∧ SimA W0 g' N c a w ∧ a.defers = D ∧ match e with
  | .normal => Q .normal c
  | .exit id => Q (.exit id) c
  | .ret => Q .ret c
  | .panic ch => QP ch c
  | _ => False
theorem LQP.mono {W0 : World} {g g' : Ghost} {N : Nat} {D D' : List Deferred} {Q : AExit → Cfg → Prop} {QP : List PanicEntry → Cfg → Prop} (hg : g.le g') (hD : D' = D) {e : Exit} {a : Act} {w : World} (h : LQP W0 g' N D' Q QP e a w) : LQP W0 g N D Q QP e a w :=
 let ⟨c, g'', hle, hs, hm, hq⟩ := h
 ⟨c, g'', hg.trans hle, hs, hm.trans hD, hq⟩
def awP (P : Program) (N : Nat) (b : Code) (Q : AExit → Cfg → Prop) (QP : List PanicEntry → Cfg → Prop) (c : Cfg) : Prop :=
 codeOK N b = true → P.follows .mixedOrders = true → ∀ W0 g a w, SimA W0 g N c a w → b.wpIn (wideAt none) 0 P (LQP W0 g N a.defers Q QP) a w
section
variable {P : Program} {N : Nat} {Q : AExit → Cfg → Prop} {QP : List PanicEntry → Cfg → Prop} {c : Cfg}
theorem goP_skip (h : Q .normal c) : awP P N .skip Q QP c := fun _ _ _ g _ _ hS => wpIn_skip ⟨c, g, g.le_refl, hS, rfl, h⟩
theorem goP_ret (h : Q .ret c) : awP P N .ret Q QP c := fun _ _ _ g _ _ hS => wpIn_ret ⟨c, g, g.le_refl, hS, rfl, h⟩
theorem goP_seq {x y : Code} (h : awP P N x (aThen (awP P N y Q QP) Q) QP c) : awP P N (.seq x y) Q QP c := fun hok hmix W0 g a w hS => by
 simp only [codeOK, Bool.and_eq_true] at hok
 refine wpIn_seq (wpIn_mono (h hok.1 hmix W0 g a w hS) fun e a' w' hq => ?_)
 obtain ⟨c', g', hle, hS', hM, hq⟩ := hq
 cases e with
 | normal => exact wpIn_mono (hq hok.2 hmix W0 g' a' w' hS') fun e a w hq => hq.mono hle hM
 | exit id => exact ⟨c', g', hle, hS', hM, hq⟩
 | ret => exact ⟨c', g', hle, hS', hM, hq⟩
 | panic => exact ⟨c', g', hle, hS', hM, hq⟩
 | goto => exact hq.elim
 | outgrown => exact hq.elim
theorem goP_condT {x : Operand} {y z : Code} (hv : aeval c.s x = .lit (.bool true)) (h : awP P N y Q QP c) : awP P N (.cond x y z) Q QP c := fun hok hmix W0 g a w hS => by
 simp only [codeOK, Bool.and_eq_true] at hok
 have hr := hS.eval hok.1.1
 rw [hv] at hr
 exact wpIn_cond_split (rep_lit_inv hr) (fun _ => h hok.1.2 hmix W0 g a w hS) (fun hb' => by cases hb')
theorem goP_condF {x : Operand} {y z : Code} (hv : aeval c.s x = .lit (.bool false)) (h : awP P N z Q QP c) : awP P N (.cond x y z) Q QP c := fun hok hmix W0 g a w hS => by
 simp only [codeOK, Bool.and_eq_true] at hok
 have hr := hS.eval hok.1.1
 rw [hv] at hr
 exact wpIn_cond_split (rep_lit_inv hr) (fun hb' => by cases hb') (fun _ => h hok.2 hmix W0 g a w hS)
theorem goP_block {id : Nat} {b : Code} (h : awP P N b (aBlk id Q) QP c) : awP P N (.block id b) Q QP c := fun hok hmix W0 g a w hS => by
 refine wpIn_block (wpIn_mono (h hok hmix W0 g a w hS) fun e a' w' hq => ?_)
 obtain ⟨c', g', hle, hS', hM, hq⟩ := hq
 cases e with
 | normal => exact ⟨c', g', hle, hS', hM, hq⟩
 | exit id' =>
  simp only [aBlk] at hq
  simp only [Exit.inBlock]
  split at hq
  ·rename_i he; rw [if_pos he]; exact ⟨c', g', hle, hS', hM, hq⟩
  ·rename_i he; rw [if_neg he]; exact ⟨c', g', hle, hS', hM, hq⟩
 | ret => exact ⟨c', g', hle, hS', hM, hq⟩
 | panic => exact ⟨c', g', hle, hS', hM, hq⟩
 | goto => exact hq.elim
 | outgrown => exact hq.elim
theorem goP_scope {b : Code} (h : awP P N b Q QP c) : awP P N (.scope b) Q QP c := fun hok hmix W0 g a w hS => by
 refine wpIn_scope_straight (wpIn_mono (h hok hmix W0 g a w hS) fun e a' w' hq => ?_)
 obtain ⟨c', g', hle, hS', hM, hq⟩ := hq
 cases e with
 | normal => exact ⟨c', g', hle, hS', hM, hq⟩
 | exit id => exact ⟨c', g', hle, hS', hM, hq⟩
 | ret => exact ⟨c', g', hle, hS', hM, hq⟩
 | panic => exact ⟨c', g', hle, hS', hM, hq⟩
 | goto => exact hq.elim
 | outgrown => exact hq.elim
theorem goP_region {id : Nat} {l : List Oper} {draw : Bool} {s : Slots} {σ : Nat → Ent} {n n' : Nat} (hn : n + l.length = n') (h : aops P l.toArray n l 0 [] (kReg l.toArray draw Q) ⟨s, σ, n'⟩) : awP P N (.region id l.toArray draw) Q QP ⟨s, σ, n⟩ := fun hok hmix W0 g a w hS => by
 subst hn
 simp only [codeOK, Bool.and_eq_true, Bool.or_eq_true, Bool.not_eq_true'] at hok
 exact wp_region_ab hmix hok.1 (fun hd => hok.2.resolve_left (by simp [hd])) hS h fun c g' a w hg hs hd hq => ⟨c, g', hg, hs, hd, hq⟩
theorem region_rest {l1 l2 : List Oper} {s : Slots} {σ : Nat → Ent} {n n' : Nat} {K : Cfg → Prop} (hn : n + (l1 ++ l2).length = n') (h : aops P (l1 ++ l2).toArray n l1 0 [] (fun c' _ => K c') ⟨s, σ, n'⟩)
  {W0 : World} {g : Ghost} {a : Act} {w : World} {Q' : Exit → Act → World → Prop} (hN : shapeOK N (l1 ++ l2).toArray = true) (hS : SimA W0 g N ⟨s, σ, n⟩ a w) {id : Nat}
  (hK : ∀ c' g' a' w', g.le g' → SimA W0 g' N c' a' w' → a'.defers = a.defers → n + (l1 ++ l2).length ≤ c'.n → (∀ j, l1.length ≤ j → j < (l1 ++ l2).length → c'.σ (n + j) = .none) → K c' → wpOpsIn (wideAt none) 0 P (l1 ++ l2).toArray Q' (List.range' l1.length l2.length) a' w') :
  (Code.region id (l1 ++ l2).toArray false).wpIn (wideAt none) 0 P Q' a w := by
 subst hn
 obtain ⟨outs, hl, hr⟩ := aops_lex _ _ _ _ h
 have hlex := hr (fun j => outs.getD j default) fun j _ => by simp
 have hS' : SimA W0 g N ⟨s, σ, n + (l1 ++ l2).length⟩ a w := ⟨hS.sim.more (Nat.le_add_right _ _), hS.size, hS.slots⟩
 have hfree : ∀ j, σ (n + j) = .none := fun j => hS.sim.bound _ (Nat.le_add_right _ _)
 refine wpIn_region ?_
 have key := lexA_prefix (ro := none) (m := n) (P := P) (ops := (l1 ++ l2).toArray) (out := fun j => outs.getD j default) (Q := K) (Q' := Q') (W0 := W0) (tl := List.range' l1.length l2.length) g hN l1.length
  (fun c g' a w hg hs hd hn hf hq => hK c g' a w hg hs hd (by simpa using hn) (fun j h1 h2 => hf j h1 (by simpa using h2)) hq) l1 0 ⟨s, σ, n + (l1 ++ l2).length⟩ g a w
  (fun j hj => by simp [List.getElem?_append_left hj]) (Nat.zero_add _) (by simp) g.le_refl hS' rfl (by simp) (fun j _ _ => hfree j) hlex
 have hrg : List.range (l1 ++ l2).toArray.size = List.range' 0 l1.length ++ List.range' l1.length l2.length := by
  have h1 := List.range'_append_1 (s := 0) (m := l1.length) (n := l2.length)
  rw [Nat.zero_add] at h1
  rw [List.range_eq_range', show (l1 ++ l2).toArray.size = l1.length + l2.length by simp, h1]
 rw [hrg]
 exact key
theorem goP_panic {id : Nat} {l1 l2 : List Oper} {s : Slots} {σ : Nat → Ent} {n n' : Nat} {x : Operand} {ty : TypeId} {pos : String} {after : Array Edge} {d : Option Tmp} {T : TypeId}
  (hn : n + (l1 ++ (⟨d, .panic x, ty, pos, after, none⟩ : Oper) :: l2).length = n')
  (h : aops P (l1 ++ (⟨d, .panic x, ty, pos, after, none⟩ : Oper) :: l2).toArray n l1 0 [] (fun c' _ => aeval c'.s x = .iface T (.agg []) ∧ QP [{ v := .iface T (.agg #[]), recovered := false }] c') ⟨s, σ, n'⟩) :
  awP P N (.region id (l1 ++ (⟨d, .panic x, ty, pos, after, none⟩ : Oper) :: l2).toArray false) Q QP ⟨s, σ, n⟩ := fun hok hmix W0 g a w hS => by
 simp only [codeOK, Bool.and_eq_true, Bool.or_eq_true, Bool.not_eq_true'] at hok
 refine region_rest hn h hok.1 hS fun c' g' a' w' hle hS' hd hn' hf hK => ?_
 simp only [List.length_cons]
 rw [List.range'_succ, wpOpsIn_cons]
 have h0 : (l1 ++ (⟨d, .panic x, ty, pos, after, none⟩ : Oper) :: l2).toArray[l1.length]? = some ⟨d, .panic x, ty, pos, after, none⟩ := by simp
 obtain ⟨hop, hdst⟩ := shapeOK_at hok.1 h0
 have hr := hS'.eval (hop x (by simp [Op.operands]))
 rw [hK.1] at hr
 generalize hv : a'.eval x = v at hr
 cases hr with
 | iface _ _ v0 hv0 =>
  cases hv0 with
  | agg _ vs hl _ =>
   have hvs : vs = [] := by simpa using hl
   subst hvs
   unfold wpOpIn
   simp only [h0]
   rw [if_pos (by simp [Region.wanted])]
   refine ⟨fun _ _ => trivial, ?_⟩
   rw [Oper.semAt_none]
   have hrun : (execOp a'.eval (⟨d, .panic x, ty, pos, after, none⟩ : Oper)).run P w' = .halt (.panic (.iface T (.agg (flat []).toArray))) w' := by
    simp only [execOp, hv, Sem.run_bind]
    rfl
   rw [hrun]
   exact ⟨c', g', hle, hS', hd, hK.2⟩
def APanic (P : Program) (f : FuncId) (args : List AV) (k : Nat) (ch : List PanicEntry) : Prop :=
 callable P f = true ∧ ∀ (W0 : World) (g : Ghost) (σ : Nat → Ent) (n : Nat) (w : World) (vals : List Value), Sim W0 g σ n w → vals.length = args.length → (∀ (i : Nat) (x : AV) (v : Value), args[i]? = some x → vals[i]? = some v → Rep g x v) →
  σ k = .none → k < n → Calls P f vals.toArray w fun e w' => e = .panicked ch ∧ ∃ g', g.le g' ∧ Sim W0 g' σ n w'
theorem goP_callPanic {id : Nat} {l1 l2 : List Oper} {s : Slots} {σ : Nat → Ent} {n n' : Nat} {x : Operand} {ty : TypeId} {pos : String} {after : Array Edge} {d : Option Tmp} {args : Array Operand} {ts : Array TypeId} {ch : List PanicEntry}
  (hn : n + (l1 ++ (⟨d, .call { callee := .value x, args := args, argTypes := ts }, ty, pos, after, none⟩ : Oper) :: l2).length = n')
  (h : aops P (l1 ++ (⟨d, .call { callee := .value x, args := args, argTypes := ts }, ty, pos, after, none⟩ : Oper) :: l2).toArray n l1 0 [] (fun c' _ => (∃ f caps, aeval c'.s x = .fn f caps ∧ APanic P f (args.toList.map (aeval c'.s) ++ caps) (n + l1.length) ch) ∧ QP ch c') ⟨s, σ, n'⟩) :
  awP P N (.region id (l1 ++ (⟨d, .call { callee := .value x, args := args, argTypes := ts }, ty, pos, after, none⟩ : Oper) :: l2).toArray false) Q QP ⟨s, σ, n⟩ := fun hok hmix W0 g a w hS => by
 simp only [codeOK, Bool.and_eq_true, Bool.or_eq_true, Bool.not_eq_true'] at hok
 refine region_rest hn h hok.1 hS fun c' g' a' w' hle hS' hd hn' hf hK => ?_
 simp only [List.length_cons]
 rw [List.range'_succ, wpOpsIn_cons]
 have h0 : (l1 ++ (⟨d, .call { callee := .value x, args := args, argTypes := ts }, ty, pos, after, none⟩ : Oper) :: l2).toArray[l1.length]? = some ⟨d, .call { callee := .value x, args := args, argTypes := ts }, ty, pos, after, none⟩ := by simp
 obtain ⟨hop, hdst⟩ := shapeOK_at hok.1 h0
 obtain ⟨⟨f, caps, hx, hc, hrun⟩, hQ⟩ := hK
 have hr := hS'.eval (hop x (by simp [Op.operands, Call.operands]))
 have h2 : ∀ y ∈ args, Rep g' (aeval c'.s y) (a'.eval y) := fun y hy => hS'.eval (hop y (by simp [Op.operands, Call.operands, hy]))
 rw [hx] at hr
 generalize hv : a'.eval x = v at hr
 cases hr with
 | fn _ _ vs hvl hvr =>
  have hexec : (execOp a'.eval (⟨d, .call { callee := .value x, args := args, argTypes := ts }, ty, pos, after, none⟩ : Oper)).run P w' = .ok (.enter f ((args.toList.map a'.eval ++ vs).toArray)) w' := by
   simp only [execOp, resolve, hv, Deferred.ofValue, Sem.run_bind, Sem.run_pure, Result.andThen_ok, invoke]
   rw [run_callFunc hc]
   congr 2
   simp [← Array.toList_map]
  unfold wpOpIn
  simp only [h0]
  rw [if_pos (by simp [Region.wanted])]
  refine ⟨fun _ _ => trivial, ?_⟩
  rw [Oper.semAt_none, hexec]
  have hfr := hf l1.length (Nat.le_refl _) (by simp)
  have hcalls := hrun W0 g' c'.σ c'.n w' (args.toList.map a'.eval ++ vs) hS'.sim (by simp [hvl]) (fun i y u hy hu => by
   by_cases hi : i < args.toList.length
   ·rw [List.getElem?_append_left (by simpa using hi), List.getElem?_map] at hy hu
    cases hz : args.toList[i]? with
    | none => rw [hz] at hy; cases hy
    | some z =>
     rw [hz] at hy hu
     cases hy; cases hu
     exact h2 z (by have := List.mem_of_getElem? hz; simpa using this)
   ·rw [List.getElem?_append_right (by simpa using hi)] at hy hu
    simp only [List.length_map] at hy hu
    exact hvr _ y u hy hu) hfr (by simp at hn'; omega)
  have h' : CallsIn (wideAt none) (0 - 1) P _ _ w' _ := callsIn_wide.2 hcalls
  refine ⟨fun hd => (by cases hd), h'.mono fun e w'' ⟨he, g'', hle', hS''⟩ => ?_⟩
  subst he
  exact ⟨c', g'', hle.trans hle', ⟨hS'', hS'.size, fun t => (hS'.slots t).mono hle'⟩, hd, hQ⟩
end
theorem SimA.init {W0 : World} {g : Ghost} {σ : Nat → Ent} {n : Nat} {w : World} {args : List AV} {vals : List Value} {N : Nat} (hS : Sim W0 g σ n w) (hl : vals.length = args.length) (hv : ∀ (i : Nat) (x : AV) (v : Value), args[i]? = some x → vals[i]? = some v → Rep g x v) (hargs : args.length ≤ N) :
  SimA W0 g N ⟨initS args, σ, n⟩ { tmps := vals.toArray ++ Array.replicate (N - vals.toArray.size) undef, defers := [] } w := by
 refine ⟨hS, by simp; omega, fun t => ?_⟩
 show Rep g (args.getD t (.tup [])) ((vals.toArray ++ Array.replicate (N - vals.toArray.size) undef).getD t undef)
 by_cases ht : t < args.length
 ·have ht' : t < vals.length := by omega
  have := hv t args[t] vals[t] (List.getElem?_eq_getElem ht) (List.getElem?_eq_getElem ht')
  have e1 : args.getD t (.tup []) = args[t] := by simp [List.getD, List.getElem?_eq_getElem ht]
  have e2 : (vals.toArray ++ Array.replicate (N - vals.toArray.size) undef).getD t undef = vals[t] := by simp [Array.getElem?_append, ht']
  rw [e1, e2]; exact this
 ·have e1 : args.getD t (.tup []) = .tup [] := by simp [List.getD, List.getElem?_eq_none (Nat.not_lt.1 ht)]
  have e2 : (vals.toArray ++ Array.replicate (N - vals.toArray.size) undef).getD t undef = undef := by
   rw [Array.getD_eq_getD_getElem?, Array.getElem?_append]
   rw [if_neg (by simp; omega), Array.getElem?_replicate]
   split <;> rfl
  rw [e1, e2]
  exact .tup [] [] rfl fun i x v h _ => by simp at h
theorem APanic.of_body {P : Program} {f : FuncId} {fn : Func} {body : Code} {args : List AV} {k : Nat} {ch : List PanicEntry} (hmix : P.follows .mixedOrders = true) (hf : P.funcs[f]? = some fn) (hb : fn.body = some body)
  (hname : (fn.name == "runtime.NumGoroutine") = false) {N : Nat} (hN : fn.ntmps = N) (hok : codeOK N body = true) (hargs : args.length ≤ N)
  (h : ∀ (σ : Nat → Ent) (n : Nat), σ k = .none → k < n → (∀ id, n ≤ id → σ id = .none) → awP P N body (fun _ _ => False) (fun ch' c' => ch' = ch ∧ ∀ id, id < n → c'.σ id = σ id) ⟨initS args, σ, n⟩) : APanic P f args k ch := by
 refine ⟨by simp [callable, hf, hb, hname], fun W0 g σ n w vals hS hl hv hk hkn => ?_⟩
 subst hN
 refine callsIn_wide.1 (callsIn_of_wp_marks (n := 0) hf hb trivial (wpIn_mono (h σ n hk hkn hS.bound hok hmix W0 g _ w (SimA.init hS hl hv hargs)) fun e a' w' hq => ?_))
 obtain ⟨c', g', hle, hS', hD, hq⟩ := hq
 cases e with
 | panic ch' =>
  obtain ⟨rfl, h3⟩ := hq
  obtain ⟨g2, hle2, hS2, _⟩ := hS.leave hS'.sim hle hk hkn (ws := []) (post := []) (fresh := none) h3 (fun q hq => by cases hq) rfl
  show LeavesInM Fence.wide 0 P fn a'.tmps _ a'.defers (.panicking ch') w'
  rw [hD]
  exact ⟨rfl, g2, hle2, hS2⟩
 | normal => exact hq.elim
 | ret => exact hq.elim
 | exit id => exact hq.elim
 | goto => exact hq.elim
 | outgrown => exact hq.elim
theorem ARet.of {P : Program} {rs : List ResultVar} {k : Nat} {σ0 : Nat → Ent} {n0 : Nat} {pre : Foot} {r : AV} {post : Foot} {c : Cfg} (h : aRet P rs k σ0 n0 pre r post .ret c) : ARet P rs k σ0 n0 pre r post c := h
def ADef (P : Program) (f : FuncId) (caps : List AV) (u u2 : FrameMode) (pre post : Foot) : Prop :=
 callable P f = true ∧ ∀ (W0 : World) (g : Ghost) (σ : Nat → Ent) (n : Nat) (w : World) (vals : List Value), Sim W0 g σ n w → vals.length = caps.length → (∀ (i : Nat) (x : AV) (v : Value), caps[i]? = some x → vals[i]? = some v → Rep g x v) → (∀ p ∈ pre, σ p.1 = p.2) →
  CallsDIn Fence.wide 0 P f vals.toArray u w fun e u' w' => ∃ v, e = .returned v ∧ u' = u2 ∧ ∃ (g' : Ghost) (σ' : Nat → Ent) (n' : Nat), g.le g' ∧ Sim W0 g' σ' n' w' ∧ ∀ id, id < n → σ' id = wr σ post id
theorem ADef.of_recover {P : Program} {f : FuncId} {fn : Func} {idr : Nat} {t : Tmp} {rest : Code} {caps : List AV} {u u2 : FrameMode} {pre post : Foot} {ty : TypeId} {pos : String} {after : Array Edge} {ts : Array TypeId} (rv : AV)
  (hmix : P.follows .mixedOrders = true) (hf : P.funcs[f]? = some fn) (hb : fn.body = some (.seq (.region idr #[(⟨some t, .call { callee := .builtin .recover, args := #[], argTypes := ts }, ty, pos, after, none⟩ : Oper)] false) rest))
  (hname : (fn.name == "runtime.NumGoroutine") = false) {N : Nat} (hN : fn.ntmps = N) (hok1 : codeOK N rest = true) (ht : t < N) (hrs : fn.results = #[]) (hargs : caps.length ≤ N) (hpre : ∀ p ∈ pre, p.2 ≠ .none)
  (hrec : (u = .returning ∧ u2 = .returning ∧ rv = .lit .nilIface) ∨ ∃ T, u = .panicking [{ v := .iface T (.agg #[]), recovered := false }] ∧ u2 = .panicking [{ v := .iface T (.agg #[]), recovered := true }] ∧ rv = .iface T (.agg []))
  (h : ∀ (σ : Nat → Ent) (n : Nat), (∀ p ∈ pre, σ p.1 = p.2) → (∀ p ∈ pre, p.1 < n) → (∀ id, n ≤ id → σ id = .none) → awP P N rest (fun e c => (match e with | .exit _ => False | _ => True) ∧ ∀ id, id < n → c.σ id = wr σ post id) (fun _ _ => False) ⟨upd (initS caps) t rv, σ, n⟩) : ADef P f caps u u2 pre post := by
 refine ⟨by simp [callable, hf, hb, hname], fun W0 g σ n w vals hS hl hv hp => ?_⟩
 subst hN
 have hpn : ∀ p ∈ pre, p.1 < n := fun p hpm => by
  rcases Nat.lt_or_ge p.1 n with h' | h'
  ·exact h'
  ·exact absurd ((hp p hpm).symm.trans (hS.bound p.1 h')) (hpre p hpm)
 have h := h σ n hp hpn hS.bound
 have hSA := SimA.init hS hl hv hargs
 refine callsDIn_of_wpSIn hf hb trivial fun c₀ cs hu => ?_
 generalize ha0 : ({ tmps := vals.toArray ++ Array.replicate (fn.ntmps - vals.toArray.size) undef, defers := [] } : Act) = a0 at *
 have hd0 : a0.defers = [] := by rw [← ha0]
 have go : ∀ (v : Value) (u' : FrameMode), Rep g rv v → rest.wpSIn Fence.wide 0 P (bodyPostS P fn c₀ cs fun e u' w' => ∃ v, e = .returned v ∧ u' = u2 ∧ ∃ (g' : Ghost) (σ' : Nat → Ent) (n' : Nat), g.le g' ∧ Sim W0 g' σ' n' w' ∧ ∀ id, id < n → σ' id = wr σ post id) (a0.put (some t) v) ({ c₀ with mode := u2 } :: cs) w := by
  intro v u' hrv
  refine wpSIn_of_wpIn rfl ?_
  have hSA1 : SimA W0 g fn.ntmps ⟨upd (initS caps) t rv, σ, n⟩ (a0.put (some t) v) w := ⟨hS, by rw [put_size]; exact hSA.size, putA_rep (s := initS caps) (d := some t) hSA.slots hSA.size (fun _ h => by cases h; exact ht) hrv⟩
  refine wpIn_mono (h hok1 hmix W0 g _ w hSA1) fun e a' w' hq => ?_
  obtain ⟨c', g', hle, hS', hD, hq⟩ := hq
  have hfin : (∀ id, id < n → c'.σ id = wr σ post id) → a'.defers = [] ∧ ∃ u', ({ c₀ with mode := u2 } :: cs : List Frame) = { c₀ with mode := u' } :: cs ∧ ∃ v, (results fn a'.tmps).run P w' = .ok v w' ∧ (∃ v', Ending.returned v = .returned v' ∧ u' = u2 ∧ ∃ (g' : Ghost) (σ' : Nat → Ent) (n' : Nat), g.le g' ∧ Sim W0 g' σ' n' w' ∧ ∀ id, id < n → σ' id = wr σ post id) := fun hag =>
   ⟨by rw [hD, put_defers, hd0], u2, rfl, .tuple #[], by rw [results_eq, hrs]; simp [Sem.run_pure], _, rfl, rfl, g', c'.σ, c'.n, hle, hS'.sim, hag⟩
  cases e with
  | normal => exact hfin hq.2
  | ret => exact hfin hq.2
  | exit id => exact hq.1.elim
  | goto => exact hq.elim
  | panic => exact hq.elim
  | outgrown => exact hq.elim
 refine wpSIn_seq (wpSIn_region ?_)
 have hrun : (execOp a0.eval (⟨some t, .call { callee := .builtin .recover, args := #[], argTypes := ts }, ty, pos, after, none⟩ : Oper)).run P w = .ok .recover w := by
  first | rfl | simp [execOp, resolve, Sem.run_bind, Sem.run_pure, Result.andThen] | simp [execOp, go_sem]
 show wpOpsSIn Fence.wide 0 P _ _ [0] a0 (c₀ :: cs) w
 simp only [wpOpsSIn]
 refine ⟨fun _ _ => trivial, ?_⟩
 rw [if_pos (by simp [Region.wanted])]
 have hrun' : (execOp a0.eval #[(⟨some t, .call { callee := .builtin .recover, args := #[], argTypes := ts }, ty, pos, after, none⟩ : Oper)][0]).run P w = .ok .recover w := hrun
 rw [hrun']
 rcases hrec with ⟨rfl, rfl, rfl⟩ | ⟨T, rfl, rfl, rfl⟩
 ·have hc : ({ c₀ with mode := FrameMode.returning } : Frame) = c₀ := by cases c₀; simp only at hu; subst hu; rfl
  have hrc : recoverD (c₀ :: cs) = none := by simp only [recoverD, hu]
  simp only [hrc]
  have key := go .nilIface .returning (.lit _ rfl)
  rw [hc] at key
  exact key
 ·have hrc : recoverD (c₀ :: cs) = some (.iface T (.agg #[]), { c₀ with mode := .panicking [{ v := .iface T (.agg #[]), recovered := true }] } :: cs) := by simp only [recoverD, hu]
  simp only [hrc]
  exact go (.iface T (.agg #[])) .returning (.iface T _ _ (.agg [] [] rfl fun i x v h _ => by simp at h))
theorem ACall.of_bodyD {P : Program} {f : FuncId} {fn : Func} {r0 rest : Code} {idr : Nat} {l : List Oper} {args : List AV} {k : Nat} {pre post : Foot} {r : AV} {x : Operand} {ty : TypeId} {pos : String} {after : Array Edge}
  (hmix : P.follows .mixedOrders = true) (hf : P.funcs[f]? = some fn) (hb : fn.body = some (.seq r0 (.seq (.region idr (l ++ [(⟨none, .defer { callee := .value x, args := #[], argTypes := #[] }, ty, pos, after, none⟩ : Oper)]).toArray false) rest)))
  (hname : (fn.name == "runtime.NumGoroutine") = false) {N : Nat} (hN : fn.ntmps = N) (hok0 : codeOK N r0 = true) (hsh : shapeOK N (l ++ [(⟨none, .defer { callee := .value x, args := #[], argTypes := #[] }, ty, pos, after, none⟩ : Oper)]).toArray = true) (hx0 : opndOK x = true) (hok1 : codeOK N rest = true) {rs : List ResultVar} (hrs : fn.results.toList = rs) (hargs : args.length ≤ N) (hpre : ∀ p ∈ pre, p.2 ≠ .none) (hpost : ∀ q ∈ post, q.1 = k ∨ ∃ p ∈ pre, p.1 = q.1)
  (h : ∀ (σ : Nat → Ent) (n : Nat), (∀ p ∈ pre, σ p.1 = p.2) → (∀ p ∈ pre, p.1 < n) → σ k = .none → k < n → (∀ id, n ≤ id → σ id = .none) →
   awP P N r0 (fun e c => e = .normal ∧ aops P (l ++ [(⟨none, .defer { callee := .value x, args := #[], argTypes := #[] }, ty, pos, after, none⟩ : Oper)]).toArray c.n l 0 [] (fun c1 _ => ∃ fd caps, aeval c1.s x = .fn fd caps ∧
    awP P N rest (fun e c2 => e = .ret ∧ (∃ pr, (∀ p ∈ pr, c2.σ p.1 = p.2) ∧ ADef P fd caps .returning .returning pr []) ∧ ∀ σ' n', (∀ id, id < c2.n → σ' id = c2.σ id) → ARet P rs k σ n pre r post ⟨c2.s, σ', n'⟩)
     (fun ch c2 => ∃ ch2 pr po, (∀ p ∈ pr, c2.σ p.1 = p.2) ∧ settle (.panicking ch2) = .returning ∧ ADef P fd caps (.panicking ch) (.panicking ch2) pr po ∧ ∀ σ' n', (∀ id, id < c2.n → σ' id = wr c2.σ po id) → ARet P rs k σ n pre r post ⟨c2.s, σ', n'⟩) c1) ⟨c.s, c.σ, c.n + (l.length + 1)⟩) (fun _ _ => False) ⟨initS args, σ, n⟩) :
  ACall P f args k pre r post := by
 refine ⟨by simp [callable, hf, hb, hname], hpre, hpost, fun W0 g σ n w vals hS hl hv hk hkn hp => ?_⟩
 have hpn : ∀ p ∈ pre, p.1 < n := fun p hpm => by
  rcases Nat.lt_or_ge p.1 n with h' | h'
  ·exact h'
  ·exact absurd ((hp p hpm).symm.trans (hS.bound p.1 h')) (hpre p hpm)
 have h := h σ n hp hpn hk hkn hS.bound
 subst hN
 have fin : ∀ (c2 : Cfg) (g2 : Ghost) (a2 : Act) (w2 : World), g.le g2 → SimA W0 g2 fn.ntmps c2 a2 w2 → ARet P rs k σ n pre r post c2 →
   ∃ v, (results fn a2.tmps).run P w2 = .ok v w2 ∧ ∃ u, Ending.returned v = .returned u ∧ ∃ g', g.le g' ∧ Sim W0 g' (wr σ post) n w2 ∧ Rep g' r u := by
  intro c2 g2 a2 w2 hle hS2 hA
  obtain ⟨r0', r', ws, fresh, h1, hrle, h2, h3, h4, h5⟩ := hA
  have hws : ∀ q ∈ ws, σ q.1 ≠ .none := fun q hq => by obtain ⟨p, hp1, hp2⟩ := h4 q hq; rw [← hp2, hp p hp1]; exact hpre p hp1
  obtain ⟨g3, hle3, hS3, hrep, _⟩ := hS.leave hS2.sim hle hk hkn h3 hws (post := post) (fresh := fresh) (by
   cases fresh with
   | none => exact h5
   | some r0 => exact ⟨h5.1, h5.2.1⟩)
  obtain ⟨u, hu, hrun⟩ := aresults_sound (fn := fn) hS2 (w2 := w2) (fun _ _ _ _ => rfl) (by rw [hrs]; exact h1)
  exact ⟨u, hrun, u, rfl, g3, hle3, hS3, by rw [h2]; exact hrep _ _ (hrle _ _ hu)⟩
 refine callsIn_wide.1 (callsIn_of_wp_marks (n := 0) hf hb trivial ?_)
 refine wpIn_seq (wpIn_mono (h hok0 hmix W0 g _ w (SimA.init hS hl hv hargs)) fun e a1 w1 hq => ?_)
 obtain ⟨c, g1, hle1, hS1, hD1, hq⟩ := hq
 have hnorm : ∀ {e' : AExit}, (e' = AExit.normal ∧ aops P (l ++ [(⟨none, .defer { callee := .value x, args := #[], argTypes := #[] }, ty, pos, after, none⟩ : Oper)]).toArray c.n l 0 [] (fun c1 _ => ∃ fd caps, aeval c1.s x = .fn fd caps ∧
       awP P fn.ntmps rest (fun e c2 => e = .ret ∧ (∃ pr, (∀ p ∈ pr, c2.σ p.1 = p.2) ∧ ADef P fd caps .returning .returning pr []) ∧ ∀ σ' n', (∀ id, id < c2.n → σ' id = c2.σ id) → ARet P rs k σ n pre r post ⟨c2.s, σ', n'⟩)
         (fun ch c2 => ∃ ch2 pr po, (∀ p ∈ pr, c2.σ p.1 = p.2) ∧ settle (.panicking ch2) = .returning ∧ ADef P fd caps (.panicking ch) (.panicking ch2) pr po ∧ ∀ σ' n', (∀ id, id < c2.n → σ' id = wr c2.σ po id) → ARet P rs k σ n pre r post ⟨c2.s, σ', n'⟩) c1) ⟨c.s, c.σ, c.n + (l.length + 1)⟩) → e' ≠ .normal → False := fun h he => he h.1
 cases e with
 | normal =>
  obtain ⟨_, hops⟩ := hq
  show (Code.seq _ _).wpIn _ _ _ _ _ _
  refine wpIn_seq ?_
  obtain ⟨cs, cσ, cn⟩ := c
  refine region_rest (n := cn) (K := fun c1 => ∃ fd caps, aeval c1.s x = .fn fd caps ∧ _) (by simp) hops hsh hS1 fun c1 g2 a2 w2 hle2 hS2 hD2 hn2 hf2 hK => ?_
  obtain ⟨fd, caps, hx, hrest⟩ := hK
  rw [List.length_singleton, List.range'_one, wpOpsIn_cons]
  have h0 : (l ++ [(⟨none, .defer { callee := .value x, args := #[], argTypes := #[] }, ty, pos, after, none⟩ : Oper)]).toArray[l.length]? = some ⟨none, .defer { callee := .value x, args := #[], argTypes := #[] }, ty, pos, after, none⟩ := by simp
  have hr := hS2.eval hx0
  rw [hx] at hr
  generalize hvx : a2.eval x = vx at hr
  cases hr with
  | fn _ _ vs hvl hvr =>
   unfold wpOpIn
   simp only [h0]
   rw [if_pos (by simp [Region.wanted])]
   refine ⟨fun _ _ => trivial, ?_⟩
   rw [Oper.semAt_none]
   have hexec : (execOp a2.eval (⟨none, .defer { callee := .value x, args := #[], argTypes := #[] }, ty, pos, after, none⟩ : Oper)).run P w2 = .ok (.defer { target := .fn (.func fd) vs.toArray, args := #[] }) w2 := by
    simp [execOp, resolve, hvx, Deferred.ofValue, Sem.run_pure]
   rw [hexec, Oper.uponIn_defer]
   show Exit.then _ _ .normal _ _
   have hput : (({ a2 with defers := { target := .fn (.func fd) vs.toArray, args := #[] } :: a2.defers } : Act).put none undef) = { a2 with defers := { target := .fn (.func fd) vs.toArray, args := #[] } :: a2.defers } := rfl
   rw [hput]
   have hdef : a2.defers = [] := hD2.trans hD1
   have hS2' : SimA W0 g2 fn.ntmps c1 { a2 with defers := { target := .fn (.func fd) vs.toArray, args := #[] } :: a2.defers } w2 := ⟨hS2.sim, hS2.size, hS2.slots⟩
   refine wpIn_mono (hrest hok1 hmix W0 g2 _ w2 hS2') fun e a3 w3 hq3 => ?_
   obtain ⟨c2, g3, hle3, hS3, hD3, hq3⟩ := hq3
   have hD4 : a3.defers = [{ target := .fn (.func fd) vs.toArray, args := #[] }] := by rw [hD3, hdef]
   have hle : g.le g3 := (hle1.trans hle2).trans hle3
   have hcaps : ∀ (i : Nat) (y : AV) (u : Value), caps[i]? = some y → vs[i]? = some u → Rep g3 y u := fun i y u hy hu => (hvr i y u hy hu).mono hle3
   have hinv : callable P fd = true → (invoke (.fn (.func fd) vs.toArray) #[]).run P w3 = .ok (.enter fd vs.toArray) w3 := fun hc => by
    simp only [invoke]
    rw [run_callFunc hc]
    simp
   cases e with
   | ret =>
    obtain ⟨_, ⟨pr, hpr, hc, hdf⟩, hA⟩ := hq3
    show LeavesInM Fence.wide 0 P fn a3.tmps _ a3.defers .returning w3
    rw [hD4]
    refine ⟨by simp, .inr ⟨fun hd => (by cases hd), _, _, fd, vs.toArray, rfl, hinv hc, fun _ _ => trivial, ?_⟩⟩
    refine CallsDIn.mono (hdf W0 g3 c2.σ c2.n w3 vs hS3.sim hvl hcaps hpr) fun e u' w4 hh => ?_
    obtain ⟨v, rfl, rfl, g4, σ4, n4, hle4, hS4, hag⟩ := hh
    exact fin ⟨c2.s, σ4, n4⟩ g4 a3 w4 (hle.trans hle4) ⟨hS4, hS3.size, fun t => (hS3.slots t).mono hle4⟩ (hA σ4 n4 hag)
   | panic ch =>
    obtain ⟨ch2, pr, po, hpr, hset, ⟨hc, hdf⟩, hA⟩ := hq3
    show LeavesInM Fence.wide 0 P fn a3.tmps _ a3.defers (.panicking ch) w3
    rw [hD4]
    refine ⟨by simp, .inr ⟨fun hd => (by cases hd), _, _, fd, vs.toArray, rfl, hinv hc, fun _ _ => trivial, ?_⟩⟩
    refine CallsDIn.mono (hdf W0 g3 c2.σ c2.n w3 vs hS3.sim hvl hcaps hpr) fun e u' w4 hh => ?_
    obtain ⟨v, rfl, rfl, g4, σ4, n4, hle4, hS4, hag⟩ := hh
    show LeavesInM Fence.wide 0 P fn a3.tmps _ [] (settle (.panicking ch2)) w4
    rw [hset]
    exact fin ⟨c2.s, σ4, n4⟩ g4 a3 w4 (hle.trans hle4) ⟨hS4, hS3.size, fun t => (hS3.slots t).mono hle4⟩ (hA σ4 n4 hag)
   | normal => exact absurd hq3.1 (by simp)
   | exit id => exact absurd hq3.1 (by simp)
   | goto => exact hq3.elim
   | outgrown => exact hq3.elim
 | exit id => exact (hnorm hq (by simp)).elim
 | ret => exact (hnorm hq (by simp)).elim
 | panic => exact hq.elim
 | goto => exact hq.elim
 | outgrown => exact hq.elim
def ifTy (P : Program) (t : TypeId) : Bool :=
 match P.underlying t with
 | some (.interface _) => true
 | _ => false
theorem run_equalIn_inil {P : Program} {t : TypeId} {ms : Array (String × TypeId)} (hu : P.underlying t = some (.interface ms)) {a : Value} {r : Bool} (ha : (a = .nilIface ∧ r = true) ∨ ∃ T v, a = .iface T v ∧ r = false) (d : Nat) (w : World) : (Op.equalIn (d + 1) t a .nilIface).run P w = .ok r w := by
 rcases ha with ⟨rfl, rfl⟩ | ⟨T, v, rfl, rfl⟩
 ·simp [Op.equalIn, run_underlying hu]
 ·simp [Op.equalIn, run_underlying hu]
theorem holds_ifaceNil {P : Program} {o : Oper} {s : Slots} {id : Nat} {t yt : TypeId} {x : Operand} {r : Bool} (ho : o.op = .binOp .eql t x (.const .nilIface) yt) (ht : ifTy P t = true)
  (hx : (aeval s x = .lit .nilIface ∧ r = true) ∨ ∃ T z, aeval s x = .iface T z ∧ r = false) : OpHolds P o s id [] (.lit (.bool r)) [] :=
 holds_pure fun g w a hr => by
  have h1 := hr x (by simp [ho, Op.operands])
  have hu : ∃ ms, P.underlying t = some (.interface ms) := by
   unfold ifTy at ht
   split at ht
   ·exact ⟨_, by assumption⟩
   ·cases ht
  obtain ⟨ms, hu⟩ := hu
  refine ⟨.bool r, ?_, .lit _ rfl⟩
  have hc : a.eval (.const .nilIface) = .nilIface := rfl
  simp only [execOp, ho, hc]
  rcases hx with ⟨hx, rfl⟩ | ⟨T, z, hx, rfl⟩
  ·rw [hx] at h1
   have hv := rep_lit_inv h1
   rw [hv]
   have hg : eqGuard .eql t x (.const .nilIface) .nilIface .nilIface = pure () := by simp [eqGuard]
   have hb : binOp .eql t .nilIface .nilIface = (do pure (.bool (← Op.equal t .nilIface .nilIface))) := rfl
   rw [hg, hb]
   have he : (Op.equal t .nilIface .nilIface).run P w = .ok true w := run_equalIn_inil hu (.inl ⟨rfl, rfl⟩) 9999 w
   simp only [Sem.run_bind, Sem.run_pure, Result.andThen_ok, he]
  ·rw [hx] at h1
   generalize hv : a.eval x = v at h1
   cases h1 with
   | iface _ _ v0 h0 =>
    have hg : eqGuard .eql t x (.const .nilIface) (.iface T v0) .nilIface = pure () := by simp [eqGuard]
    have hb : binOp .eql t (.iface T v0) .nilIface = (do pure (.bool (← Op.equal t (.iface T v0) .nilIface))) := rfl
    rw [hg, hb]
    have he : (Op.equal t (.iface T v0) .nilIface).run P w = .ok false w := run_equalIn_inil hu (.inr ⟨T, v0, rfl, rfl⟩) 9999 w
    simp only [Sem.run_bind, Sem.run_pure, Result.andThen_ok, he]
theorem go_ifNilT {P : Program} {ops : Array Oper} {m i : Nat} {r : List Oper} {T : Trace} {k : Cfg → Trace → Prop} {s : Slots} {σ : Nat → Ent} {n : Nat} {ty : TypeId} {pos : String} {after : Array Edge} {t : Tmp} {x : Operand} {tx ty2 : TypeId} (ht : ifTy P tx = true) (hx : aeval s x = .lit .nilIface)
  (h : aops P ops m r (i + 1) T k ⟨upd s t (.lit (.bool true)), σ, n⟩) : aops P ops m (⟨some t, .binOp .eql tx x (.const .nilIface) ty2, ty, pos, after, none⟩ :: r) i T k ⟨s, σ, n⟩ :=
 go_own (st := ⟨[], .lit (.bool true), []⟩) (fun o ho => ⟨holds_ifaceNil ho ht (.inl ⟨hx, rfl⟩), fun p hp => by cases hp⟩) h
theorem go_ifNilF {P : Program} {ops : Array Oper} {m i : Nat} {r : List Oper} {T : Trace} {k : Cfg → Trace → Prop} {s : Slots} {σ : Nat → Ent} {n : Nat} {ty : TypeId} {pos : String} {after : Array Edge} {t : Tmp} {x : Operand} {tx ty2 T2 : TypeId} {z : AV} (ht : ifTy P tx = true) (hx : aeval s x = .iface T2 z)
  (h : aops P ops m r (i + 1) T k ⟨upd s t (.lit (.bool false)), σ, n⟩) : aops P ops m (⟨some t, .binOp .eql tx x (.const .nilIface) ty2, ty, pos, after, none⟩ :: r) i T k ⟨s, σ, n⟩ :=
 go_own (st := ⟨[], .lit (.bool false), []⟩) (fun o ho => ⟨holds_ifaceNil ho ht (.inr ⟨T2, z, hx, rfl⟩), fun p hp => by cases hp⟩) h
end Go.Ab
