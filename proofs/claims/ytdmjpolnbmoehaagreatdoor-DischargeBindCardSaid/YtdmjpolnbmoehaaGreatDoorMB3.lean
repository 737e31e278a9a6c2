/- Texts U18, U19, W17, W14, I1, Q6, W15, W16, X15, joined. -/
import Derived.Test.YtdmjpolnbmoehaaGreatDoorMB2

namespace Go.Proofs.YtdmjpolnbmoehaaGreatDoor
open Go.Ab
attribute [local irreducible] Go.Ab.tyAV Go.Ab.aw Go.Ab.aops Go.Ab.kReg Go.Ab.aThen Go.Ab.aBlk Go.Ab.acond Go.Ab.aguard Go.Ab.astep Go.Ab.AStepX Go.Ab.aRet
attribute [local irreducible] shaG
section
variable [W : W32]
end
end Go.Proofs.YtdmjpolnbmoehaaGreatDoor

namespace Go.Proofs.YtdmjpolnbmoehaaGreatDoor
open Go.Ab
attribute [local irreducible] Go.Ab.tyAV Go.Ab.aw Go.Ab.aops Go.Ab.kReg Go.Ab.aThen Go.Ab.aBlk Go.Ab.acond Go.Ab.aguard Go.Ab.astep Go.Ab.AStepX Go.Ab.aRet
def pRun (l : List Int) (r : Bool) : Nat → Nat → List Pr → (List Pr × Nat) → Prop
 | 0, j, acc, R => R = (acc, j)
 | f + 1, j, acc, R => ∃ p j1, PRD l j r p j1 ∧ pRun l r f j1 (acc ++ [p]) R
theorem pRun_ex {l : List Int} {r : Bool} : ∀ (f j : Nat) (acc : List Pr), Dk l j → (∀ p ∈ acc, PrOk p ∧ predB p = true) → ∃ R, pRun l r f j acc R ∧ Dk l R.2 ∧ (∀ p ∈ R.1, PrOk p ∧ predB p = true) ∧ R.1.length = acc.length + f
 | 0, j, acc, h, ha => ⟨_, rfl, h, ha, rfl⟩
 | f + 1, j, acc, h, ha => by
  obtain ⟨p, j1, hp⟩ := PRD_ex h r
  obtain ⟨R, hR, h1, h2, h3⟩ := pRun_ex (r := r) f j1 (acc ++ [p]) hp.2.2.2.1 (fun q hq => by
   rcases List.mem_append.1 hq with hq | hq
   ·exact ha q hq
   ·rw [List.mem_singleton.1 hq]; exact ⟨hp.2.1, hp.1⟩)
  exact ⟨R, ⟨p, j1, hp, hR⟩, h1, h2, by rw [h3]; simp; omega⟩
set_option maxHeartbeats 2000000 in
theorem Preds_core (l : List Int) (i : Nat) (h : Dk l i) (n : Nat) (hn : n ≤ 1000) (r : Bool) (R : List Pr) (j : Nat) (hR : pRun l r (nextD l i (n + 1)).1 (nextD l i (n + 1)).2 [] (R, j)) (d k : Nat) :
  ACall Tryz.prog 17 [.ptr d [] 0, .lit (.int .i64 n), .lit (.bool r)] k [(d, deckBox l i)] (.slice none (R.map prAV)) [(d, deckBox l j)] := by
 have c1 := Next_spec l i (n + 1) h (by omega) (by omega)
 have h1 := nextD_dk (n + 1) h
 have h2 := nextD_lt l i (n + 1) (by omega)
 clear h
 generalize nextD l i (n + 1) = X at *
 obtain ⟨f0, j0⟩ := X
 simp only at *
 rw [show ((n + 1 : Nat) : Int) = (n : Int) + 1 by omega] at c1
 refine Bd Tryz.func17 Tryz.ntmps17 fun σ N hp hpn hk hkn hfree => ?_
 obtain ⟨hd, hdn⟩ := HD0 hp hpn; clear hp hpn
 have hcs := And.intro (c1 d) True.intro
 clear c1
 refine Wk ?_
 clear hcs
 refine ALoop.nilrow 7 25 6 (by simp (disch := omega) [go_sem, *, -List.reduceReplicate]) ?_
 refine go_loopB (N) mixed (by kernel_rfl) [7, 8, 13, 14, 15, 16, 17, 18, 19, 20, 21, 22] [d] (fun m_ s_ σ_ n_ => ∃ (f : Nat) (q : Nat) (acc : List Pr) (j' : Nat), m_ = f ∧ s_ 8 = .lit (.int .i64 f) ∧ s_ 7 = .slice (some q) (acc.map prAV) ∧ σ_ (d) = deckBox l j' ∧ σ_ (q) = .row 25 6 acc.length ∧ (N ≤ q) ∧ (q < n_) ∧ (acc.length + f ≤ 1000) ∧ (Dk l j') ∧ (pRun l r f j' acc (R, j))) ⟨_, f0, _, [], j0, rfl, WF, WF, WF, WF, WC, WC, WC, WC, WC⟩ ?_
 intro m_1 s_1 σ_1 n_1 hs_1 hf_1 hn_1 hI_1
 obtain ⟨f, q, acc, j', hm_1, h1_8, h1_7, e1_0, e1_1, hq, hqn, hal, hj, hrun⟩ := hI_1
 have h1_0 := KS hs_1 0
 have h1_2 := KS hs_1 2
 have h1_6 := KS hs_1 6
 have hlow := KD (N := N) (d := d) (σ := σ) hf_1
 clear hR
 cases f with
 | zero =>
  have hrun : (R, j) = (acc, j') := hrun
  simp only [Prod.mk.injEq] at hrun
  obtain ⟨rfl, rfl⟩ := hrun
  clear hj
  refine Wk ?_
  exact RV (d) (deckBox l j)
 | succ f =>
  obtain ⟨p, j1, ⟨p1, p2, p3, p4, p5⟩, hrun⟩ := hrun
  have hcs := And.intro (p5 d) True.intro
  clear p5 p1 p2 p3 hj
  refine Wk ?_
  exact ⟨WS, WG, WN, _, (show (f) < m_1 by omega), f, q, acc ++ [p], j1, rfl, WF, WF, WF, WF, WC, WC, WC, WC, WC⟩
theorem Preds_ex (l : List Int) (i : Nat) (h : Dk l i) (n : Nat) (hn : n ≤ 1000) (r : Bool) : ∃ (R : List Pr) (j : Nat), R.length ≤ n ∧ (∀ p ∈ R, PrOk p ∧ predB p = true) ∧ Dk l j ∧ ∀ d k, ACall Tryz.prog 17 [.ptr d [] 0, .lit (.int .i64 n), .lit (.bool r)] k [(d, deckBox l i)] (.slice none (R.map prAV)) [(d, deckBox l j)] := by
 obtain ⟨⟨R, j⟩, hR, h1, h2, h3⟩ := pRun_ex (r := r) (nextD l i (n + 1)).1 (nextD l i (n + 1)).2 [] (nextD_dk _ h) (fun p hp => by cases hp)
 have := nextD_lt l i (n + 1) (by omega)
 exact ⟨R, j, by simp only [List.length_nil] at h3; omega, h2, h1, fun d k => Preds_core l i h n hn r R j hR d k⟩

theorem u64W {a : Int} (h : (Lit.int .u64 a).wf = true) : 0 ≤ a ∧ a < 18446744073709551616 := by
 have hw : IntKind.u64.min ≤ a ∧ a ≤ IntKind.u64.max := by simpa [Lit.wf] using h
 have e1 : IntKind.u64.min = 0 := by decide
 have e2 : IntKind.u64.max = 18446744073709551615 := by decide
 omega
theorem predW {m : Nat} {x : AV} (h : tyAV Tryz.prog (m + 2) 25 x) : ∃ p : Pr, PrOk p ∧ x = prAV p := by
 obtain ⟨xs, rfl, h1, h2⟩ := ty_struct Tryz.underlying25 h
 obtain ⟨a, b, c, d, e, f, rfl⟩ : ∃ a b c d e f, xs = [a, b, c, d, e, f] := by
  match xs, h1 with
  | [a, b, c, d, e, f], _ => exact ⟨a, b, c, d, e, f, rfl⟩
 obtain ⟨v1, _, rfl⟩ := ty_int it3 (h2 0 _ _ rfl rfl)
 obtain ⟨v2, w2, rfl⟩ := ty_int it23 (h2 1 _ _ rfl rfl)
 obtain ⟨v3, _, rfl⟩ := ty_int it3 (h2 2 _ _ rfl rfl)
 obtain ⟨v4, _, rfl⟩ := ty_int it3 (h2 3 _ _ rfl rfl)
 obtain ⟨v5, w5, rfl⟩ := ty_str st9 (h2 4 _ _ rfl rfl)
 obtain ⟨v6, _, rfl⟩ := ty_int it3 (h2 5 _ _ rfl rfl)
 exact ⟨⟨v1, v2, v3, v4, v5, v6⟩, ⟨(u64W w2).1, (u64W w2).2, w5⟩, rfl⟩
structure DiW (d : Di) : Prop where
 tl : d.ticket.length ≤ 140737488351232
 cl : d.conds.length ≤ 9223372036854775807
 ok : ∀ p ∈ d.conds, PrOk p
def CaW (c : Ca) : Prop := PrOk c.first ∧ CaSm c
structure PaW (p : Pa) : Prop where
 cl : p.cavs.length ≤ 9223372036854775807
 ok : ∀ c ∈ p.cavs, CaW c
theorem requestW_of {x : AV} (h : tyAV Tryz.prog 8 50 x) : ∃ r : Rq, True ∧ x = rqAV r := by
 obtain ⟨ys, rfl, h3, h4⟩ := ty_struct Tryz.underlying50 h
 obtain ⟨a, b, rfl⟩ : ∃ a b, ys = [a, b] := by
  match ys, h3 with
  | [a, b], _ => exact ⟨a, b, rfl⟩
 obtain ⟨v1, _, rfl⟩ := ty_int it3 (h4 0 _ _ rfl rfl)
 obtain ⟨v2, _, rfl⟩ := ty_int it3 (h4 1 _ _ rfl rfl)
 exact ⟨⟨v1, v2⟩, trivial, rfl⟩
theorem predsW_of {x : AV} (h : tyAV Tryz.prog 8 27 x) : ∃ l : List Pr, (l.length ≤ 9223372036854775807 ∧ ∀ p ∈ l, PrOk p) ∧ x = .slice none (l.map prAV) := ty_list sl27 (fun _y hy => predW hy) h
theorem tagW_of {x : AV} (h : tyAV Tryz.prog 8 29 x) : ∃ a : Tg, True ∧ x = tagAV a := ty_tag ar29 by5 h
end Go.Proofs.YtdmjpolnbmoehaaGreatDoor

namespace Go.Proofs.YtdmjpolnbmoehaaGreatDoor
open Go.Ab
attribute [local irreducible] Go.Ab.tyAV Go.Ab.aw Go.Ab.aops Go.Ab.kReg Go.Ab.aThen Go.Ab.aBlk Go.Ab.acond Go.Ab.aguard Go.Ab.astep Go.Ab.AStepX Go.Ab.aRet
attribute [local irreducible] shaG
theorem awake15_spec (k : Nat) : ACall Tryz.prog 14 [] k [] (.lit (.bool true)) [] := by
 have c1 := Age_spec [97] 0 525600 (by decide)
 have c2 := Age_spec [97] 0 525599 (by decide)
 rw [show ageS 0 525600 = 1 by decide +kernel] at c1
 rw [show ageS 0 525599 = 0 by decide +kernel] at c2
 refine Bd Tryz.func14 Tryz.ntmps14 fun σ N hp hpn hk hkn hfree => ?_
 have hcs := And.intro c1 (And.intro c2 True.intro)
 clear c1 c2
 exact W0
theorem ALe.refl : ∀ (xs : List AV), ALe xs xs
 | [] => .nil
 | x :: r => .cons (AV.le_refl x) (ALe.refl r)
section
variable [W : W32]
end

theorem ClonePr_cons (l : List Pr) (he : l.isEmpty = false) (hl : l.length ≤ 100000) (k : Nat) :
  ACall Tryz.prog 156 [.slice none (l.map prAV)] k [] (.slice none (l.map prAV)) [] := by
 refine Bd Tryz.func156 Tryz.ntmps156 fun σ N hp hpn hk hkn hfree => ?_
 exact WM
theorem ClonePr_empty (A : Addr) (c k : Nat) : ACall Tryz.prog 156 [.lit (.slice (some A) 0 c)] k [] (.slice none []) [] := by
 refine Bd Tryz.func156 Tryz.ntmps156 fun σ N hp hpn hk hkn hfree => ?_
 exact WM
theorem ClonePr_nil (c k : Nat) : ACall Tryz.prog 156 [.lit (.slice none 0 c)] k [] (.slice none []) [] := by
 refine Bd Tryz.func156 Tryz.ntmps156 fun σ N hp hpn hk hkn hfree => ?_
 exact WM
theorem ClonePr_spec (l : List Pr) (hl : l.length ≤ 100000) (k : Nat) :
  ACall Tryz.prog 156 [.slice none (l.map prAV)] k [] (.slice none (l.map prAV)) [] := by
 cases l with
 | cons x r => exact ClonePr_cons (x :: r) rfl hl k
 | nil =>
  refine ACall.empty fun A c => ?_
  cases A with
  | none => exact ClonePr_nil c k
  | some A => exact ClonePr_empty A c k
theorem dMsg_spec (w b : List UInt8) (g n : Nat) (hw : w.length ≤ 1000) (hb : b.length ≤ 1000) (hg : g ≤ 281474976710656) (hn : n ≤ 281474976710656) (k : Nat) :
  ACall Tryz.prog 93 [.lit (.string ⟨w.toArray⟩), .slice none (b.map byteAV), .agg [.lit (.int .i64 g), .lit (.int .i64 n)]] k [] (.slice none ((w ++ (b ++ (leb g ++ leb n))).map byteAV)) [] := by
 have c1 := Message_spec w b (by omega) (by omega)
 have hwb : (w ++ b).length ≤ 2000 := by rw [List.length_append]; omega
 have hl := leb_len g 7 (by omega)
 have c2 := Append_ok_f (w ++ b) (by omega) g hg
 have c3 := Append_ok_f (w ++ b ++ leb g) (by rw [List.length_append]; omega) n hn
 have hA : w ++ b ++ leb g ++ leb n = w ++ (b ++ (leb g ++ leb n)) := by simp only [List.append_assoc]
 rw [hA] at c3
 generalize w ++ (b ++ (leb g ++ leb n)) = R at *
 generalize w ++ b ++ leb g = R2 at *
 generalize w ++ b = R1 at *
 clear hA
 refine Bd Tryz.func93 Tryz.ntmps93 fun σ N hp hpn hk hkn hfree => ?_
 have hcs := And.intro c1 (And.intro c2 (And.intro c3 True.intro))
 clear c1 c2 c3
 exact WM
section
variable [W : W32]
theorem macS_mMac {a : Alg} {key : Tg} {msg : List UInt8} (h : (macS a key msg).2.2 = 0) : mMac a 0 key msg = ((macS a key msg).1, 0, (macS a key msg).2.1) := by
 unfold mMac
 rw [if_neg (by simp), if_pos h]
set_option maxHeartbeats 4000000 in
theorem dInto_spec (a : Alg) (m : Nat) (ha : AlgIn a m) (hm : m ≤ 60000) (d : Di) (leaf : Tg) (r : Rq) (hr : rqB r = true) (ht : d.ticket.length ≤ 100000) (hc : d.conds.length ≤ 100000) (q r1 r2 g k : Nat) :
  ACall Tryz.prog 88 [.ptr q [] 0, diAV d, tagAV leaf, rqAV r] k (makE a 0 q r1 r2 ++ [(g, shaG)]) (boAV (bindS a d leaf r).2.1) [(q, makB (bindS a d leaf r).1 0 r1 r2), (r1, rowM (bindS a d leaf r).1.macs.length)] := by
 obtain ⟨h0, hB⟩ := bindS_ok ha hm d leaf hr
 rw [hB]
 simp only
 obtain ⟨⟨q1, q2⟩, q3, q4⟩ := rqB_iff.1 hr
 have c1 := Req_spec r
 rw [hr] at c1
 have c2 := Clone_spec d.ticket (by omega)
 have c3 := ClonePr_spec d.conds hc
 have c4 := dMsg_spec [98, 105, 110, 100] leaf.1 r.gate.toNat r.nonce.toNat (by decide) (by rw [leaf.2]; decide) (by omega) (by omega)
 have hml := bindM_len leaf (g := r.gate.toNat) (n := r.nonce.toNat) (by omega) (by omega)
 have hmp : 0 < (bindM leaf r.gate.toNat r.nonce.toNat).length := by simp [bindM]
 have hbm : [98, 105, 110, 100] ++ (leaf.1 ++ (leb r.gate.toNat ++ leb r.nonce.toNat)) = bindM leaf r.gate.toNat r.nonce.toNat := rfl
 rw [hbm] at c4
 have c5 := mMac_spec a 0 d.tag (bindM leaf r.gate.toNat r.nonce.toNat) (by have := ha.ml; omega) ha.mm (fun _ => hmp) (by omega) q r1 r2 g
 rw [macS_mMac h0] at c5
 have hbx := (macS_boxes a d.tag _ h0).1
 simp only at c5
 generalize macS a d.tag (bindM leaf r.gate.toNat r.nonce.toNat) = Y at *
 obtain ⟨a2, t2, e2⟩ := Y
 simp only at *
 obtain ⟨rg, rn⟩ := r
 simp only at *
 rw [show ((rg.toNat : Nat) : Int) = rg by omega, show ((rn.toNat : Nat) : Int) = rn by omega] at c4
 generalize bindM leaf rg.toNat rn.toNat = bm at *
 obtain ⟨ti, cs, dt⟩ := d
 simp only at *
 have hrA : rqAV ⟨rg, rn⟩ = .agg [.lit (.int .i64 rg), .lit (.int .i64 rn)] := rfl
 have hdA : diAV ⟨ti, cs, dt⟩ = .agg [.slice none (ti.map byteAV), .slice none (cs.map prAV), tagAV dt] := rfl
 have hoA : boAV ⟨ti, cs, t2⟩ = .agg [.slice none (ti.map byteAV), .slice none (cs.map prAV), tagAV t2] := rfl
 have hlA : tagAV leaf = .agg (leaf.1.map byteAV) := rfl
 have ps1 := tagAV_sz leaf
 have ps2 := tagAV_cell leaf
 obtain ⟨K, hK⟩ := leaf
 rw [hlA] at ps1 ps2 ⊢
 rw [hrA] at c1 ⊢
 rw [hdA, hoA]
 simp only at *
 clear hrA hdA hoA hlA hbm hB hml hmp h0 ha
 have htk : (K.map byteAV).take 32 = K.map byteAV := List.take_of_length_le (by rw [List.length_map]; omega)
 unfold makE at *
 simp only [List.cons_append, List.nil_append] at *
 simp only [makB_def, rowM_eq, rowB_eq, hbx] at *
 clear hbx
 refine Bd Tryz.func88 Tryz.ntmps88 fun σ N hp hpn hk hkn hfree => ?_
 simp only [List.mem_cons, List.not_mem_nil, or_false, forall_eq_or_imp, forall_eq] at hp hpn; obtain ⟨hd1, hd2, hd3, hd4⟩ := hp; obtain ⟨hdn1, hdn2, hdn3, hdn4⟩ := hpn
 have hne : q ≠ r1 := by rintro rfl; rw [hd1] at hd2; cases hd2
 have hne3 : q ≠ r2 := by rintro rfl; rw [hd1] at hd3; cases hd3
 have hneg : g ≠ q := by rintro rfl; rw [hd4] at hd1; exact shaG_nbox hd1
 have hneg1 : g ≠ r1 := by rintro rfl; rw [hd4] at hd2; exact shaG_nrow hd2
 have hne23 : r1 ≠ r2 := by rintro rfl; rw [hd2] at hd3; simp at hd3
 have hcs := And.intro c1 (And.intro c2 (And.intro c3 (And.intro c4 (And.intro c5 True.intro))))
 clear c1 c2 c3 c4 c5
 refine Wk ?_
 refine go_resultW [(q, (.box 203 (.agg [.agg [.lit (.bool a2.free), tagAV a2.seed, .lit (.int .i64 a2.fresh), .slice (some r1) (a2.macs.map macAV), .slice (some r2) (a.boxes.map sealAV)], .lit (.int .i64 0)]))), (r1, (.row 149 65 a2.macs.length))] (by simp (disch := omega) [go_sem, *, -List.reduceReplicate]; rfl) (by first | rfl | (simp (disch := omega) [go_sem]; done) | (simp (disch := omega) [go_sem, *]; done) | simp (disch := omega) [go_sem]) (fun id hid => by simp only [wr_cons, wr_nil]; (by_cases hdd : id = q; (· (subst hdd; simp (disch := omega) [go_sem, *])); (· (by_cases hdd2 : id = r1; (· (subst hdd2; simp (disch := omega) [go_sem, *])); (· (simp (disch := omega) only [upd_ne]; try (first | exact hlow id hid hdd hdd2 | exact hlow id hid))))))) (by simp) (by simp (disch := omega) [go_sem, *])
end

section
variable [W : W32]
theorem Look_spec (a : Alg) (key : Tg) (msg : List UInt8) (hl : a.macs.length ≤ 1000000) (hm : ∀ e ∈ a.macs, e.msg.length ≤ 100000) (h0 : 0 < msg.length) (hmsg : msg.length ≤ 1000000) (g k : Nat) :
  ACall Tryz.prog 66 [algAV a, tagAV key, .slice none (msg.map byteAV)] k [(g, shaG)] (entAV (lookO a key msg)) [] := by
 have c1 := find_spec a.macs key msg hl hm hmsg
 obtain ⟨fr, sd, fs, L, B⟩ := a
 simp only at hl hm c1
 unfold lookO
 cases fr with
 | true =>
  simp only [if_true]
  cases he : entL key msg L with
  | none =>
   rw [fI_none L 0 he] at c1
   unfold entAV
   simp only [Option.getD_none, Option.isSome_none, algAV]
   clear hm he
   refine Bd Tryz.func66 Tryz.ntmps66 fun σ N hp hpn hk hkn hfree => ?_
   obtain ⟨hd, hdn⟩ := HD0 hp hpn; clear hp hpn
   have hcs := And.intro c1 True.intro
   clear c1
   exact W0
  | some t =>
   obtain ⟨i, hi, hfi, hti⟩ := fI_some L 0 he
   rw [hfi, Nat.zero_add] at c1
   obtain ⟨z, hz⟩ : ∃ z, L[i] = z := ⟨_, rfl⟩
   rw [hz] at hti
   obtain ⟨zk, zm, zt⟩ := z
   simp only at hti
   subst hti
   have hzd : macAV ⟨zk, zm, zt⟩ = .agg [tagAV zk, bAV zm, tagAV zt] := rfl
   have hi0 : ¬ (i : Int) < 0 := by omega
   unfold entAV
   simp only [Option.getD_some, Option.isSome_some, algAV]
   clear hm he hfi
   refine Bd Tryz.func66 Tryz.ntmps66 fun σ N hp hpn hk hkn hfree => ?_
   obtain ⟨hd, hdn⟩ := HD0 hp hpn; clear hp hpn
   have hcs := And.intro c1 True.intro
   clear c1
   exact W0
 | false =>
  simp only [Bool.false_eq_true, if_false]
  clear c1 hm
  by_cases h1 : 4096 < msg.length
  ·rw [if_pos h1]
   have h1i : (4096 : Int) < (msg.length : Int) := by omega
   unfold entAV
   simp only [Option.getD_none, Option.isSome_none, algAV]
   refine Bd Tryz.func66 Tryz.ntmps66 fun σ N hp hpn hk hkn hfree => ?_
   obtain ⟨hd, hdn⟩ := HD0 hp hpn; clear hp hpn
   exact W0
  ·rw [if_neg h1]
   have h1i : ¬ (4096 : Int) < (msg.length : Int) := by omega
   have c2 := hmacOf_spec key.1 msg (by rw [key.2]; decide) h0 (by omega) g
   generalize hmacT key.1 msg = t at *
   have hs1 := tagAV_sz key
   have hs2 := tagAV_cell key
   obtain ⟨K, hK⟩ := key
   have hkA : tagAV ⟨K, hK⟩ = .agg (K.map byteAV) := rfl
   simp only [hkA] at hs1 hs2 c2 ⊢
   clear hkA
   have hs3 : AV.celll (K.map byteAV) = true := celll_bytes K
   have htk : (K.map byteAV).take 32 = K.map byteAV := List.take_of_length_le (by rw [List.length_map]; omega)
   unfold entAV
   simp only [Option.getD_some, Option.isSome_some, algAV]
   refine Bd Tryz.func66 Tryz.ntmps66 fun σ N hp hpn hk hkn hfree => ?_
   obtain ⟨hd, hdn⟩ := HD0 hp hpn; clear hp hpn
   have hcs := And.intro c2 True.intro
   clear c2
   exact W0
end

theorem dMsg_any (w b : List UInt8) (r : Rq) (hw : w.length ≤ 1000) (hb : b.length ≤ 1000) : ∃ R : List UInt8, R.length ≤ 100000 ∧ ∀ k, ACall Tryz.prog 93 [.lit (.string ⟨w.toArray⟩), .slice none (b.map byteAV), rqAV r] k [] (.slice none (R.map byteAV)) [] := by
 have c1 := Message_spec w b (by omega) (by omega)
 have hwb : (w ++ b).length ≤ 2000 := by rw [List.length_append]; omega
 obtain ⟨rg, rn⟩ := r
 have hrA : rqAV ⟨rg, rn⟩ = .agg [.lit (.int .i64 rg), .lit (.int .i64 rn)] := rfl
 rw [hrA]
 clear hrA
 generalize w ++ b = R1 at *
 obtain ⟨X, hX, c2⟩ : ∃ (X : List UInt8 × Nat), X.1.length ≤ 3000 ∧ ∀ k, ACall Tryz.prog 158 [.slice none (R1.map byteAV), .lit (.int .i64 rg)] k [] (encAV X) [] := by
  by_cases h : rg < 0 ∨ 281474976710656 < rg
  ·exact ⟨([], 1), by simp, fun k => (Append_bad R1 rg h k).result (AV.sub_tup (.cons AV.le_nils0 (.cons (AV.le_refl _) .nil)))⟩
  ·obtain ⟨n, rfl⟩ := Int.eq_ofNat_of_zero_le (show 0 ≤ rg by omega)
   have hl := leb_len n 7 (by omega)
   exact ⟨(R1 ++ leb n, 0), by simp only [List.length_append]; omega, fun k => Append_ok_f R1 (by omega) n (by omega) k⟩
 obtain ⟨R2, E2⟩ := X
 simp only at hX
 obtain ⟨Y, hY, c3⟩ : ∃ (X : List UInt8 × Nat), X.1.length ≤ 4000 ∧ ∀ k, ACall Tryz.prog 158 [.slice none (R2.map byteAV), .lit (.int .i64 rn)] k [] (encAV X) [] := by
  by_cases h : rn < 0 ∨ 281474976710656 < rn
  ·exact ⟨([], 1), by simp, fun k => (Append_bad R2 rn h k).result (AV.sub_tup (.cons AV.le_nils0 (.cons (AV.le_refl _) .nil)))⟩
  ·obtain ⟨n, rfl⟩ := Int.eq_ofNat_of_zero_le (show 0 ≤ rn by omega)
   have hl := leb_len n 7 (by omega)
   exact ⟨(R2 ++ leb n, 0), by simp only [List.length_append]; omega, fun k => Append_ok_f R2 (by omega) n (by omega) k⟩
 obtain ⟨R3, E3⟩ := Y
 simp only at hY
 refine ⟨R3, by omega, fun k => ?_⟩
 unfold encAV at c2 c3
 simp only at c2 c3
 clear hX hY hwb
 refine Bd Tryz.func93 Tryz.ntmps93 fun σ N hp hpn hk hkn hfree => ?_
 have hcs := And.intro c1 (And.intro c2 (And.intro c3 True.intro))
 clear c1 c2 c3
 exact WM
section
variable [W : W32]
set_option maxHeartbeats 4000000 in
theorem dInto_bad (a : Alg) (m : Nat) (ha : AlgIn a m) (hm : m ≤ 60000) (d : Di) (leaf : Tg) (r : Rq) (hr : rqB r = false) (ht : d.ticket.length ≤ 100000) (hc : d.conds.length ≤ 100000) (q r1 r2 g k : Nat) :
  ACall Tryz.prog 88 [.ptr q [] 0, diAV d, tagAV leaf, rqAV r] k (makE a 0 q r1 r2 ++ [(g, shaG)]) (boAV ⟨d.ticket, d.conds, zeroTag⟩) [(q, makB a 1 r1 r2), (r1, rowM a.macs.length)] := by
 have c1 := Req_spec r
 rw [hr] at c1
 have cf := Fail_spec a 0 1 q r1 r2
 have c2 := Clone_spec d.ticket (by omega)
 have c3 := ClonePr_spec d.conds hc
 obtain ⟨R, hRl, c4⟩ := dMsg_any [98, 105, 110, 100] leaf.1 r (by decide) (by rw [leaf.2]; decide)
 have c5 := mMac_spec a 1 d.tag R (by have := ha.ml; omega) ha.mm (fun h => absurd h (by decide)) hRl q r1 r2 g
 rw [mMac_err (show (1 : Nat) ≠ 0 by decide)] at c5
 simp only at c5
 obtain ⟨rg, rn⟩ := r
 obtain ⟨ti, cs, dt⟩ := d
 simp only at *
 have hrA : rqAV ⟨rg, rn⟩ = .agg [.lit (.int .i64 rg), .lit (.int .i64 rn)] := rfl
 have hdA : diAV ⟨ti, cs, dt⟩ = .agg [.slice none (ti.map byteAV), .slice none (cs.map prAV), tagAV dt] := rfl
 have hoA : boAV ⟨ti, cs, zeroTag⟩ = .agg [.slice none (ti.map byteAV), .slice none (cs.map prAV), tagAV zeroTag] := rfl
 have hlA : tagAV leaf = .agg (leaf.1.map byteAV) := rfl
 have ps1 := tagAV_sz leaf
 have ps2 := tagAV_cell leaf
 obtain ⟨K, hK⟩ := leaf
 rw [hlA] at ps1 ps2 ⊢
 rw [hrA] at c1 c4 ⊢
 rw [hdA, hoA]
 simp only at *
 clear hrA hdA hoA hlA ha hRl hr
 have htk : (K.map byteAV).take 32 = K.map byteAV := List.take_of_length_le (by rw [List.length_map]; omega)
 have e01 : ((1 : Nat) : Int) = 1 := rfl
 have e00 : ((0 : Nat) : Int) = 0 := rfl
 unfold makE at *
 simp only [List.cons_append, List.nil_append, if_true] at *
 simp only [makB_def, rowM_eq, rowB_eq, e01, e00] at *
 clear e01 e00
 refine Bd Tryz.func88 Tryz.ntmps88 fun σ N hp hpn hk hkn hfree => ?_
 simp only [List.mem_cons, List.not_mem_nil, or_false, forall_eq_or_imp, forall_eq] at hp hpn; obtain ⟨hd1, hd2, hd3, hd4⟩ := hp; obtain ⟨hdn1, hdn2, hdn3, hdn4⟩ := hpn
 have hne : q ≠ r1 := by rintro rfl; rw [hd1] at hd2; cases hd2
 have hne3 : q ≠ r2 := by rintro rfl; rw [hd1] at hd3; cases hd3
 have hneg : g ≠ q := by rintro rfl; rw [hd4] at hd1; exact shaG_nbox hd1
 have hneg1 : g ≠ r1 := by rintro rfl; rw [hd4] at hd2; exact shaG_nrow hd2
 have hne23 : r1 ≠ r2 := by rintro rfl; rw [hd2] at hd3; simp at hd3
 have hcs := And.intro c1 (And.intro cf (And.intro c2 (And.intro c3 (And.intro c4 (And.intro c5 True.intro)))))
 clear c1 cf c2 c3 c4 c5
 refine Wk ?_
 refine go_resultW [(q, (.box 203 (.agg [.agg [.lit (.bool a.free), tagAV a.seed, .lit (.int .i64 a.fresh), .slice (some r1) (a.macs.map macAV), .slice (some r2) (a.boxes.map sealAV)], .lit (.int .i64 1)]))), (r1, (.row 149 65 a.macs.length))] (by simp (disch := omega) [go_sem, *, -List.reduceReplicate]; rfl) (by first | rfl | (simp (disch := omega) [go_sem]; done) | (simp (disch := omega) [go_sem, *]; done) | simp (disch := omega) [go_sem]) (fun id hid => by simp only [wr_cons, wr_nil]; (by_cases hdd : id = q; (· (subst hdd; simp (disch := omega) [go_sem, *])); (· (by_cases hdd2 : id = r1; (· (subst hdd2; simp (disch := omega) [go_sem, *])); (· (simp (disch := omega) only [upd_ne]; try (first | exact hlow id hid hdd hdd2 | exact hlow id hid))))))) (by simp) (by simp (disch := omega) [go_sem, *])
set_option maxHeartbeats 4000000 in
theorem Bind_spec (a : Alg) (m : Nat) (ha : AlgIn a m) (hm : m ≤ 60000) (d : Di) (leaf : Tg) (r : Rq) (ht : d.ticket.length ≤ 100000) (hc : d.conds.length ≤ 100000) (g k : Nat) :
  ACall Tryz.prog 26 [algAV a, diAV d, tagAV leaf, rqAV r] k [(g, shaG)] (mbAV (bindS a d leaf r)) [] := by
 have cb := Begin_spec a (by have := ha.ml; omega) (by have := ha.bl; omega)
 cases hr : rqB r with
 | true =>
  have c1 := fun q r1 r2 => dInto_spec a m ha hm d leaf r hr ht hc q r1 r2 g
  obtain ⟨h0, hB⟩ := bindS_ok ha hm d leaf hr
  have hbx : (bindS a d leaf r).1.boxes = a.boxes := by rw [hB]; exact (macS_boxes a d.tag _ h0).1
  have he : (bindS a d leaf r).2.2 = 0 := by rw [hB]
  clear hB h0 ha ht hc hr
  generalize bindS a d leaf r = X at *
  obtain ⟨a1, b1, e1⟩ := X
  simp only at c1 hbx he
  subst he
  unfold mbAV
  simp only
  have cd := Done_ok a1
  unfold makAV at cb
  unfold makE at c1 cd
  simp only [List.cons_append, List.nil_append] at *
  simp only [makB_def, rowM_eq, rowB_eq, hbx] at *
  refine Bd Tryz.func26 Tryz.ntmps26 fun σ N hp hpn hk hkn hfree => ?_
  obtain ⟨hd, hdn⟩ := HD0 hp hpn; clear hp hpn
  have hcs := And.intro cb True.intro
  refine Wm ?_
  iterate 2 refine Wz ?_
  clear hcs
  refine go_cliprowIn (N + 7 + 1) [0, 3] 149 65 (bt := 203) (c := .agg [.agg [.lit (.bool a.free), tagAV a.seed, .lit (.int .i64 a.fresh), .clip (a.macs.map macAV), .clip (a.boxes.map sealAV)], .lit (.int .i64 ((0 : Nat) : Int))]) (xs := a.macs.map macAV) (by simp (disch := omega) [go_sem, *, -List.reduceReplicate]) rfl (all_macs1 _) ?_; refine go_cliprowIn (N + 7 + 1) [0, 4] 151 35 (bt := 203) (c := .agg [.agg [.lit (.bool a.free), tagAV a.seed, .lit (.int .i64 a.fresh), .slice (some (N + 7 + 3)) (a.macs.map macAV), .clip (a.boxes.map sealAV)], .lit (.int .i64 ((0 : Nat) : Int))]) (xs := a.boxes.map sealAV) (by simp (disch := omega) [go_sem, *, -List.reduceReplicate]) rfl (all_boxes1 _) ?_
  have hcs := And.intro (c1 (N + 7 + 1) (N + 7 + 3) (N + 7 + 3 + 1)) (And.intro (cd (N + 7 + 1) (N + 7 + 3) (N + 7 + 3 + 1)) True.intro)
  clear cb c1 cd
  refine Wk ?_
  exact WD
 | false =>
  have c1 := fun q r1 r2 => dInto_bad a m ha hm d leaf r hr ht hc q r1 r2 g
  have hB : bindS a d leaf r = (alg0, bo0, 1) := by unfold bindS; rw [hr]; rfl
  rw [hB]
  have cd := Done_bad a 1 (by decide)
  clear hB ha ht hc hr
  unfold mbAV
  simp only
  have hbA : boAV bo0 = .agg [.slice none [], .slice none [], tagAV zeroTag] := rfl
  rw [hbA]
  generalize (⟨d.ticket, d.conds, zeroTag⟩ : Bo) = b1 at *
  have e01 : ((1 : Nat) : Int) = 1 := rfl
  unfold makAV at cb
  unfold makE at c1 cd
  simp only [List.cons_append, List.nil_append] at *
  simp only [makB_def, rowM_eq, rowB_eq, alg0_eq, e01] at *
  clear e01 hbA
  refine Bd Tryz.func26 Tryz.ntmps26 fun σ N hp hpn hk hkn hfree => ?_
  obtain ⟨hd, hdn⟩ := HD0 hp hpn; clear hp hpn
  have hcs := And.intro cb True.intro
  refine Wm ?_
  iterate 2 refine Wz ?_
  clear hcs
  refine go_cliprowIn (N + 7 + 1) [0, 3] 149 65 (bt := 203) (c := .agg [.agg [.lit (.bool a.free), tagAV a.seed, .lit (.int .i64 a.fresh), .clip (a.macs.map macAV), .clip (a.boxes.map sealAV)], .lit (.int .i64 ((0 : Nat) : Int))]) (xs := a.macs.map macAV) (by simp (disch := omega) [go_sem, *, -List.reduceReplicate]) rfl (all_macs1 _) ?_; refine go_cliprowIn (N + 7 + 1) [0, 4] 151 35 (bt := 203) (c := .agg [.agg [.lit (.bool a.free), tagAV a.seed, .lit (.int .i64 a.fresh), .slice (some (N + 7 + 3)) (a.macs.map macAV), .clip (a.boxes.map sealAV)], .lit (.int .i64 ((0 : Nat) : Int))]) (xs := a.boxes.map sealAV) (by simp (disch := omega) [go_sem, *, -List.reduceReplicate]) rfl (all_boxes1 _) ?_
  have hcs := And.intro (c1 (N + 7 + 1) (N + 7 + 3) (N + 7 + 3 + 1)) (And.intro (cd (N + 7 + 1) (N + 7 + 3) (N + 7 + 3 + 1)) True.intro)
  clear cb c1 cd
  refine Wk ?_
  exact WD
def prfO (a : Alg) (tag leaf : Tg) (r : Rq) : Option Tg := if rqB r = true then lookO a tag (bindM leaf r.gate.toNat r.nonce.toNat) else none
set_option maxHeartbeats 2000000 in
theorem dProof_spec (a : Alg) (m : Nat) (ha : AlgIn a m) (hm : m ≤ 60000) (tag leaf : Tg) (r : Rq) (g k : Nat) :
  ACall Tryz.prog 29 [algAV a, tagAV tag, tagAV leaf, rqAV r] k [(g, shaG)] (entAV (prfO a tag leaf r)) [] := by
 have c1 := Req_spec r
 unfold prfO
 have hlA : tagAV leaf = .agg (leaf.1.map byteAV) := rfl
 have ps1 := tagAV_sz leaf
 have ps2 := tagAV_cell leaf
 cases hr : rqB r with
 | false =>
  rw [hr] at c1
  rw [if_neg (by simp)]
  unfold entAV
  simp only [Option.getD_none, Option.isSome_none]
  obtain ⟨rg, rn⟩ := r
  have hrA : rqAV ⟨rg, rn⟩ = .agg [.lit (.int .i64 rg), .lit (.int .i64 rn)] := rfl
  rw [hrA] at c1 ⊢
  clear ha hlA ps1 ps2 hrA hr
  refine Bd Tryz.func29 Tryz.ntmps29 fun σ N hp hpn hk hkn hfree => ?_
  obtain ⟨hd, hdn⟩ := HD0 hp hpn; clear hp hpn
  have hcs := And.intro c1 True.intro
  clear c1
  exact W0
 | true =>
  rw [hr] at c1
  rw [if_pos rfl]
  obtain ⟨⟨q1, q2⟩, q3, q4⟩ := rqB_iff.1 hr
  have c4 := dMsg_spec [98, 105, 110, 100] leaf.1 r.gate.toNat r.nonce.toNat (by decide) (by rw [leaf.2]; decide) (by omega) (by omega)
  have hml := bindM_len leaf (g := r.gate.toNat) (n := r.nonce.toNat) (by omega) (by omega)
  have hmp : 0 < (bindM leaf r.gate.toNat r.nonce.toNat).length := by simp [bindM]
  have hbm : [98, 105, 110, 100] ++ (leaf.1 ++ (leb r.gate.toNat ++ leb r.nonce.toNat)) = bindM leaf r.gate.toNat r.nonce.toNat := rfl
  rw [hbm] at c4
  have c5 := Look_spec a tag (bindM leaf r.gate.toNat r.nonce.toNat) (by have := ha.ml; omega) ha.mm hmp (by omega) g
  generalize lookO a tag (bindM leaf r.gate.toNat r.nonce.toNat) = o at *
  unfold entAV at *
  generalize o.getD zeroTag = t1 at *
  generalize o.isSome = ok1 at *
  obtain ⟨rg, rn⟩ := r
  simp only at *
  rw [show ((rg.toNat : Nat) : Int) = rg by omega, show ((rn.toNat : Nat) : Int) = rn by omega] at c4
  generalize bindM leaf rg.toNat rn.toNat = bm at *
  have hrA : rqAV ⟨rg, rn⟩ = .agg [.lit (.int .i64 rg), .lit (.int .i64 rn)] := rfl
  obtain ⟨K, hK⟩ := leaf
  rw [hlA] at ps1 ps2 ⊢
  rw [hrA] at c1 ⊢
  simp only at *
  clear ha hlA hrA hbm hml hmp hr
  have htk : (K.map byteAV).take 32 = K.map byteAV := List.take_of_length_le (by rw [List.length_map]; omega)
  refine Bd Tryz.func29 Tryz.ntmps29 fun σ N hp hpn hk hkn hfree => ?_
  obtain ⟨hd, hdn⟩ := HD0 hp hpn; clear hp hpn
  have hcs := And.intro c1 (And.intro c4 (And.intro c5 True.intro))
  clear c1 c4 c5
  exact W0
set_option maxHeartbeats 2000000 in
theorem refProof_spec (a : Alg) (m : Nat) (ha : AlgIn a m) (hm : m ≤ 60000) (tag leaf : Tg) (r : Rq) (k : Nat) :
  ACall Tryz.prog 30 [algAV a, tagAV tag, tagAV leaf, rqAV r] k [] (entAV (prfO a tag leaf r)) [] := by
 have c1 := refRqOk_spec r
 unfold prfO
 cases hr : rqB r with
 | false =>
  rw [hr] at c1
  rw [if_neg (by simp)]
  unfold entAV
  simp only [Option.getD_none, Option.isSome_none]
  obtain ⟨rg, rn⟩ := r
  have hrA : rqAV ⟨rg, rn⟩ = .agg [.lit (.int .i64 rg), .lit (.int .i64 rn)] := rfl
  rw [hrA] at c1 ⊢
  clear ha hrA hr
  refine Bd Tryz.func30 Tryz.ntmps30 fun σ N hp hpn hk hkn hfree => ?_
  have hcs := And.intro c1 True.intro
  clear c1
  exact W0
 | true =>
  rw [hr] at c1
  rw [if_pos rfl]
  obtain ⟨⟨q1, q2⟩, q3, q4⟩ := rqB_iff.1 hr
  have c4 := refBindM_spec leaf r.gate.toNat r.nonce.toNat (by omega) (by omega)
  have c5 := refLook_spec a tag (bindM leaf r.gate.toNat r.nonce.toNat) (by have := ha.ml; omega) ha.mm
  generalize lookO a tag (bindM leaf r.gate.toNat r.nonce.toNat) = o at *
  unfold entAV at *
  generalize o.getD zeroTag = t1 at *
  generalize o.isSome = ok1 at *
  obtain ⟨rg, rn⟩ := r
  simp only at *
  rw [show ((rg.toNat : Nat) : Int) = rg by omega, show ((rn.toNat : Nat) : Int) = rn by omega] at c4
  generalize bindM leaf rg.toNat rn.toNat = bm at *
  have hrA : rqAV ⟨rg, rn⟩ = .agg [.lit (.int .i64 rg), .lit (.int .i64 rn)] := rfl
  rw [hrA] at c1 ⊢
  clear ha hrA hr
  refine Bd Tryz.func30 Tryz.ntmps30 fun σ N hp hpn hk hkn hfree => ?_
  have hcs := And.intro c1 (And.intro c4 (And.intro c5 True.intro))
  clear c1 c4 c5
  exact W0
def condsO (a : Alg) : Tg → List Pr → Option Tg
 | t, [] => some t
 | t, p :: r => if predB p = true ∧ p.kind ≠ 7 then (match lookO a t (condM p) with
   | none => none
   | some t' => condsO a t' r) else none
def dtagO (a : Alg) (key : Tg) (t : List UInt8) (l : List Pr) : Option Tg := match lookO a key (grantM t) with
 | none => none
 | some x => condsO a x l
end

section
variable [W : W32]
def cO (a : Alg) : Option Tg → List Pr → Option Tg
 | none, _ => none
 | some x, l => condsO a x l
theorem cO_nil (a : Alg) (o : Option Tg) : cO a o [] = o := by cases o <;> rfl
theorem cO_cons (a : Alg) (x : Tg) (p : Pr) (r : List Pr) : cO a (some x) (p :: r) = if predB p = true ∧ p.kind ≠ 7 then cO a (lookO a x (condM p)) r else none := by
 show condsO a x (p :: r) = _
 rw [condsO]
 split
 ·cases lookO a x (condM p) <;> rfl
 ·rfl
theorem dtagO_c (a : Alg) (key : Tg) (t : List UInt8) (l : List Pr) : dtagO a key t l = cO a (lookO a key (grantM t)) l := by
 unfold dtagO
 cases lookO a key (grantM t) <;> rfl
set_option maxHeartbeats 8000000 in
theorem refTag_spec (a : Alg) (m : Nat) (ha : AlgIn a m) (hm : m ≤ 60000) (key : Tg) (t : List UInt8) (ht : t.length ≤ 100000) (l : List Pr) (hl : l.length ≤ 100000) (hpr : ∀ p ∈ l, PrOk p) (k : Nat) :
  ACall Tryz.prog 32 [algAV a, tagAV key, .slice none (t.map byteAV), .slice none (l.map prAV)] k [] (entAV (dtagO a key t l)) [] := by
 have c1 := refGrantM_spec t (by omega)
 have c2 := refLook_spec a key (grantM t) (by have := ha.ml; omega) ha.mm
 rw [dtagO_c]
 generalize lookO a key (grantM t) = o0 at *
 generalize grantM t = gm at *
 obtain ⟨R, hR⟩ : ∃ R, cO a o0 l = R := ⟨_, rfl⟩
 rw [hR]
 unfold entAV at *
 refine Bd Tryz.func32 Tryz.ntmps32 fun σ N hp hpn hk hkn hfree => ?_
 have hcs := And.intro c1 (And.intro c2 True.intro)
 clear c1 c2
 refine Wk ?_
 clear hcs
 refine go_loopF mixed (by kernel_rfl) [9, 11, 12, 21, 22, 23, 24, 25, 26, 27, 28, 29, 30, 31, 32, 33, 34, 35, 36, 37, 38, 39, 40, 41, 42, 43, 44, 45, 46, 47, 48, 49, 50, 51, 52, 53, 54, 55] [N+4+8] (fun m_ s_ σ_ n_ => ∃ (u : Nat) (o : Option Tg), m_ = l.length - u ∧ s_ 12 = .lit (.int .i64 u) ∧ s_ 11 = .lit (.bool o.isSome) ∧ σ_ (N+4+8) = .box 29 (tagAV (o.getD zeroTag)) ∧ (u ≤ l.length) ∧ (cO a o (l.drop u) = R)) ⟨_, 0, o0, rfl, WF, WF, WF, WC, WC⟩ ?_
 intro m_1 s_1 σ_1 n_1 hs_1 hf_1 hn_1 hI_1
 obtain ⟨u, o, hm_1, h1_12, h1_11, e1_0, hu, hO⟩ := hI_1
 have h1_3 := KS hs_1 3
 have h1_4 := KS hs_1 4
 have h1_8 := KS hs_1 8
 have h1_10 := KS hs_1 10
 have k1_0 := KE hf_1 (N)
 have k1_1 := KE hf_1 (N + 2)
 have hlow := KL (N := N) (σ := σ) hf_1
 by_cases hul : u = l.length
 ·subst hul
  rw [List.drop_length, cO_nil] at hO
  subst hO
  cases o with
  | none =>
   simp only [Option.getD_none, Option.isSome_none] at *
   have hcs := True.intro
   exact W0
  | some x =>
   simp only [Option.getD_some, Option.isSome_some] at *
   have hcs := True.intro
   exact W0
 ·have hu1 : u < l.length := by omega
  obtain ⟨p, hz⟩ : ∃ p, l[u] = p := ⟨_, rfl⟩
  have hzm : (l.map prAV)[u]? = some (prAV p) := by rw [List.getElem?_map, List.getElem?_eq_getElem hu1, hz]; rfl
  have hpo := hpr p (by rw [← hz]; exact List.getElem_mem _)
  rw [List.drop_eq_getElem_cons hu1, hz] at hO
  cases o with
  | none =>
   have hO : none = R := hO
   subst hO
   simp only [Option.getD_none, Option.isSome_none] at *
   have hcs := True.intro
   exact W0
  | some x =>
   rw [cO_cons] at hO
   have c3 := refPred_spec p hpo
   have c4 := refCondM_spec p hpo
   have c5 := refLook_spec a x (condM p) (by have := ha.ml; omega) ha.mm
   generalize lookO a x (condM p) = o1 at *
   generalize condM p = cm at *
   unfold entAV at c5
   clear hpr ha
   obtain ⟨pk, pm, pf, pt, pn, px⟩ := p
   have hpA : prAV ⟨pk, pm, pf, pt, pn, px⟩ = .agg [.lit (.int .i64 pk), .lit (.int .u64 pm), .lit (.int .i64 pf), .lit (.int .i64 pt), .lit (.string ⟨pn.toArray⟩), .lit (.int .i64 px)] := rfl
   rw [hpA] at hzm c3 c4
   simp only [Option.getD_some, Option.isSome_some] at *
   cases hpb : predB ⟨pk, pm, pf, pt, pn, px⟩ with
   | false =>
    rw [hpb] at c3 hO
    rw [if_neg (by simp)] at hO
    subst hO
    simp only [Option.getD_none, Option.isSome_none] at *
    clear c4 c5 hpA hz
    have hcs := And.intro c3 True.intro
    clear c3
    exact W0
   | true =>
    rw [hpb] at c3 hO
    by_cases hk7 : pk = 7
    ·rw [if_neg (by simp [hk7])] at hO
     subst hO
     simp only [Option.getD_none, Option.isSome_none] at *
     clear c4 c5 hpA hz
     have hcs := And.intro c3 True.intro
     clear c3
     exact W0
    ·rw [if_pos ⟨rfl, hk7⟩] at hO
     clear hpA hz
     have hcs := And.intro c3 (And.intro c4 (And.intro c5 True.intro))
     clear c3 c4 c5
     refine Wk ?_
     exact ⟨WS, WG, WN, _, (show l.length - (u + 1) < m_1 by omega), u + 1, o1, rfl, WF, WF, WF, WC, WC⟩
set_option maxHeartbeats 8000000 in
theorem dTag_spec (a : Alg) (m : Nat) (ha : AlgIn a m) (hm : m ≤ 60000) (key : Tg) (t : List UInt8) (ht : t.length ≤ 100000) (l : List Pr) (hl : l.length ≤ 100000) (hpr : ∀ p ∈ l, PrOk p) (g h k : Nat) :
  ACall Tryz.prog 31 [algAV a, tagAV key, .slice none (t.map byteAV), .slice none (l.map prAV)] k [(g, shaG), (h, bitsG)] (entAV (dtagO a key t l)) [] := by
 have c1 := Message_spec [103, 114, 97, 110, 116] t (by decide) (by omega)
 have hgm : [103, 114, 97, 110, 116] ++ t = grantM t := rfl
 rw [hgm] at c1
 have c2 := Look_spec a key (grantM t) (by have := ha.ml; omega) ha.mm (by simp [grantM]) (by simp [grantM]; omega) g
 rw [dtagO_c]
 clear hgm
 generalize lookO a key (grantM t) = o0 at *
 generalize grantM t = gm at *
 obtain ⟨R, hR⟩ : ∃ R, cO a o0 l = R := ⟨_, rfl⟩
 rw [hR]
 unfold entAV at *
 refine Bd Tryz.func31 Tryz.ntmps31 fun σ N hp hpn hk hkn hfree => ?_
 simp only [List.mem_cons, List.not_mem_nil, or_false, forall_eq_or_imp, forall_eq] at hp hpn; obtain ⟨hd1, hd2⟩ := hp; obtain ⟨hdn1, hdn2⟩ := hpn
 have hcs := And.intro c1 (And.intro c2 True.intro)
 clear c1 c2
 refine Wk ?_
 clear hcs
 refine go_loopF mixed (by kernel_rfl) [9, 11, 13, 14, 15, 26, 27, 28, 29, 30, 31, 32, 33, 34, 35, 36, 37, 38, 39, 40, 41, 42, 43, 44, 45, 46, 47, 48, 49, 50, 51, 52, 53, 54, 55] [N+4+8] (fun m_ s_ σ_ n_ => ∃ (u : Nat) (o : Option Tg), m_ = l.length - u ∧ s_ 26 = .lit (.int .i64 u) ∧ s_ 11 = .lit (.bool o.isSome) ∧ σ_ (N+4+8) = .box 29 (tagAV (o.getD zeroTag)) ∧ (u ≤ l.length) ∧ (cO a o (l.drop u) = R)) ⟨_, 0, o0, rfl, WF, WF, WF, WC, WC⟩ ?_
 intro m_2 s_2 σ_2 n_2 hs_2 hf_2 hn_2 hI_2
 obtain ⟨u, o, hm_2, h2_26, h2_11, e2_0, hu, hO⟩ := hI_2
 have h2_4 := KS hs_2 4
 have h2_8 := KS hs_2 8
 have h2_10 := KS hs_2 10
 have h2_24 := KS hs_2 24
 have h2_25 := KS hs_2 25
 have k2_0 := KE hf_2 (N)
 have k2_1 := KE hf_2 (N + 2)
 have k2_2 := KE hf_2 (g)
 have k2_3 := KE hf_2 (h)
 have hlow := KL (N := N) (σ := σ) hf_2
 by_cases hul : u = l.length
 ·subst hul
  rw [List.drop_length, cO_nil] at hO
  subst hO
  have hcs := True.intro
  exact W0
 ·have hu1 : u < l.length := by omega
  obtain ⟨p, hz⟩ : ∃ p, l[u] = p := ⟨_, rfl⟩
  have hzm : (l.map prAV)[u]? = some (prAV p) := by rw [List.getElem?_map, List.getElem?_eq_getElem hu1, hz]; rfl
  have hpo := hpr p (by rw [← hz]; exact List.getElem_mem _)
  rw [List.drop_eq_getElem_cons hu1, hz] at hO
  have c3 := pEncS_spec p hpo h
  have hEl := encPS_len p
  have c4 := Message_spec [99, 111, 110, 100, 105, 116, 105, 111, 110] (encPS p).1 (by decide) (by omega)
  have hM : [99, 111, 110, 100, 105, 116, 105, 111, 110] ++ (encPS p).1 = condM p := rfl
  rw [hM] at c4
  have hMl := condM_len p
  have c5 := fun x => Look_spec a x (condM p) (by have := ha.ml; omega) ha.mm (by simp [condM]) (by omega) g
  have he : predB p = false → (encPS p).2 = 5 := fun hq => by unfold encPS; rw [hq]; rfl
  have he0 : predB p = true → (encPS p).2 = 0 := fun hq => by unfold encPS; rw [hq]; rfl
  clear hM hpr hz hMl
  cases o with
  | none =>
   have hO : none = R := hO
   subst hO
   simp only [Option.getD_none, Option.isSome_none] at *
   obtain ⟨pk, pm, pf, pt, pn, px⟩ := p
   have hpA : prAV ⟨pk, pm, pf, pt, pn, px⟩ = .agg [.lit (.int .i64 pk), .lit (.int .u64 pm), .lit (.int .i64 pf), .lit (.int .i64 pt), .lit (.string ⟨pn.toArray⟩), .lit (.int .i64 px)] := rfl
   rw [hpA] at hzm c3
   unfold encAV at c3
   clear c4 c5 he he0 hpA hpo ha
   have hcs := And.intro c3 True.intro
   clear c3
   exact W0
  | some x =>
   rw [cO_cons] at hO
   have c5 := c5 x
   generalize lookO a x (condM p) = o1 at *
   generalize condM p = cm at *
   unfold entAV at c5
   obtain ⟨pk, pm, pf, pt, pn, px⟩ := p
   have hpA : prAV ⟨pk, pm, pf, pt, pn, px⟩ = .agg [.lit (.int .i64 pk), .lit (.int .u64 pm), .lit (.int .i64 pf), .lit (.int .i64 pt), .lit (.string ⟨pn.toArray⟩), .lit (.int .i64 px)] := rfl
   rw [hpA] at hzm c3
   unfold encAV at c3
   simp only [Option.getD_some, Option.isSome_some] at *
   cases hpb : predB ⟨pk, pm, pf, pt, pn, px⟩ with
   | false =>
    rw [he hpb] at c3
    rw [hpb] at hO
    rw [if_neg (by simp)] at hO
    subst hO
    simp only [Option.getD_none, Option.isSome_none] at *
    generalize (encPS ⟨pk, pm, pf, pt, pn, px⟩).1 = E at *
    clear c4 c5 he he0 hpA hpo ha hpb
    have e05 : ((5 : Nat) : Int) = 5 := rfl
    rw [e05] at c3
    have hcs := And.intro c3 True.intro
    clear c3
    exact W0
   | true =>
    rw [he0 hpb] at c3
    rw [hpb] at hO
    have e00 : ((0 : Nat) : Int) = 0 := rfl
    rw [e00] at c3
    generalize (encPS ⟨pk, pm, pf, pt, pn, px⟩).1 = E at *
    by_cases hk7 : pk = 7
    ·rw [if_neg (by simp [hk7])] at hO
     subst hO
     simp only [Option.getD_none, Option.isSome_none] at *
     clear c4 c5 he he0 hpA hpo hpb ha
     have hcs := And.intro c3 True.intro
     clear c3
     exact W0
    ·rw [if_pos ⟨rfl, hk7⟩] at hO
     clear hpA he he0 hpo hpb
     have hcs := And.intro c3 (And.intro c4 (And.intro c5 True.intro))
     clear c3 c4 c5
     refine Wk ?_
     exact ⟨WS, WG, WN, _, (show l.length - (u + 1) < m_2 by omega), u + 1, o1, rfl, WF, WF, WF, WC, WC⟩
end

theorem cutR (c : Nat) (b : List UInt8) : ∃ (m : Nat) (t : List UInt8), (if (c : Int) < (b.length : Int) then (c : Int) else (b.length : Int)) = (m : Int) ∧ m ≤ b.length ∧ m ≤ c ∧ t.length = m ∧ (b.map byteAV).take m = t.map byteAV := by
 refine ⟨min c b.length, b.take c, ?_, Nat.min_le_right .., Nat.min_le_left .., by simp, ?_⟩
 ·split <;> omega
 ·rw [← List.map_take]
  congr 1
  by_cases h : c ≤ b.length
  ·rw [Nat.min_eq_left h]
  ·rw [Nat.min_eq_right (by omega), List.take_length, List.take_of_length_le (by omega)]
theorem cutP (c : Nat) (b : List Pr) : ∃ (m : Nat) (t : List Pr), (if (c : Int) < (b.length : Int) then (c : Int) else (b.length : Int)) = (m : Int) ∧ m ≤ b.length ∧ m ≤ c ∧ t.length = m ∧ (b.map prAV).take m = t.map prAV ∧ ∀ p ∈ t, p ∈ b := by
 refine ⟨min c b.length, b.take c, ?_, Nat.min_le_right .., Nat.min_le_left .., by simp, ?_, fun p hp => List.mem_of_mem_take hp⟩
 ·split <;> omega
 ·rw [← List.map_take]
  congr 1
  by_cases h : c ≤ b.length
  ·rw [Nat.min_eq_left h]
  ·rw [Nat.min_eq_right (by omega), List.take_length, List.take_of_length_le (by omega)]
section
variable [W : W32]
theorem bindS_small (a : Alg) (d : Di) (leaf : Tg) (r : Rq) : (bindS a d leaf r).2.1.ticket.length ≤ d.ticket.length ∧ (bindS a d leaf r).2.1.conds.length ≤ d.conds.length := by
 unfold bindS
 repeat' split
 all_goals simp [bo0]
def BdQ (a : Alg) (z : Di) (leaf : Tg) (x : Rq) (g : Nat) : Prop := ∃ (r : Alg × Bo × Nat) (T : Tg) (b : Bool),
 (∀ k, ACall Tryz.prog 26 [algAV a, diAV z, tagAV leaf, rqAV x] k [(g, shaG)] (mbAV r) []) ∧
 (∀ k, ACall Tryz.prog 27 [algAV a, diAV z, tagAV leaf, rqAV x] k [] (mbAV r) []) ∧
 (∀ k, ACall Tryz.prog 22 [algAV r.1, algAV r.1] k [] (.lit (.bool true)) []) ∧
 (∀ k, ACall Tryz.prog 28 [boAV r.2.1, boAV r.2.1] k [] (.lit (.bool true)) []) ∧
 (∀ k, ACall Tryz.prog 29 [algAV a, tagAV z.tag, tagAV leaf, rqAV x] k [(g, shaG)] (.tup [tagAV T, .lit (.bool b)]) []) ∧
 (∀ k, ACall Tryz.prog 30 [algAV a, tagAV z.tag, tagAV leaf, rqAV x] k [] (.tup [tagAV T, .lit (.bool b)]) [])
theorem BdQ_ex {a : Alg} (ha : AlgIn a 1000) {z : Di} (hz : z.ticket.length ≤ 1000 ∧ z.conds.length ≤ 100) (leaf : Tg) (x : Rq) (g : Nat) : BdQ a z leaf x g := by
 obtain ⟨s1, s2⟩ := bindS_small a z leaf x
 exact ⟨bindS a z leaf x, _, _, Bind_spec a 1000 ha (by decide) z leaf x (by omega) (by omega) g, refBind_spec a 1000 ha (by decide) z leaf x, SameAlg_refl _ 1001 (bindS_in ha z leaf x) (by decide), SameBound_refl _ (by omega) (by omega), dProof_spec a 1000 ha (by decide) z.tag leaf x g, refProof_spec a 1000 ha (by decide) z.tag leaf x⟩
set_option maxHeartbeats 16000000 in
theorem DischargeBind_core (xs : List Int) (hx : xs.length ≤ 9223372036854775807) (q : Rq) (key : Tg) (raw : List UInt8) (l : List Pr) (hlo : ∀ p ∈ l, PrOk p) (g h k : Nat) :
  ACall Tryz.prog 4 [.slice none (xs.map intAV), rqAV q, tagAV key, .slice none (raw.map byteAV), .slice none (l.map prAV)] k [(g, shaG), (h, bitsG)] (.lit (.bool true)) [] := by
 have c9 := awake15_spec
 obtain ⟨m1, t1, q1, q2, q3, q4, q5⟩ := cutR 100 raw
 obtain ⟨m2, l1, p1, p2, p3, p4, p5, p6⟩ := cutP 30 l
 have q6 : (if (100 : Int) < (raw.length : Int) then (100 : Int) else (raw.length : Int)) = (m1 : Int) := q1
 have p7 : (if (30 : Int) < (l.length : Int) then (30 : Int) else (l.length : Int)) = (m2 : Int) := p1
 have hl1 : ∀ p ∈ l1, PrOk p := fun p hp => hlo p (p6 p hp)
 clear q1 p1 p6 hlo
 have c1 := New_spec xs
 obtain ⟨s, j, hs, hj, c2⟩ := Scene_ex xs 0 ⟨hx, Nat.zero_le _⟩
 have c3 := Bytes_spec xs j 9 hj (by omega)
 have hbt := bytesD_len xs j 9
 have hj2 := bytesD_dk 9 hj
 generalize bytesD xs j 9 = BD at *
 obtain ⟨bt, j2⟩ := BD
 simp only at c3 hbt hj2
 obtain ⟨R, j3, hRl, hRo, hj3, c4⟩ := Preds_ex xs j2 hj2 3 (by omega) true
 have c5 := Tag_spec xs j3 hj3
 have hj4 := tagD_dk hj3
 generalize tagD xs j3 = TD at *
 obtain ⟨t, j4⟩ := TD
 simp only at c5 hj4
 have c6 := Next_spec xs j4 10 hj4 (by omega) (by omega)
 have hj5 := nextD_dk 10 hj4
 have hb5 := nextD_lt xs j4 10 (by omega)
 generalize nextD xs j4 10 = ND at *
 obtain ⟨gx, j5⟩ := ND
 simp only at c6 hj5 hb5
 have c7 := Next_spec xs j5 4 hj5 (by omega) (by omega)
 have hb6 := nextD_lt xs j5 4 (by omega)
 generalize nextD xs j5 4 = ND at *
 obtain ⟨nx, j6⟩ := ND
 simp only at c7 hb6
 obtain ⟨se, hG, _⟩ := hs.good
 have hin := hG.ain
 have hgv := hG.gv
 have hgl := hG.gl
 obtain ⟨sa, sr, sc, ⟨pe, ps, pc, pt⟩, sg, sq, sh, sm⟩ := s
 simp only at *
 have hsA : scAV ⟨sa, sr, sc, ⟨pe, ps, pc, pt⟩, sg, sq, sh, sm⟩ = .agg [algAV sa, rgAV sr, concAV sc, .agg [.lit (.int .i64 pe), .lit (.int .i64 ps), .slice none (pc.map caAV), tagAV pt], .slice none (sg.map diAV), rqAV sq, .lit (.string ⟨sh.toArray⟩), .lit (.int .i64 sm)] := rfl
 rw [hsA] at c2
 obtain ⟨QL, hQL⟩ : ∃ QL : List Rq, QL = [sq, q, ⟨(gx : Int) - 1, (nx : Int) - 1⟩] := ⟨_, rfl⟩
 have hQ3 : QL.length = 3 := by rw [hQL]; rfl
 have hle : ∀ r : Nat, AV.le (.slice (some r) [rqAV sq, rqAV q, .agg [.lit (.int .i64 ((gx : Int) - 1)), .lit (.int .i64 ((nx : Int) - 1))]]) (.slice none (QL.map rqAV)) := fun r => by rw [hQL]; exact AV.le_own _ _
 have hQu : ∀ u : Nat, u < 3 → ∃ y, (QL.map rqAV)[u]? = some (rqAV y) := fun u hu => by
  rw [hQL]
  obtain rfl | rfl | rfl : u = 0 ∨ u = 1 ∨ u = 2 := by omega
  ·exact ⟨_, rfl⟩
  ·exact ⟨_, rfl⟩
  ·exact ⟨_, rfl⟩
 clear hsA hs hj hj2 hj3 hj4 hj5 hG hQL
 obtain ⟨z, hz1, hz2, hzc⟩ : ∃ z : Di, (z.ticket.length ≤ 1000 ∧ z.conds.length ≤ 100) ∧ (∀ p ∈ z.conds, PrOk p) ∧ ((sg.length = 0 ∧ z = ⟨bt, R, t⟩) ∨ (0 < sg.length ∧ (sg.map diAV)[0]? = some (diAV z))) := by
  cases sg with
  | nil => exact ⟨⟨bt, R, t⟩, ⟨by simp only; omega, by simp only; omega⟩, fun p hp => (hRo p hp).1, .inl ⟨rfl, rfl⟩⟩
  | cons z r =>
   have hv := hgv z (List.mem_cons_self ..)
   exact ⟨z, ⟨Nat.le_trans hv.t2 (by omega), Nat.le_trans hv.cl (by omega)⟩, fun p hp => (hv.cv p hp).2.1, .inr ⟨by simp, rfl⟩⟩
 have d1 := dTag_spec sa 1000 hin (by decide) key t1 (by omega) l1 (by omega) hl1 g h
 have d2 := refTag_spec sa 1000 hin (by decide) key t1 (by omega) l1 (by omega) hl1
 have d3 := dTag_spec sa 1000 hin (by decide) key z.ticket (by omega) z.conds (by omega) hz2 g h
 have d4 := refTag_spec sa 1000 hin (by decide) key z.ticket (by omega) z.conds (by omega) hz2
 unfold entAV at d1 d2 d3 d4
 generalize (dtagO sa key t1 l1).getD zeroTag = T1 at *
 generalize (dtagO sa key t1 l1).isSome = B1 at *
 generalize (dtagO sa key z.ticket z.conds).getD zeroTag = T2 at *
 generalize (dtagO sa key z.ticket z.conds).isSome = B2 at *
 obtain ⟨zt, zc, zg⟩ := z
 have hzA : diAV ⟨zt, zc, zg⟩ = .agg [.slice none (zt.map byteAV), .slice none (zc.map prAV), tagAV zg] := rfl
 simp only at hz1 hz2 d3 d4
 rw [hzA] at hzc
 clear hl1 hz2 hRo hgv
 refine Bd Tryz.func4 Tryz.ntmps4 fun σ N hp hpn hk hkn hfree => ?_
 simp only [List.mem_cons, List.not_mem_nil, or_false, forall_eq_or_imp, forall_eq] at hp hpn; obtain ⟨hd1, hd2⟩ := hp; obtain ⟨hdn1, hdn2⟩ := hpn
 have hcs := And.intro c1 (And.intro (c2 (N + 15 + 1)) (And.intro (c3 (N + 15 + 1)) (And.intro (c4 (N + 15 + 1)) (And.intro (c5 (N + 15 + 1)) (And.intro (c6 (N + 15 + 1)) (And.intro (c7 (N + 15 + 1)) True.intro))))))
 clear c1 c2 c3 c4 c5 c6 c7
 rcases hzc with ⟨hs0, hzz⟩ | ⟨hs0, hzm⟩
 have hs1 : ¬ (0 : Int) < (sg.length : Int) := by omega
 obtain ⟨z1, z2, z3⟩ : zt = bt ∧ zc = R ∧ zg = t := by cases hzz; exact ⟨rfl, rfl, rfl⟩
 clear hzz
 subst z1
 subst z2
 subst z3
 refine Wk ?_
 rotate_left
 have hs1 : (0 : Int) < (sg.length : Int) := by omega
 refine Wk ?_
 all_goals
  clear hcs
  refine go_less 73 (by simp (disch := omega) [go_sem, *]; try rfl) (hle _) ?_
  clear hle
  refine go_loopF mixed (by kernel_rfl) (10 :: 15 :: 16 :: 17 :: 18 :: 19 :: 20 :: 21 :: 22 :: 23 :: 24 :: 25 :: 75 :: 76 :: 77 :: 78 :: 79 :: 80 :: 81 :: 82 :: 83 :: 84 :: 85 :: 86 :: 87 :: 88 :: 89 :: 90 :: 91 :: 92 :: 93 :: 94 :: 95 :: 96 :: 97 :: 98 :: 99 :: 100 :: 101 :: 102 :: 103 :: 104 :: 105 :: 106 :: 107 :: 108 :: 109 :: 110 :: 111 :: 112 :: 113 :: 114 :: 115 :: 116 :: 117 :: 118 :: 119 :: 120 :: 121 :: 122 :: 123 :: 124 :: 125 :: 126 :: 127 :: 128 :: 129 :: 130 :: 131 :: 132 :: 133 :: 134 :: 135 :: 136 :: 137 :: 138 :: 139 :: 140 :: 141 :: 142 :: 143 :: 144 :: 145 :: 146 :: 147 :: 148 :: 149 :: 150 :: []) [] (fun m_ s_ σ_ n_ => ∃ (u : Nat), m_ = 3 - u ∧ s_ 75 = .lit (.int .i64 u) ∧ (u ≤ 3)) ⟨_, 0, rfl, WF, WC⟩ ?_
  intro m_1 s_1 σ_1 n_1 hs_1 hf_1 hn_1 hI_1
  obtain ⟨u, hm_1, h1_75, hu⟩ := hI_1
  have h1_3 := KS hs_1 3
  have h1_4 := KS hs_1 4
  have h1_7 := KS hs_1 7
  have h1_12 := KS hs_1 12
  have h1_13 := KS hs_1 13
  have h1_73 := KS hs_1 73
  have h1_74 := KS hs_1 74
  have k1_0 := KE hf_1 (N)
  have k1_1 := KE hf_1 (N + 1)
  have k1_2 := KE hf_1 (N + 18 + 2)
  have k1_3 := KE hf_1 (N + 22 + 7)
  have k1_4 := KE hf_1 (g)
  have k1_5 := KE hf_1 (h)
  have hlow := KL (N := N) (σ := σ) hf_1
  by_cases hul : u = 3
  ·subst hul
   clear hQu
   have hcs := And.intro d1 (And.intro d2 (And.intro d3 (And.intro d4 (And.intro c9 True.intro))))
   clear d1 d2 d3 d4 c9
   exact W0
  ·have hu1 : u < 3 := by omega
   have hu2 : (u : Int) < 3 := by omega
   obtain ⟨y, hym⟩ := hQu u hu1
   obtain ⟨⟨b, w, e⟩, T3, B3, k1, k2, k3, k4, k5, k6⟩ := BdQ_ex (z := ⟨zt, zc, zg⟩) hin hz1 pt y g
   rw [hzA] at k1 k2
   unfold mbAV at k1 k2
   simp only at k1 k2 k3 k4 k5 k6
   clear hQu d1 d2 d3 d4 c9
   have hcs := And.intro k1 (And.intro k2 (And.intro k3 (And.intro k4 (And.intro k5 (And.intro k6 True.intro)))))
   clear k1 k2 k3 k4 k5 k6
   refine Wk ?_
   exact ⟨WS, WG, WN, _, (show 3 - (u + 1) < m_1 by omega), u + 1, rfl, WF, WC⟩
end
theorem DischargeBind_spec (xs : List Int) (_ : ∀ n ∈ xs, (Lit.int .i64 n).wf = true) (hx : xs.length ≤ 9223372036854775807) (q : Rq) (_ : True) (key : Tg) (_ : True) (raw : List UInt8) (l : List Pr) (hl : l.length ≤ 9223372036854775807 ∧ ∀ p ∈ l, PrOk p) (g h : Nat) (_ : g ≠ h) (k : Nat) :
  ACall Tryz.prog 4 [.slice none (xs.map intAV), rqAV q, tagAV key, .slice none (raw.map byteAV), .slice none (l.map prAV)] k [(g, shaG), (h, bitsG)] (.lit (.bool true)) [] :=
 @DischargeBind_core w32 xs hx q key raw l hl.2 g h k
end Go.Proofs.YtdmjpolnbmoehaaGreatDoor
