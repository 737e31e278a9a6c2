/- Texts U15, I1, Q6, W15, W16, X17, P4, C14, C15, X1, X2, X3, joined. -/
import Derived.Test.YtdmjpolnbmoehaaGreatDoorMH2
import Derived.RecoverIn
import Derived.RangeFuncLeaves

namespace Go.Proofs.YtdmjpolnbmoehaaGreatDoor
open Go.Ab
attribute [local irreducible] Go.Ab.tyAV Go.Ab.aw Go.Ab.aops Go.Ab.kReg Go.Ab.aThen Go.Ab.aBlk Go.Ab.acond Go.Ab.aguard Go.Ab.astep Go.Ab.AStepX Go.Ab.aRet
attribute [local irreducible] shaG
@[go_sem] theorem tagAV_shut (t : Tg) : (tagAV t).shut = true := AV.shutl_map byteAV (fun _ => rfl) t.1
@[go_sem] theorem bytes_shut (l : List UInt8) : AV.shutl (l.map byteAV) = true := AV.shutl_map byteAV (fun _ => rfl) l
@[go_sem] theorem prAV_shut (p : Pr) : (prAV p).shut = true := by simp only [prAV, AV.shut, AV.shutl, Bool.and_self]
@[go_sem] theorem prs_shut (l : List Pr) : AV.shutl (l.map prAV) = true := AV.shutl_map prAV prAV_shut l
@[go_sem] theorem caAV_shut (p : Ca) : (caAV p).shut = true := by simp only [caAV, AV.shut, AV.shutl, prAV_shut, bytes_shut, Bool.and_self]
@[go_sem] theorem cas_shut (l : List Ca) : AV.shutl (l.map caAV) = true := AV.shutl_map caAV caAV_shut l
@[go_sem] theorem boAV_shut (p : Bo) : (boAV p).shut = true := by simp only [boAV, AV.shut, AV.shutl, tagAV_shut, prs_shut, bytes_shut, Bool.and_self]
@[go_sem] theorem bos_shut (l : List Bo) : AV.shutl (l.map boAV) = true := AV.shutl_map boAV boAV_shut l
section
variable [W : W32]
theorem bindS_ok {a : Alg} {m : Nat} (ha : AlgIn a m) (hm : m ≤ 60000) (d : Di) (leaf : Tg) {r : Rq} (hr : rqB r = true) :
  (macS a d.tag (bindM leaf r.gate.toNat r.nonce.toNat)).2.2 = 0 ∧ bindS a d leaf r = ((macS a d.tag (bindM leaf r.gate.toNat r.nonce.toNat)).1, ⟨d.ticket, d.conds, (macS a d.tag (bindM leaf r.gate.toNat r.nonce.toNat)).2.1⟩, 0) := by
 obtain ⟨⟨r1, r2⟩, r3, r4⟩ := rqB_iff.1 hr
 have hl := bindM_len leaf (g := r.gate.toNat) (n := r.nonce.toNat) (by omega) (by omega)
 have h0 := macS_ok (a := a) d.tag (msg := bindM leaf r.gate.toNat r.nonce.toNat) (by omega) (by have := ha.ml; omega)
 refine ⟨h0, ?_⟩
 unfold bindS
 rw [if_neg (by rw [hr]; simp), if_pos h0]
end

theorem ClonePr_cons (l : List Pr) (he : l.isEmpty = false) (hl : l.length ≤ 100000) (k : Nat) :
  ACall Tryz.prog 156 [.slice none (l.map prAV)] k [] (.slice none (l.map prAV)) [] := by
 refine Bd Tryz.func156 Tryz.ntmps156 fun σ N hp hpn hk hkn hfree => ?_
 exact WM
theorem ClonePr_empty (A : Addr) (c k : Nat) : ACall Tryz.prog 156 [.lit (.slice (some A) 0 c)] k [] (.slice none []) [] := by
 refine Bd Tryz.func156 Tryz.ntmps156 fun σ N hp hpn hk hkn hfree => ?_
 exact WM
theorem ClonePr_nil (c k : Nat) : ACall Tryz.prog 156 [.lit (.slice none 0 c)] k [] (.slice none []) [] := by
 refine Bd Tryz.func156 Tryz.ntmps156 fun σ N hp hpn hk hkn hfree => ?_
 exact WM
theorem ClonePr_spec (l : List Pr) (hl : l.length ≤ 100000) (k : Nat) :
  ACall Tryz.prog 156 [.slice none (l.map prAV)] k [] (.slice none (l.map prAV)) [] := by
 cases l with
 | cons x r => exact ClonePr_cons (x :: r) rfl hl k
 | nil =>
  refine ACall.empty fun A c => ?_
  cases A with
  | none => exact ClonePr_nil c k
  | some A => exact ClonePr_empty A c k
theorem dMsg_spec (w b : List UInt8) (g n : Nat) (hw : w.length ≤ 1000) (hb : b.length ≤ 1000) (hg : g ≤ 281474976710656) (hn : n ≤ 281474976710656) (k : Nat) :
  ACall Tryz.prog 93 [.lit (.string ⟨w.toArray⟩), .slice none (b.map byteAV), .agg [.lit (.int .i64 g), .lit (.int .i64 n)]] k [] (.slice none ((w ++ (b ++ (leb g ++ leb n))).map byteAV)) [] := by
 have c1 := Message_spec w b (by omega) (by omega)
 have hwb : (w ++ b).length ≤ 2000 := by rw [List.length_append]; omega
 have hl := leb_len g 7 (by omega)
 have c2 := Append_ok_f (w ++ b) (by omega) g hg
 have c3 := Append_ok_f (w ++ b ++ leb g) (by rw [List.length_append]; omega) n hn
 have hA : w ++ b ++ leb g ++ leb n = w ++ (b ++ (leb g ++ leb n)) := by simp only [List.append_assoc]
 rw [hA] at c3
 generalize w ++ (b ++ (leb g ++ leb n)) = R at *
 generalize w ++ b ++ leb g = R2 at *
 generalize w ++ b = R1 at *
 clear hA
 refine Bd Tryz.func93 Tryz.ntmps93 fun σ N hp hpn hk hkn hfree => ?_
 have hcs := And.intro c1 (And.intro c2 (And.intro c3 True.intro))
 clear c1 c2 c3
 exact WM
section
variable [W : W32]
theorem macS_mMac {a : Alg} {key : Tg} {msg : List UInt8} (h : (macS a key msg).2.2 = 0) : mMac a 0 key msg = ((macS a key msg).1, 0, (macS a key msg).2.1) := by
 unfold mMac
 rw [if_neg (by simp), if_pos h]
set_option maxHeartbeats 4000000 in
theorem dInto_spec (a : Alg) (m : Nat) (ha : AlgIn a m) (hm : m ≤ 60000) (d : Di) (leaf : Tg) (r : Rq) (hr : rqB r = true) (ht : d.ticket.length ≤ 100000) (hc : d.conds.length ≤ 100000) (q r1 r2 g k : Nat) :
  ACall Tryz.prog 88 [.ptr q [] 0, diAV d, tagAV leaf, rqAV r] k (makE a 0 q r1 r2 ++ [(g, shaG)]) (boAV (bindS a d leaf r).2.1) [(q, makB (bindS a d leaf r).1 0 r1 r2), (r1, rowM (bindS a d leaf r).1.macs.length)] := by
 obtain ⟨h0, hB⟩ := bindS_ok ha hm d leaf hr
 rw [hB]
 simp only
 obtain ⟨⟨q1, q2⟩, q3, q4⟩ := rqB_iff.1 hr
 have c1 := Req_spec r
 rw [hr] at c1
 have c2 := Clone_spec d.ticket (by omega)
 have c3 := ClonePr_spec d.conds hc
 have c4 := dMsg_spec [98, 105, 110, 100] leaf.1 r.gate.toNat r.nonce.toNat (by decide) (by rw [leaf.2]; decide) (by omega) (by omega)
 have hml := bindM_len leaf (g := r.gate.toNat) (n := r.nonce.toNat) (by omega) (by omega)
 have hmp : 0 < (bindM leaf r.gate.toNat r.nonce.toNat).length := by simp [bindM]
 have hbm : [98, 105, 110, 100] ++ (leaf.1 ++ (leb r.gate.toNat ++ leb r.nonce.toNat)) = bindM leaf r.gate.toNat r.nonce.toNat := rfl
 rw [hbm] at c4
 have c5 := mMac_spec a 0 d.tag (bindM leaf r.gate.toNat r.nonce.toNat) (by have := ha.ml; omega) ha.mm (fun _ => hmp) (by omega) q r1 r2 g
 rw [macS_mMac h0] at c5
 have hbx := (macS_boxes a d.tag _ h0).1
 simp only at c5
 generalize macS a d.tag (bindM leaf r.gate.toNat r.nonce.toNat) = Y at *
 obtain ⟨a2, t2, e2⟩ := Y
 simp only at *
 obtain ⟨rg, rn⟩ := r
 simp only at *
 rw [show ((rg.toNat : Nat) : Int) = rg by omega, show ((rn.toNat : Nat) : Int) = rn by omega] at c4
 generalize bindM leaf rg.toNat rn.toNat = bm at *
 obtain ⟨ti, cs, dt⟩ := d
 simp only at *
 have hrA : rqAV ⟨rg, rn⟩ = .agg [.lit (.int .i64 rg), .lit (.int .i64 rn)] := rfl
 have hdA : diAV ⟨ti, cs, dt⟩ = .agg [.slice none (ti.map byteAV), .slice none (cs.map prAV), tagAV dt] := rfl
 have hoA : boAV ⟨ti, cs, t2⟩ = .agg [.slice none (ti.map byteAV), .slice none (cs.map prAV), tagAV t2] := rfl
 have hlA : tagAV leaf = .agg (leaf.1.map byteAV) := rfl
 have ps1 := tagAV_sz leaf
 have ps2 := tagAV_cell leaf
 obtain ⟨K, hK⟩ := leaf
 rw [hlA] at ps1 ps2 ⊢
 rw [hrA] at c1 ⊢
 rw [hdA, hoA]
 simp only at *
 clear hrA hdA hoA hlA hbm hB hml hmp h0 ha
 have htk : (K.map byteAV).take 32 = K.map byteAV := List.take_of_length_le (by rw [List.length_map]; omega)
 unfold makE at *
 simp only [List.cons_append, List.nil_append] at *
 simp only [makB_def, rowM_eq, rowB_eq, hbx] at *
 clear hbx
 refine Bd Tryz.func88 Tryz.ntmps88 fun σ N hp hpn hk hkn hfree => ?_
 simp only [List.mem_cons, List.not_mem_nil, or_false, forall_eq_or_imp, forall_eq] at hp hpn; obtain ⟨hd1, hd2, hd3, hd4⟩ := hp; obtain ⟨hdn1, hdn2, hdn3, hdn4⟩ := hpn
 have hne : q ≠ r1 := by rintro rfl; rw [hd1] at hd2; cases hd2
 have hne3 : q ≠ r2 := by rintro rfl; rw [hd1] at hd3; cases hd3
 have hneg : g ≠ q := by rintro rfl; rw [hd4] at hd1; exact shaG_nbox hd1
 have hneg1 : g ≠ r1 := by rintro rfl; rw [hd4] at hd2; exact shaG_nrow hd2
 have hne23 : r1 ≠ r2 := by rintro rfl; rw [hd2] at hd3; simp at hd3
 have hcs := And.intro c1 (And.intro c2 (And.intro c3 (And.intro c4 (And.intro c5 True.intro))))
 clear c1 c2 c3 c4 c5
 refine Wk ?_
 refine go_resultW [(q, (.box 203 (.agg [.agg [.lit (.bool a2.free), tagAV a2.seed, .lit (.int .i64 a2.fresh), .slice (some r1) (a2.macs.map macAV), .slice (some r2) (a.boxes.map sealAV)], .lit (.int .i64 0)]))), (r1, (.row 149 65 a2.macs.length))] (by simp (disch := omega) [go_sem, *, -List.reduceReplicate]; rfl) (by first | rfl | (simp (disch := omega) [go_sem]; done) | (simp (disch := omega) [go_sem, *]; done) | simp (disch := omega) [go_sem]) (fun id hid => by simp only [wr_cons, wr_nil]; (by_cases hdd : id = q; (· (subst hdd; simp (disch := omega) [go_sem, *])); (· (by_cases hdd2 : id = r1; (· (subst hdd2; simp (disch := omega) [go_sem, *])); (· (simp (disch := omega) only [upd_ne]; try (first | exact hlow id hid hdd hdd2 | exact hlow id hid))))))) (by simp) (by simp (disch := omega) [go_sem, *])
end

section
variable [W : W32]
theorem Look_spec (a : Alg) (key : Tg) (msg : List UInt8) (hl : a.macs.length ≤ 1000000) (hm : ∀ e ∈ a.macs, e.msg.length ≤ 100000) (h0 : 0 < msg.length) (hmsg : msg.length ≤ 1000000) (g k : Nat) :
  ACall Tryz.prog 66 [algAV a, tagAV key, .slice none (msg.map byteAV)] k [(g, shaG)] (entAV (lookO a key msg)) [] := by
 have c1 := find_spec a.macs key msg hl hm hmsg
 obtain ⟨fr, sd, fs, L, B⟩ := a
 simp only at hl hm c1
 unfold lookO
 cases fr with
 | true =>
  simp only [if_true]
  cases he : entL key msg L with
  | none =>
   rw [fI_none L 0 he] at c1
   unfold entAV
   simp only [Option.getD_none, Option.isSome_none, algAV]
   clear hm he
   refine Bd Tryz.func66 Tryz.ntmps66 fun σ N hp hpn hk hkn hfree => ?_
   obtain ⟨hd, hdn⟩ := HD0 hp hpn; clear hp hpn
   have hcs := And.intro c1 True.intro
   clear c1
   exact W0
  | some t =>
   obtain ⟨i, hi, hfi, hti⟩ := fI_some L 0 he
   rw [hfi, Nat.zero_add] at c1
   obtain ⟨z, hz⟩ : ∃ z, L[i] = z := ⟨_, rfl⟩
   rw [hz] at hti
   obtain ⟨zk, zm, zt⟩ := z
   simp only at hti
   subst hti
   have hzd : macAV ⟨zk, zm, zt⟩ = .agg [tagAV zk, bAV zm, tagAV zt] := rfl
   have hi0 : ¬ (i : Int) < 0 := by omega
   unfold entAV
   simp only [Option.getD_some, Option.isSome_some, algAV]
   clear hm he hfi
   refine Bd Tryz.func66 Tryz.ntmps66 fun σ N hp hpn hk hkn hfree => ?_
   obtain ⟨hd, hdn⟩ := HD0 hp hpn; clear hp hpn
   have hcs := And.intro c1 True.intro
   clear c1
   exact W0
 | false =>
  simp only [Bool.false_eq_true, if_false]
  clear c1 hm
  by_cases h1 : 4096 < msg.length
  ·rw [if_pos h1]
   have h1i : (4096 : Int) < (msg.length : Int) := by omega
   unfold entAV
   simp only [Option.getD_none, Option.isSome_none, algAV]
   refine Bd Tryz.func66 Tryz.ntmps66 fun σ N hp hpn hk hkn hfree => ?_
   obtain ⟨hd, hdn⟩ := HD0 hp hpn; clear hp hpn
   exact W0
  ·rw [if_neg h1]
   have h1i : ¬ (4096 : Int) < (msg.length : Int) := by omega
   have c2 := hmacOf_spec key.1 msg (by rw [key.2]; decide) h0 (by omega) g
   generalize hmacT key.1 msg = t at *
   have hs1 := tagAV_sz key
   have hs2 := tagAV_cell key
   obtain ⟨K, hK⟩ := key
   have hkA : tagAV ⟨K, hK⟩ = .agg (K.map byteAV) := rfl
   simp only [hkA] at hs1 hs2 c2 ⊢
   clear hkA
   have hs3 : AV.celll (K.map byteAV) = true := celll_bytes K
   have htk : (K.map byteAV).take 32 = K.map byteAV := List.take_of_length_le (by rw [List.length_map]; omega)
   unfold entAV
   simp only [Option.getD_some, Option.isSome_some, algAV]
   refine Bd Tryz.func66 Tryz.ntmps66 fun σ N hp hpn hk hkn hfree => ?_
   obtain ⟨hd, hdn⟩ := HD0 hp hpn; clear hp hpn
   have hcs := And.intro c2 True.intro
   clear c2
   exact W0
end

theorem dMsg_any (w b : List UInt8) (r : Rq) (hw : w.length ≤ 1000) (hb : b.length ≤ 1000) : ∃ R : List UInt8, R.length ≤ 100000 ∧ ∀ k, ACall Tryz.prog 93 [.lit (.string ⟨w.toArray⟩), .slice none (b.map byteAV), rqAV r] k [] (.slice none (R.map byteAV)) [] := by
 have c1 := Message_spec w b (by omega) (by omega)
 have hwb : (w ++ b).length ≤ 2000 := by rw [List.length_append]; omega
 obtain ⟨rg, rn⟩ := r
 have hrA : rqAV ⟨rg, rn⟩ = .agg [.lit (.int .i64 rg), .lit (.int .i64 rn)] := rfl
 rw [hrA]
 clear hrA
 generalize w ++ b = R1 at *
 obtain ⟨X, hX, c2⟩ : ∃ (X : List UInt8 × Nat), X.1.length ≤ 3000 ∧ ∀ k, ACall Tryz.prog 158 [.slice none (R1.map byteAV), .lit (.int .i64 rg)] k [] (encAV X) [] := by
  by_cases h : rg < 0 ∨ 281474976710656 < rg
  ·exact ⟨([], 1), by simp, fun k => (Append_bad R1 rg h k).result (AV.sub_tup (.cons AV.le_nils0 (.cons (AV.le_refl _) .nil)))⟩
  ·obtain ⟨n, rfl⟩ := Int.eq_ofNat_of_zero_le (show 0 ≤ rg by omega)
   have hl := leb_len n 7 (by omega)
   exact ⟨(R1 ++ leb n, 0), by simp only [List.length_append]; omega, fun k => Append_ok_f R1 (by omega) n (by omega) k⟩
 obtain ⟨R2, E2⟩ := X
 simp only at hX
 obtain ⟨Y, hY, c3⟩ : ∃ (X : List UInt8 × Nat), X.1.length ≤ 4000 ∧ ∀ k, ACall Tryz.prog 158 [.slice none (R2.map byteAV), .lit (.int .i64 rn)] k [] (encAV X) [] := by
  by_cases h : rn < 0 ∨ 281474976710656 < rn
  ·exact ⟨([], 1), by simp, fun k => (Append_bad R2 rn h k).result (AV.sub_tup (.cons AV.le_nils0 (.cons (AV.le_refl _) .nil)))⟩
  ·obtain ⟨n, rfl⟩ := Int.eq_ofNat_of_zero_le (show 0 ≤ rn by omega)
   have hl := leb_len n 7 (by omega)
   exact ⟨(R2 ++ leb n, 0), by simp only [List.length_append]; omega, fun k => Append_ok_f R2 (by omega) n (by omega) k⟩
 obtain ⟨R3, E3⟩ := Y
 simp only at hY
 refine ⟨R3, by omega, fun k => ?_⟩
 unfold encAV at c2 c3
 simp only at c2 c3
 clear hX hY hwb
 refine Bd Tryz.func93 Tryz.ntmps93 fun σ N hp hpn hk hkn hfree => ?_
 have hcs := And.intro c1 (And.intro c2 (And.intro c3 True.intro))
 clear c1 c2 c3
 exact WM
section
variable [W : W32]
set_option maxHeartbeats 4000000 in
theorem dInto_bad (a : Alg) (m : Nat) (ha : AlgIn a m) (hm : m ≤ 60000) (d : Di) (leaf : Tg) (r : Rq) (hr : rqB r = false) (ht : d.ticket.length ≤ 100000) (hc : d.conds.length ≤ 100000) (q r1 r2 g k : Nat) :
  ACall Tryz.prog 88 [.ptr q [] 0, diAV d, tagAV leaf, rqAV r] k (makE a 0 q r1 r2 ++ [(g, shaG)]) (boAV ⟨d.ticket, d.conds, zeroTag⟩) [(q, makB a 1 r1 r2), (r1, rowM a.macs.length)] := by
 have c1 := Req_spec r
 rw [hr] at c1
 have cf := Fail_spec a 0 1 q r1 r2
 have c2 := Clone_spec d.ticket (by omega)
 have c3 := ClonePr_spec d.conds hc
 obtain ⟨R, hRl, c4⟩ := dMsg_any [98, 105, 110, 100] leaf.1 r (by decide) (by rw [leaf.2]; decide)
 have c5 := mMac_spec a 1 d.tag R (by have := ha.ml; omega) ha.mm (fun h => absurd h (by decide)) hRl q r1 r2 g
 rw [mMac_err (show (1 : Nat) ≠ 0 by decide)] at c5
 simp only at c5
 obtain ⟨rg, rn⟩ := r
 obtain ⟨ti, cs, dt⟩ := d
 simp only at *
 have hrA : rqAV ⟨rg, rn⟩ = .agg [.lit (.int .i64 rg), .lit (.int .i64 rn)] := rfl
 have hdA : diAV ⟨ti, cs, dt⟩ = .agg [.slice none (ti.map byteAV), .slice none (cs.map prAV), tagAV dt] := rfl
 have hoA : boAV ⟨ti, cs, zeroTag⟩ = .agg [.slice none (ti.map byteAV), .slice none (cs.map prAV), tagAV zeroTag] := rfl
 have hlA : tagAV leaf = .agg (leaf.1.map byteAV) := rfl
 have ps1 := tagAV_sz leaf
 have ps2 := tagAV_cell leaf
 obtain ⟨K, hK⟩ := leaf
 rw [hlA] at ps1 ps2 ⊢
 rw [hrA] at c1 c4 ⊢
 rw [hdA, hoA]
 simp only at *
 clear hrA hdA hoA hlA ha hRl hr
 have htk : (K.map byteAV).take 32 = K.map byteAV := List.take_of_length_le (by rw [List.length_map]; omega)
 have e01 : ((1 : Nat) : Int) = 1 := rfl
 have e00 : ((0 : Nat) : Int) = 0 := rfl
 unfold makE at *
 simp only [List.cons_append, List.nil_append, if_true] at *
 simp only [makB_def, rowM_eq, rowB_eq, e01, e00] at *
 clear e01 e00
 refine Bd Tryz.func88 Tryz.ntmps88 fun σ N hp hpn hk hkn hfree => ?_
 simp only [List.mem_cons, List.not_mem_nil, or_false, forall_eq_or_imp, forall_eq] at hp hpn; obtain ⟨hd1, hd2, hd3, hd4⟩ := hp; obtain ⟨hdn1, hdn2, hdn3, hdn4⟩ := hpn
 have hne : q ≠ r1 := by rintro rfl; rw [hd1] at hd2; cases hd2
 have hne3 : q ≠ r2 := by rintro rfl; rw [hd1] at hd3; cases hd3
 have hneg : g ≠ q := by rintro rfl; rw [hd4] at hd1; exact shaG_nbox hd1
 have hneg1 : g ≠ r1 := by rintro rfl; rw [hd4] at hd2; exact shaG_nrow hd2
 have hne23 : r1 ≠ r2 := by rintro rfl; rw [hd2] at hd3; simp at hd3
 have hcs := And.intro c1 (And.intro cf (And.intro c2 (And.intro c3 (And.intro c4 (And.intro c5 True.intro)))))
 clear c1 cf c2 c3 c4 c5
 refine Wk ?_
 refine go_resultW [(q, (.box 203 (.agg [.agg [.lit (.bool a.free), tagAV a.seed, .lit (.int .i64 a.fresh), .slice (some r1) (a.macs.map macAV), .slice (some r2) (a.boxes.map sealAV)], .lit (.int .i64 1)]))), (r1, (.row 149 65 a.macs.length))] (by simp (disch := omega) [go_sem, *, -List.reduceReplicate]; rfl) (by first | rfl | (simp (disch := omega) [go_sem]; done) | (simp (disch := omega) [go_sem, *]; done) | simp (disch := omega) [go_sem]) (fun id hid => by simp only [wr_cons, wr_nil]; (by_cases hdd : id = q; (· (subst hdd; simp (disch := omega) [go_sem, *])); (· (by_cases hdd2 : id = r1; (· (subst hdd2; simp (disch := omega) [go_sem, *])); (· (simp (disch := omega) only [upd_ne]; try (first | exact hlow id hid hdd hdd2 | exact hlow id hid))))))) (by simp) (by simp (disch := omega) [go_sem, *])
set_option maxHeartbeats 4000000 in
theorem Bind_spec (a : Alg) (m : Nat) (ha : AlgIn a m) (hm : m ≤ 60000) (d : Di) (leaf : Tg) (r : Rq) (ht : d.ticket.length ≤ 100000) (hc : d.conds.length ≤ 100000) (g k : Nat) :
  ACall Tryz.prog 26 [algAV a, diAV d, tagAV leaf, rqAV r] k [(g, shaG)] (mbAV (bindS a d leaf r)) [] := by
 have cb := Begin_spec a (by have := ha.ml; omega) (by have := ha.bl; omega)
 cases hr : rqB r with
 | true =>
  have c1 := fun q r1 r2 => dInto_spec a m ha hm d leaf r hr ht hc q r1 r2 g
  obtain ⟨h0, hB⟩ := bindS_ok ha hm d leaf hr
  have hbx : (bindS a d leaf r).1.boxes = a.boxes := by rw [hB]; exact (macS_boxes a d.tag _ h0).1
  have he : (bindS a d leaf r).2.2 = 0 := by rw [hB]
  clear hB h0 ha ht hc hr
  generalize bindS a d leaf r = X at *
  obtain ⟨a1, b1, e1⟩ := X
  simp only at c1 hbx he
  subst he
  unfold mbAV
  simp only
  have cd := Done_ok a1
  unfold makAV at cb
  unfold makE at c1 cd
  simp only [List.cons_append, List.nil_append] at *
  simp only [makB_def, rowM_eq, rowB_eq, hbx] at *
  refine Bd Tryz.func26 Tryz.ntmps26 fun σ N hp hpn hk hkn hfree => ?_
  obtain ⟨hd, hdn⟩ := HD0 hp hpn; clear hp hpn
  have hcs := And.intro cb True.intro
  refine Wm ?_
  iterate 2 refine Wz ?_
  clear hcs
  refine go_cliprowIn (N + 7 + 1) [0, 3] 149 65 (bt := 203) (c := .agg [.agg [.lit (.bool a.free), tagAV a.seed, .lit (.int .i64 a.fresh), .clip (a.macs.map macAV), .clip (a.boxes.map sealAV)], .lit (.int .i64 ((0 : Nat) : Int))]) (xs := a.macs.map macAV) (by simp (disch := omega) [go_sem, *, -List.reduceReplicate]) rfl (all_macs1 _) ?_; refine go_cliprowIn (N + 7 + 1) [0, 4] 151 35 (bt := 203) (c := .agg [.agg [.lit (.bool a.free), tagAV a.seed, .lit (.int .i64 a.fresh), .slice (some (N + 7 + 3)) (a.macs.map macAV), .clip (a.boxes.map sealAV)], .lit (.int .i64 ((0 : Nat) : Int))]) (xs := a.boxes.map sealAV) (by simp (disch := omega) [go_sem, *, -List.reduceReplicate]) rfl (all_boxes1 _) ?_
  have hcs := And.intro (c1 (N + 7 + 1) (N + 7 + 3) (N + 7 + 3 + 1)) (And.intro (cd (N + 7 + 1) (N + 7 + 3) (N + 7 + 3 + 1)) True.intro)
  clear cb c1 cd
  refine Wk ?_
  exact WD
 | false =>
  have c1 := fun q r1 r2 => dInto_bad a m ha hm d leaf r hr ht hc q r1 r2 g
  have hB : bindS a d leaf r = (alg0, bo0, 1) := by unfold bindS; rw [hr]; rfl
  rw [hB]
  have cd := Done_bad a 1 (by decide)
  clear hB ha ht hc hr
  unfold mbAV
  simp only
  have hbA : boAV bo0 = .agg [.slice none [], .slice none [], tagAV zeroTag] := rfl
  rw [hbA]
  generalize (⟨d.ticket, d.conds, zeroTag⟩ : Bo) = b1 at *
  have e01 : ((1 : Nat) : Int) = 1 := rfl
  unfold makAV at cb
  unfold makE at c1 cd
  simp only [List.cons_append, List.nil_append] at *
  simp only [makB_def, rowM_eq, rowB_eq, alg0_eq, e01] at *
  clear e01 hbA
  refine Bd Tryz.func26 Tryz.ntmps26 fun σ N hp hpn hk hkn hfree => ?_
  obtain ⟨hd, hdn⟩ := HD0 hp hpn; clear hp hpn
  have hcs := And.intro cb True.intro
  refine Wm ?_
  iterate 2 refine Wz ?_
  clear hcs
  refine go_cliprowIn (N + 7 + 1) [0, 3] 149 65 (bt := 203) (c := .agg [.agg [.lit (.bool a.free), tagAV a.seed, .lit (.int .i64 a.fresh), .clip (a.macs.map macAV), .clip (a.boxes.map sealAV)], .lit (.int .i64 ((0 : Nat) : Int))]) (xs := a.macs.map macAV) (by simp (disch := omega) [go_sem, *, -List.reduceReplicate]) rfl (all_macs1 _) ?_; refine go_cliprowIn (N + 7 + 1) [0, 4] 151 35 (bt := 203) (c := .agg [.agg [.lit (.bool a.free), tagAV a.seed, .lit (.int .i64 a.fresh), .slice (some (N + 7 + 3)) (a.macs.map macAV), .clip (a.boxes.map sealAV)], .lit (.int .i64 ((0 : Nat) : Int))]) (xs := a.boxes.map sealAV) (by simp (disch := omega) [go_sem, *, -List.reduceReplicate]) rfl (all_boxes1 _) ?_
  have hcs := And.intro (c1 (N + 7 + 1) (N + 7 + 3) (N + 7 + 3 + 1)) (And.intro (cd (N + 7 + 1) (N + 7 + 3) (N + 7 + 3 + 1)) True.intro)
  clear cb c1 cd
  refine Wk ?_
  exact WD
def prfO (a : Alg) (tag leaf : Tg) (r : Rq) : Option Tg := if rqB r = true then lookO a tag (bindM leaf r.gate.toNat r.nonce.toNat) else none
set_option maxHeartbeats 2000000 in
theorem dProof_spec (a : Alg) (m : Nat) (ha : AlgIn a m) (hm : m ≤ 60000) (tag leaf : Tg) (r : Rq) (g k : Nat) :
  ACall Tryz.prog 29 [algAV a, tagAV tag, tagAV leaf, rqAV r] k [(g, shaG)] (entAV (prfO a tag leaf r)) [] := by
 have c1 := Req_spec r
 unfold prfO
 have hlA : tagAV leaf = .agg (leaf.1.map byteAV) := rfl
 have ps1 := tagAV_sz leaf
 have ps2 := tagAV_cell leaf
 cases hr : rqB r with
 | false =>
  rw [hr] at c1
  rw [if_neg (by simp)]
  unfold entAV
  simp only [Option.getD_none, Option.isSome_none]
  obtain ⟨rg, rn⟩ := r
  have hrA : rqAV ⟨rg, rn⟩ = .agg [.lit (.int .i64 rg), .lit (.int .i64 rn)] := rfl
  rw [hrA] at c1 ⊢
  clear ha hlA ps1 ps2 hrA hr
  refine Bd Tryz.func29 Tryz.ntmps29 fun σ N hp hpn hk hkn hfree => ?_
  obtain ⟨hd, hdn⟩ := HD0 hp hpn; clear hp hpn
  have hcs := And.intro c1 True.intro
  clear c1
  exact W0
 | true =>
  rw [hr] at c1
  rw [if_pos rfl]
  obtain ⟨⟨q1, q2⟩, q3, q4⟩ := rqB_iff.1 hr
  have c4 := dMsg_spec [98, 105, 110, 100] leaf.1 r.gate.toNat r.nonce.toNat (by decide) (by rw [leaf.2]; decide) (by omega) (by omega)
  have hml := bindM_len leaf (g := r.gate.toNat) (n := r.nonce.toNat) (by omega) (by omega)
  have hmp : 0 < (bindM leaf r.gate.toNat r.nonce.toNat).length := by simp [bindM]
  have hbm : [98, 105, 110, 100] ++ (leaf.1 ++ (leb r.gate.toNat ++ leb r.nonce.toNat)) = bindM leaf r.gate.toNat r.nonce.toNat := rfl
  rw [hbm] at c4
  have c5 := Look_spec a tag (bindM leaf r.gate.toNat r.nonce.toNat) (by have := ha.ml; omega) ha.mm hmp (by omega) g
  generalize lookO a tag (bindM leaf r.gate.toNat r.nonce.toNat) = o at *
  unfold entAV at *
  generalize o.getD zeroTag = t1 at *
  generalize o.isSome = ok1 at *
  obtain ⟨rg, rn⟩ := r
  simp only at *
  rw [show ((rg.toNat : Nat) : Int) = rg by omega, show ((rn.toNat : Nat) : Int) = rn by omega] at c4
  generalize bindM leaf rg.toNat rn.toNat = bm at *
  have hrA : rqAV ⟨rg, rn⟩ = .agg [.lit (.int .i64 rg), .lit (.int .i64 rn)] := rfl
  obtain ⟨K, hK⟩ := leaf
  rw [hlA] at ps1 ps2 ⊢
  rw [hrA] at c1 ⊢
  simp only at *
  clear ha hlA hrA hbm hml hmp hr
  have htk : (K.map byteAV).take 32 = K.map byteAV := List.take_of_length_le (by rw [List.length_map]; omega)
  refine Bd Tryz.func29 Tryz.ntmps29 fun σ N hp hpn hk hkn hfree => ?_
  obtain ⟨hd, hdn⟩ := HD0 hp hpn; clear hp hpn
  have hcs := And.intro c1 (And.intro c4 (And.intro c5 True.intro))
  clear c1 c4 c5
  exact W0
def condsO (a : Alg) : Tg → List Pr → Option Tg
 | t, [] => some t
 | t, p :: r => if predB p = true ∧ p.kind ≠ 7 then (match lookO a t (condM p) with
   | none => none
   | some t' => condsO a t' r) else none
def dtagO (a : Alg) (key : Tg) (t : List UInt8) (l : List Pr) : Option Tg := match lookO a key (grantM t) with
 | none => none
 | some x => condsO a x l
end

section
variable [W : W32]
def cO (a : Alg) : Option Tg → List Pr → Option Tg
 | none, _ => none
 | some x, l => condsO a x l
theorem cO_nil (a : Alg) (o : Option Tg) : cO a o [] = o := by cases o <;> rfl
theorem cO_cons (a : Alg) (x : Tg) (p : Pr) (r : List Pr) : cO a (some x) (p :: r) = if predB p = true ∧ p.kind ≠ 7 then cO a (lookO a x (condM p)) r else none := by
 show condsO a x (p :: r) = _
 rw [condsO]
 split
 ·cases lookO a x (condM p) <;> rfl
 ·rfl
theorem dtagO_c (a : Alg) (key : Tg) (t : List UInt8) (l : List Pr) : dtagO a key t l = cO a (lookO a key (grantM t)) l := by
 unfold dtagO
 cases lookO a key (grantM t) <;> rfl
set_option maxHeartbeats 8000000 in
theorem refTag_spec (a : Alg) (m : Nat) (ha : AlgIn a m) (hm : m ≤ 60000) (key : Tg) (t : List UInt8) (ht : t.length ≤ 100000) (l : List Pr) (hl : l.length ≤ 100000) (hpr : ∀ p ∈ l, PrOk p) (k : Nat) :
  ACall Tryz.prog 32 [algAV a, tagAV key, .slice none (t.map byteAV), .slice none (l.map prAV)] k [] (entAV (dtagO a key t l)) [] := by
 have c1 := refGrantM_spec t (by omega)
 have c2 := refLook_spec a key (grantM t) (by have := ha.ml; omega) ha.mm
 rw [dtagO_c]
 generalize lookO a key (grantM t) = o0 at *
 generalize grantM t = gm at *
 obtain ⟨R, hR⟩ : ∃ R, cO a o0 l = R := ⟨_, rfl⟩
 rw [hR]
 unfold entAV at *
 refine Bd Tryz.func32 Tryz.ntmps32 fun σ N hp hpn hk hkn hfree => ?_
 have hcs := And.intro c1 (And.intro c2 True.intro)
 clear c1 c2
 refine Wk ?_
 clear hcs
 refine go_loopF mixed (by kernel_rfl) [9, 11, 12, 21, 22, 23, 24, 25, 26, 27, 28, 29, 30, 31, 32, 33, 34, 35, 36, 37, 38, 39, 40, 41, 42, 43, 44, 45, 46, 47, 48, 49, 50, 51, 52, 53, 54, 55] [N+4+8] (fun m_ s_ σ_ n_ => ∃ (u : Nat) (o : Option Tg), m_ = l.length - u ∧ s_ 12 = .lit (.int .i64 u) ∧ s_ 11 = .lit (.bool o.isSome) ∧ σ_ (N+4+8) = .box 29 (tagAV (o.getD zeroTag)) ∧ (u ≤ l.length) ∧ (cO a o (l.drop u) = R)) ⟨_, 0, o0, rfl, WF, WF, WF, WC, WC⟩ ?_
 intro m_1 s_1 σ_1 n_1 hs_1 hf_1 hn_1 hI_1
 obtain ⟨u, o, hm_1, h1_12, h1_11, e1_0, hu, hO⟩ := hI_1
 have h1_3 := KS hs_1 3
 have h1_4 := KS hs_1 4
 have h1_8 := KS hs_1 8
 have h1_10 := KS hs_1 10
 have k1_0 := KE hf_1 (N)
 have k1_1 := KE hf_1 (N + 2)
 have hlow := KL (N := N) (σ := σ) hf_1
 by_cases hul : u = l.length
 ·subst hul
  rw [List.drop_length, cO_nil] at hO
  subst hO
  cases o with
  | none =>
   simp only [Option.getD_none, Option.isSome_none] at *
   have hcs := True.intro
   exact W0
  | some x =>
   simp only [Option.getD_some, Option.isSome_some] at *
   have hcs := True.intro
   exact W0
 ·have hu1 : u < l.length := by omega
  obtain ⟨p, hz⟩ : ∃ p, l[u] = p := ⟨_, rfl⟩
  have hzm : (l.map prAV)[u]? = some (prAV p) := by rw [List.getElem?_map, List.getElem?_eq_getElem hu1, hz]; rfl
  have hpo := hpr p (by rw [← hz]; exact List.getElem_mem _)
  rw [List.drop_eq_getElem_cons hu1, hz] at hO
  cases o with
  | none =>
   have hO : none = R := hO
   subst hO
   simp only [Option.getD_none, Option.isSome_none] at *
   have hcs := True.intro
   exact W0
  | some x =>
   rw [cO_cons] at hO
   have c3 := refPred_spec p hpo
   have c4 := refCondM_spec p hpo
   have c5 := refLook_spec a x (condM p) (by have := ha.ml; omega) ha.mm
   generalize lookO a x (condM p) = o1 at *
   generalize condM p = cm at *
   unfold entAV at c5
   clear hpr ha
   obtain ⟨pk, pm, pf, pt, pn, px⟩ := p
   have hpA : prAV ⟨pk, pm, pf, pt, pn, px⟩ = .agg [.lit (.int .i64 pk), .lit (.int .u64 pm), .lit (.int .i64 pf), .lit (.int .i64 pt), .lit (.string ⟨pn.toArray⟩), .lit (.int .i64 px)] := rfl
   rw [hpA] at hzm c3 c4
   simp only [Option.getD_some, Option.isSome_some] at *
   cases hpb : predB ⟨pk, pm, pf, pt, pn, px⟩ with
   | false =>
    rw [hpb] at c3 hO
    rw [if_neg (by simp)] at hO
    subst hO
    simp only [Option.getD_none, Option.isSome_none] at *
    clear c4 c5 hpA hz
    have hcs := And.intro c3 True.intro
    clear c3
    exact W0
   | true =>
    rw [hpb] at c3 hO
    by_cases hk7 : pk = 7
    ·rw [if_neg (by simp [hk7])] at hO
     subst hO
     simp only [Option.getD_none, Option.isSome_none] at *
     clear c4 c5 hpA hz
     have hcs := And.intro c3 True.intro
     clear c3
     exact W0
    ·rw [if_pos ⟨rfl, hk7⟩] at hO
     clear hpA hz
     have hcs := And.intro c3 (And.intro c4 (And.intro c5 True.intro))
     clear c3 c4 c5
     refine Wk ?_
     exact ⟨WS, WG, WN, _, (show l.length - (u + 1) < m_1 by omega), u + 1, o1, rfl, WF, WF, WF, WC, WC⟩
set_option maxHeartbeats 8000000 in
theorem dTag_spec (a : Alg) (m : Nat) (ha : AlgIn a m) (hm : m ≤ 60000) (key : Tg) (t : List UInt8) (ht : t.length ≤ 100000) (l : List Pr) (hl : l.length ≤ 100000) (hpr : ∀ p ∈ l, PrOk p) (g h k : Nat) :
  ACall Tryz.prog 31 [algAV a, tagAV key, .slice none (t.map byteAV), .slice none (l.map prAV)] k [(g, shaG), (h, bitsG)] (entAV (dtagO a key t l)) [] := by
 have c1 := Message_spec [103, 114, 97, 110, 116] t (by decide) (by omega)
 have hgm : [103, 114, 97, 110, 116] ++ t = grantM t := rfl
 rw [hgm] at c1
 have c2 := Look_spec a key (grantM t) (by have := ha.ml; omega) ha.mm (by simp [grantM]) (by simp [grantM]; omega) g
 rw [dtagO_c]
 clear hgm
 generalize lookO a key (grantM t) = o0 at *
 generalize grantM t = gm at *
 obtain ⟨R, hR⟩ : ∃ R, cO a o0 l = R := ⟨_, rfl⟩
 rw [hR]
 unfold entAV at *
 refine Bd Tryz.func31 Tryz.ntmps31 fun σ N hp hpn hk hkn hfree => ?_
 simp only [List.mem_cons, List.not_mem_nil, or_false, forall_eq_or_imp, forall_eq] at hp hpn; obtain ⟨hd1, hd2⟩ := hp; obtain ⟨hdn1, hdn2⟩ := hpn
 have hcs := And.intro c1 (And.intro c2 True.intro)
 clear c1 c2
 refine Wk ?_
 clear hcs
 refine go_loopF mixed (by kernel_rfl) [9, 11, 13, 14, 15, 26, 27, 28, 29, 30, 31, 32, 33, 34, 35, 36, 37, 38, 39, 40, 41, 42, 43, 44, 45, 46, 47, 48, 49, 50, 51, 52, 53, 54, 55] [N+4+8] (fun m_ s_ σ_ n_ => ∃ (u : Nat) (o : Option Tg), m_ = l.length - u ∧ s_ 26 = .lit (.int .i64 u) ∧ s_ 11 = .lit (.bool o.isSome) ∧ σ_ (N+4+8) = .box 29 (tagAV (o.getD zeroTag)) ∧ (u ≤ l.length) ∧ (cO a o (l.drop u) = R)) ⟨_, 0, o0, rfl, WF, WF, WF, WC, WC⟩ ?_
 intro m_2 s_2 σ_2 n_2 hs_2 hf_2 hn_2 hI_2
 obtain ⟨u, o, hm_2, h2_26, h2_11, e2_0, hu, hO⟩ := hI_2
 have h2_4 := KS hs_2 4
 have h2_8 := KS hs_2 8
 have h2_10 := KS hs_2 10
 have h2_24 := KS hs_2 24
 have h2_25 := KS hs_2 25
 have k2_0 := KE hf_2 (N)
 have k2_1 := KE hf_2 (N + 2)
 have k2_2 := KE hf_2 (g)
 have k2_3 := KE hf_2 (h)
 have hlow := KL (N := N) (σ := σ) hf_2
 by_cases hul : u = l.length
 ·subst hul
  rw [List.drop_length, cO_nil] at hO
  subst hO
  have hcs := True.intro
  exact W0
 ·have hu1 : u < l.length := by omega
  obtain ⟨p, hz⟩ : ∃ p, l[u] = p := ⟨_, rfl⟩
  have hzm : (l.map prAV)[u]? = some (prAV p) := by rw [List.getElem?_map, List.getElem?_eq_getElem hu1, hz]; rfl
  have hpo := hpr p (by rw [← hz]; exact List.getElem_mem _)
  rw [List.drop_eq_getElem_cons hu1, hz] at hO
  have c3 := pEncS_spec p hpo h
  have hEl := encPS_len p
  have c4 := Message_spec [99, 111, 110, 100, 105, 116, 105, 111, 110] (encPS p).1 (by decide) (by omega)
  have hM : [99, 111, 110, 100, 105, 116, 105, 111, 110] ++ (encPS p).1 = condM p := rfl
  rw [hM] at c4
  have hMl := condM_len p
  have c5 := fun x => Look_spec a x (condM p) (by have := ha.ml; omega) ha.mm (by simp [condM]) (by omega) g
  have he : predB p = false → (encPS p).2 = 5 := fun hq => by unfold encPS; rw [hq]; rfl
  have he0 : predB p = true → (encPS p).2 = 0 := fun hq => by unfold encPS; rw [hq]; rfl
  clear hM hpr hz hMl
  cases o with
  | none =>
   have hO : none = R := hO
   subst hO
   simp only [Option.getD_none, Option.isSome_none] at *
   obtain ⟨pk, pm, pf, pt, pn, px⟩ := p
   have hpA : prAV ⟨pk, pm, pf, pt, pn, px⟩ = .agg [.lit (.int .i64 pk), .lit (.int .u64 pm), .lit (.int .i64 pf), .lit (.int .i64 pt), .lit (.string ⟨pn.toArray⟩), .lit (.int .i64 px)] := rfl
   rw [hpA] at hzm c3
   unfold encAV at c3
   clear c4 c5 he he0 hpA hpo ha
   have hcs := And.intro c3 True.intro
   clear c3
   exact W0
  | some x =>
   rw [cO_cons] at hO
   have c5 := c5 x
   generalize lookO a x (condM p) = o1 at *
   generalize condM p = cm at *
   unfold entAV at c5
   obtain ⟨pk, pm, pf, pt, pn, px⟩ := p
   have hpA : prAV ⟨pk, pm, pf, pt, pn, px⟩ = .agg [.lit (.int .i64 pk), .lit (.int .u64 pm), .lit (.int .i64 pf), .lit (.int .i64 pt), .lit (.string ⟨pn.toArray⟩), .lit (.int .i64 px)] := rfl
   rw [hpA] at hzm c3
   unfold encAV at c3
   simp only [Option.getD_some, Option.isSome_some] at *
   cases hpb : predB ⟨pk, pm, pf, pt, pn, px⟩ with
   | false =>
    rw [he hpb] at c3
    rw [hpb] at hO
    rw [if_neg (by simp)] at hO
    subst hO
    simp only [Option.getD_none, Option.isSome_none] at *
    generalize (encPS ⟨pk, pm, pf, pt, pn, px⟩).1 = E at *
    clear c4 c5 he he0 hpA hpo ha hpb
    have e05 : ((5 : Nat) : Int) = 5 := rfl
    rw [e05] at c3
    have hcs := And.intro c3 True.intro
    clear c3
    exact W0
   | true =>
    rw [he0 hpb] at c3
    rw [hpb] at hO
    have e00 : ((0 : Nat) : Int) = 0 := rfl
    rw [e00] at c3
    generalize (encPS ⟨pk, pm, pf, pt, pn, px⟩).1 = E at *
    by_cases hk7 : pk = 7
    ·rw [if_neg (by simp [hk7])] at hO
     subst hO
     simp only [Option.getD_none, Option.isSome_none] at *
     clear c4 c5 he he0 hpA hpo hpb ha
     have hcs := And.intro c3 True.intro
     clear c3
     exact W0
    ·rw [if_pos ⟨rfl, hk7⟩] at hO
     clear hpA he he0 hpo hpb
     have hcs := And.intro c3 (And.intro c4 (And.intro c5 True.intro))
     clear c3 c4 c5
     refine Wk ?_
     exact ⟨WS, WG, WN, _, (show l.length - (u + 1) < m_2 by omega), u + 1, o1, rfl, WF, WF, WF, WC, WC⟩
end

section
variable [W : W32]
theorem open_other {a : Alg} (ok : AlgOk a) (hl : a.boxes.length ≤ 1000000) (hf : a.free = true) {key other : Tg} {b p : List UInt8} (h : openS a key b = (p, 0)) (hne : other ≠ key) : openS a other b = ([], 14) := by
 unfold openS at h ⊢
 rw [if_pos hf] at h ⊢
 cases ho : openL other b a.boxes with
 | none => rfl
 | some q =>
  exfalso
  cases hk : openL key b a.boxes with
  | none => rw [hk] at h; simp at h
  | some q2 =>
   obtain ⟨e, he, k1, k2, _⟩ := openL_some ho
   obtain ⟨e', he', k1', k2', _⟩ := openL_some hk
   obtain ⟨i, hi, rfl⟩ := List.getElem_of_mem he
   obtain ⟨j, hj, rfl⟩ := List.getElem_of_mem he'
   have h3 := k2.trans k2'.symm
   rw [ok.bf hf i hi, ok.bf hf j hj] at h3
   have h4 := symApp_inj (by omega) (by omega) (by omega) (by omega) h3
   obtain rfl : i = j := by omega
   exact hne (k1.symm.trans k1')
theorem back_ok {a : Alg} {m : Nat} (hin : AlgIn a m) (hm : m ≤ 1000) (ok : AlgOk a) {c : Co} {t : Te} (ht : teB t = true) (h0 : 0 ≤ c.party) (h7 : c.party ≤ 7) :
  ∃ (b : Alg) (kt : Tg) (tk : List UInt8), blankS a c t = (b, ⟨c.party, kt, tk⟩, 0) ∧ AlgIn b (m + 2) ∧ AlgOk b ∧ 1 ≤ tk.length ∧ tk.length ≤ 90 ∧ openT b c tk = (kt, t, 0) ∧
   ∀ c' : Co, a.free = true → c'.key ≠ c.key → openT b c' tk = (zeroTag, te0, 14) := by
 obtain ⟨hk, hb2, hB⟩ := blankS_ok hin (by omega) (c := c) (t := t) ht h0 h7
 have okk := ok.key
 have ok1 := okk.sealed c.key (keyS a).1.fresh (plainT (keyS a).2.1 t)
 have ink := keyS_in hin
 have in1 := sealS_in ink c.key (keyS a).1.fresh (plainT (keyS a).2.1 t)
 have hpl := plainT_len (keyS a).2.1 t ht
 have htl := sealS_box okk hb2
 have hop := open_seal okk (by have := ink.bl; omega) hb2
 have hfr := (sealS_free hb2).1
 have hfk : (keyS a).1.free = a.free := by rw [hk]
 rw [hfk] at hfr
 clear hk
 have hrd : readT (plainT (keyS a).2.1 t) = ((keyS a).2.1, t, 0) := readT_plain ht
 generalize (keyS a).2.1 = kt at *
 generalize plainT kt t = pl at *
 generalize sealS (keyS a).1 c.key (keyS a).1.fresh pl = X at *
 obtain ⟨a1, tk, e1⟩ := X
 simp only at *
 refine ⟨a1, kt, tk, hB, in1.more (by omega), ok1, by omega, by omega, ?_, fun c' hf hne => ?_⟩
 ·unfold openT; rw [hop]; simp only; rw [if_neg (by simp)]; exact hrd
 ·have h14 := open_other ok1 (by have := in1.bl; omega) (hfr.trans hf) hop hne
  unfold openT; rw [h14]; simp
theorem granted {b : Alg} {m : Nat} (hin : AlgIn b m) (hm : m ≤ 1000) {c : Co} {kt : Tg} {t : Te} {tk : List UInt8} (htl : tk.length ≤ 90) (ho : openT b c tk = (kt, t, 0)) {nm : List UInt8} (hnm : nameB nm = true) {p : Pe} (hf : findP c.ps nm = (p, true)) {n : Int} (h0 : 0 ≤ n) (h1 : n ≤ 67108864) :
  (grantS b c tk nm n).2.2 = if ageS p.born n < t.least ∨ t.most < ageS p.born n then 25 else 0 := by
 unfold grantS
 rw [if_neg (by rw [hnm]; simp), if_neg (by omega), ho]
 simp only
 rw [if_neg (by simp), hf]
 simp only
 rw [if_neg (by simp)]
 split
 ·rfl
 ·have hm1 : (macS b kt (grantM tk)).2.2 = 0 := macS_ok _ (by simp [grantM]; omega) (by have := hin.ml; omega)
  have in5 := macS_in hin kt (grantM tk)
  rw [if_pos hm1]
  have hpv : predB (holdP nm) = true := by unfold predB holdP; simp [hnm]
  obtain ⟨r1, r2⟩ := restrS_ok in5 (by omega) (d := ⟨tk, [], (macS b kt (grantM tk)).2.1⟩) hpv (by simp [holdP]) (by simp)
  rw [r2]
end

section
variable [W : W32]
structure ScW (s : Sc) : Prop where
 ain : AlgIn s.alg 1000
 ok : AlgOk s.alg
 cp : 0 ≤ s.con.party ∧ s.con.party ≤ 7
 rq : rqB s.req = true
 hol : s.holder = ann
 mi : 0 ≤ s.minute ∧ s.minute ≤ 2999
 cps : s.con.ps.length ≤ 5 ∧ ∀ p ∈ s.con.ps, (Lit.int .i64 p.born).wf = true
 fp : ∃ bo : Int, findP s.con.ps ann = (⟨ann, bo⟩, true) ∧ -60000000 ≤ bo ∧ bo ≤ 0
theorem SceneW_ex (l : List Int) (i : Nat) (h : Dk l i) : ∃ (s : Sc) (j : Nat), ScW s ∧ Dk l j ∧ ∀ d k, ACall Tryz.prog 16 [.ptr d [] 0, .lit (.bool true)] k [(d, deckBox l i)] (scAV s) [(d, deckBox l j)] := by
 rcases h0 : nextD l i 2 with ⟨q0, j0⟩
 have d0 : Dk l j0 := by have := nextD_dk 2 h; rw [h0] at this; exact this
 rcases h1 : tagD l j0 with ⟨sd, j1⟩
 have d1 : Dk l j1 := by have := tagD_dk d0; rw [h1] at this; exact this
 rcases h2 : keyS ⟨decide (q0 = 0), sd, 0, [], []⟩ with ⟨a1, k1, e1⟩
 rcases h3 : keyS a1 with ⟨a2, k2, e2⟩
 rcases h4 : nextD l j1 3000 with ⟨mi, j2⟩
 have d2 : Dk l j2 := by have := nextD_dk 3000 d1; rw [h4] at this; exact this
 have b4 : mi < 3000 := by have := nextD_lt l j1 3000 (by omega); rw [h4] at this; exact this
 rcases h5 : nextD l j2 8 with ⟨pt, j3⟩
 have d3 : Dk l j3 := by have := nextD_dk 8 d2; rw [h5] at this; exact this
 have b5 : pt < 8 := by have := nextD_lt l j2 8 (by omega); rw [h5] at this; exact this
 rcases h6 : nextD l j3 60 with ⟨bo, j4⟩
 have d4 : Dk l j4 := by have := nextD_dk 60 d3; rw [h6] at this; exact this
 have b6 : bo < 60 := by have := nextD_lt l j3 60 (by omega); rw [h6] at this; exact this
 rcases h7 : nextD l j4 8 with ⟨ga, j5⟩
 have d5 : Dk l j5 := by have := nextD_dk 8 d4; rw [h7] at this; exact this
 have b7 : ga < 8 := by have := nextD_lt l j4 8 (by omega); rw [h7] at this; exact this
 rcases h8 : rangeD l j5 1 100 with ⟨no, j6⟩
 have d6 : Dk l j6 := by have := rangeD_dk (lo := 1) (n := 100) d5; rw [h8] at this; exact this
 have b8 : 1 ≤ no ∧ no ≤ 100 := by
  have := nextD_lt l j5 100 (by omega)
  unfold rangeD at h8; rw [Prod.mk.injEq] at h8; omega
 rcases h9 : rangeD l j6 1 50 with ⟨se, j7⟩
 have d7 : Dk l j7 := by have := rangeD_dk (lo := 1) (n := 50) d6; rw [h9] at this; exact this
 rcases h10 : mintS a2 2 k2 (se : Nat) with ⟨a3, pa, e3⟩
 rcases h11 : nextD l j7 6 with ⟨K, j8⟩
 have d8 : Dk l j8 := by have := nextD_dk 6 d7; rw [h11] at this; exact this
 have b11 : K < 6 := by have := nextD_lt l j7 6 (by omega); rw [h11] at this; exact this
 have i0 : AlgIn ⟨decide (q0 = 0), sd, 0, [], []⟩ 0 := ⟨by simp, by simp, by simp, by simp, fun e he => by simp at he, fun e he => by simp at he⟩
 have i1 : AlgIn a1 1 := by have := keyS_in i0; rw [h2] at this; exact this
 have i2 : AlgIn a2 2 := by have := keyS_in i1; rw [h3] at this; exact this
 have o1 : AlgOk a1 := by have := (AlgOk.nil (decide (q0 = 0)) sd 0).key; rw [h2] at this; exact this
 have o2 : AlgOk a2 := by have := o1.key; rw [h3] at this; exact this
 have i3 : AlgIn a3 4 := by have := mintS_in i2 2 k2 (se : Nat); rw [h10] at this; exact this
 have o3 : AlgOk a3 := by
  have : AlgOk (mintS a2 2 k2 (se : Nat)).1 := by
   unfold mintS
   split
   ·exact AlgOk.zero
   ·split
    ·exact o2.node0 _ _
    ·exact AlgOk.zero
  rw [h10] at this; exact this
 have hpc : pa.cavs = [] := by
  have : (mintS a2 2 k2 (se : Nat)).2.1.cavs = [] := by
   unfold mintS
   split
   ·rfl
   ·split <;> rfl
  rw [h10] at this; exact this
 have hG0 : SoW ⟨a3, pa, []⟩ 0 10 := ⟨i3.more (by omega), o3, by simp only; rw [hpc]; exact Nat.le_refl _, Nat.le_refl _⟩
 obtain ⟨R, hrun, hG, hD⟩ := wRun_ex (con := ⟨pt, k1, [⟨ann, -(bo : Int) * 365 * 1440⟩, ⟨[98, 111, 98], 0⟩]⟩) (mi := (mi : Nat)) (fun j hj => Wide_ex l j hj) K j8 0 10 ⟨a3, pa, []⟩ d8 hG0
 refine ⟨_, R.2, ?_, hD, fun d k => Scene_walkW l i h q0 j0 sd j1 mi j2 pt j3 bo j4 ga j5 no j6 se j7 K j8 a1 a2 a3 k1 k2 e1 e2 e3 pa _ h0 h1 h2 h3 h4 h5 h6 h7 h8 h9 h10 h11 rfl (by omega) (by omega) (by omega) (by omega) hG0 R.1 R.2 hrun d k⟩
 refine ⟨hG.ain.more (by omega), hG.ok, ⟨by simp only; omega, by simp only; omega⟩, ?_, rfl, ⟨by simp only; omega, by simp only; omega⟩, ⟨by simp, fun p hp => ?_⟩, -(bo : Int) * 365 * 1440, rfl, by omega, by omega⟩
 ·rw [rqB_iff]
  simp only
  omega
 ·have hw : ∀ b : Int, -60000000 ≤ b → b ≤ 0 → (Lit.int .i64 b).wf = true := fun b h1 h2 => by
   have e1 : IntKind.i64.min = -9223372036854775808 := by decide
   have e2 : IntKind.i64.max = 9223372036854775807 := by decide
   simp only [Lit.wf, Bool.and_eq_true, decide_eq_true_iff, e1, e2]; omega
  simp only [List.mem_cons, List.not_mem_nil, or_false] at hp
  rcases hp with rfl | rfl
  ·exact hw _ (by simp only; omega) (by simp only; omega)
  ·exact hw _ (by decide) (by decide)
theorem cO_app (a : Alg) : ∀ (l : List Pr) (o : Option Tg) (p : Pr) (x : Tg), cO a o l = some x → predB p = true → p.kind ≠ 7 → cO a o (l ++ [p]) = lookO a x (condM p)
 | [], o, p, x, h, h1, h2 => by
  rw [cO_nil] at h
  subst h
  rw [List.nil_append, cO_cons, if_pos ⟨h1, h2⟩, cO_nil]
 | q :: r, none, p, x, h, _, _ => by cases h
 | q :: r, some y, p, x, h, h1, h2 => by
  rw [cO_cons] at h
  by_cases hq : predB q = true ∧ q.kind ≠ 7
  ·rw [if_pos hq] at h
   rw [List.cons_append, cO_cons, if_pos hq]
   exact cO_app a r _ p x h h1 h2
  ·rw [if_neg hq] at h; cases h
theorem cO_mono {a : Alg} {key : Tg} {msg : List UInt8} (hm : (macS a key msg).2.2 = 0) : ∀ (l : List Pr) (o : Option Tg) (x : Tg), cO a o l = some x → cO (macS a key msg).1 o l = some x
 | [], o, x, h => by rw [cO_nil] at h ⊢; exact h
 | q :: r, none, x, h => by cases h
 | q :: r, some y, x, h => by
  rw [cO_cons] at h ⊢
  by_cases hq : predB q = true ∧ q.kind ≠ 7
  ·rw [if_pos hq] at h ⊢
   cases hl : lookO a y (condM q) with
   | none => rw [hl] at h; cases r <;> cases h
   | some z =>
    rw [look_mono hm hl]
    rw [hl] at h
    exact cO_mono hm r _ x h
  ·rw [if_neg hq] at h; cases h
structure Chn (A : Alg) (kt : Tg) (tk : List UInt8) (g : Di) (n m : Nat) : Prop where
 ain : AlgIn A m
 ok : AlgOk A
 te : g.ticket = tk
 cl : g.conds.length = n
 pr : ∀ p ∈ g.conds, PrOk p
 c0 : g.conds[0]? = some (holdP ann)
 ch : cO A (lookO A kt (grantM tk)) g.conds = some g.tag
theorem Chn.rest {A : Alg} {kt : Tg} {tk : List UInt8} {g : Di} {n m : Nat} (h : Chn A kt tk g n m) (hm : m ≤ 2000) (hn1 : 1 ≤ n) (hn : n < 8) {p : Pr} (hp : predB p = true) (hk : p.kind ≠ 7) (hp0 : PrOk p) :
  (restrS A g p).2.2 = 0 ∧ Chn (restrS A g p).1 kt tk (restrS A g p).2.1 (n + 1) (m + 1) := by
 obtain ⟨r1, r2⟩ := restrS_ok h.ain (by omega) hp hk (d := g) (by rw [h.cl]; omega)
 have hin := restrS_in h.ain g p
 rw [r2] at hin ⊢
 refine ⟨rfl, hin, h.ok.mac _ _, h.te, by simp [h.cl], fun q hq => ?_, ?_, ?_⟩
 ·rcases List.mem_append.1 hq with hq | hq
  ·exact h.pr q hq
  ·rw [List.mem_singleton.1 hq]; exact hp0
 ·simp only
  rw [List.getElem?_append_left (by rw [h.cl]; omega)]
  exact h.c0
 ·simp only
  have h1 := h.ch
  cases hl : lookO A kt (grantM tk) with
  | none => rw [hl] at h1; cases h1
  | some z =>
   rw [hl] at h1
   rw [look_mono r1 hl, cO_app _ _ _ p g.tag (cO_mono r1 _ _ _ h1) hp hk]
   exact look_mac h.ok r1
theorem Chn.first {b : Alg} {m : Nat} (hin : AlgIn b m) (ok : AlgOk b) (hm : m ≤ 1010) {c : Co} {kt : Tg} {t : Te} {tk : List UInt8} (htl : tk.length ≤ 90) (ho : openT b c tk = (kt, t, 0)) {p : Pe} (hf : findP c.ps ann = (p, true)) {n : Int} (h0 : 0 ≤ n) (h1 : n ≤ 67108864) (ha : ¬ (ageS p.born n < t.least ∨ t.most < ageS p.born n)) :
  (grantS b c tk ann n).2.2 = 0 ∧ Chn (grantS b c tk ann n).1 kt tk (grantS b c tk ann n).2.1 1 (m + 2) := by
 have hnm : nameB ann = true := by decide
 have hi := grantS_in hin c tk ann n
 have hg : grantS b c tk ann n = restrS (macS b kt (grantM tk)).1 ⟨tk, [], (macS b kt (grantM tk)).2.1⟩ (holdP ann) := by
  have hm1 : (macS b kt (grantM tk)).2.2 = 0 := macS_ok _ (by simp [grantM]; omega) (by have := hin.ml; omega)
  unfold grantS
  rw [if_neg (by rw [hnm]; simp), if_neg (by omega), ho]
  simp only
  rw [if_neg (by simp), hf]
  simp only
  rw [if_neg (by simp), if_neg ha, if_pos hm1]
 have hm1 : (macS b kt (grantM tk)).2.2 = 0 := macS_ok _ (by simp [grantM]; omega) (by have := hin.ml; omega)
 have in5 := macS_in hin kt (grantM tk)
 have ok5 := ok.mac kt (grantM tk)
 have lk5 := look_mac ok hm1
 have hpv : predB (holdP ann) = true := by decide
 obtain ⟨r1, r2⟩ := restrS_ok in5 (by omega) (d := ⟨tk, [], (macS b kt (grantM tk)).2.1⟩) hpv (show (holdP ann).kind ≠ 7 by decide) (by simp)
 rw [hg] at hi ⊢
 rw [r2] at hi ⊢
 refine ⟨rfl, hi, ok5.mac _ _, rfl, rfl, fun q hq => ?_, rfl, ?_⟩
 ·simp only [List.nil_append, List.mem_singleton] at hq
  rw [hq]; exact ⟨by decide, by decide, by decide⟩
 ·simp only at r1 ⊢
  rw [look_mono r1 lk5, List.nil_append, cO_cons, if_pos ⟨hpv, by decide⟩, cO_nil]
  exact look_mac ok5 r1
theorem Chn.bound {A : Alg} {kt : Tg} {tk : List UInt8} {g : Di} {n m : Nat} (h : Chn A kt tk g n m) (hm : m ≤ 2000) (leaf : Tg) {r : Rq} (hr : rqB r = true) :
  (bindS A g leaf r).2.2 = 0 ∧ AlgIn (bindS A g leaf r).1 (m + 1) ∧ dtagO (bindS A g leaf r).1 kt tk g.conds = some g.tag ∧ prfO (bindS A g leaf r).1 g.tag leaf r = some (bindS A g leaf r).2.1.proof := by
 obtain ⟨h0, hB⟩ := bindS_ok h.ain (by omega) g leaf hr
 have hin := bindS_in h.ain g leaf r
 rw [hB] at hin ⊢
 refine ⟨rfl, hin, ?_, ?_⟩
 ·rw [dtagO_c]
  have h1 := h.ch
  cases hl : lookO A kt (grantM tk) with
  | none => rw [hl] at h1; cases h1
  | some z =>
   rw [hl] at h1
   simp only
   rw [look_mono h0 hl]
   exact cO_mono h0 _ _ _ h1
 ·unfold prfO
  rw [if_pos hr]
  exact look_mac h.ok h0
end
end Go.Proofs.YtdmjpolnbmoehaaGreatDoor

namespace Go.Ab
theorem go_if {P : Program} {N : Nat} {b : Code} {Q : AExit → Cfg → Prop} {next : Cfg → Prop} {s : Slots} {σ : Nat → Ent} {n : Nat} (L ents : List Nat) (I : (Nat → Ent) → Prop)
  (h1 : SKeep L s s → EKeep n ents σ σ → aw P N b (aThen (fun c => SKeep L s c.s ∧ EKeep n ents σ c.σ ∧ n ≤ c.n ∧ I c.σ) Q) ⟨s, σ, n⟩)
  (h2 : ∀ s' σ' n', SKeep L s s' → EKeep n ents σ σ' → n ≤ n' → I σ' → next ⟨s', σ', n'⟩) : aw P N b (aThen next Q) ⟨s, σ, n⟩ :=
 go_after0 _ (h1 (SKeep.refl L s) (EKeep.refl n ents σ)) fun c ⟨a, b, c1, c2⟩ => h2 c.s c.σ c.n a b c1 c2
end Go.Ab

namespace Go.Ab
open Go.RowKit
section
variable {W0 : World} {N : Nat} {P : Program} {ops : Array Oper} {m : Nat} {out : Nat → Step}
theorem lexA_prefix {Q : Cfg → Prop} {Q' : Exit → Act → World → Prop} {ro : Option Nat} {D : List Deferred} {tl : List Nat} (g0 : Ghost) (hN : shapeOK N ops = true) (e0 : Nat)
  (hQ : ∀ c g a w, g0.le g → SimA W0 g N c a w → a.defers = D → m + ops.size ≤ c.n → (∀ j, e0 ≤ j → j < ops.size → c.σ (m + j) = .none) → Q c → wpOpsIn (wideAt ro) 0 P ops Q' tl a w) :
  ∀ (l : List Oper) (k : Nat) (c : Cfg) (g : Ghost) (a : Act) (w : World), (∀ j, j < l.length → l[j]? = ops[k + j]?) → k + l.length = e0 → e0 ≤ ops.size → g0.le g → SimA W0 g N c a w → a.defers = D → m + ops.size ≤ c.n → (∀ j, k ≤ j → j < ops.size → c.σ (m + j) = .none) →
   lexA P ops m out Q l k c → wpOpsIn (wideAt ro) 0 P ops Q' (List.range' k l.length ++ tl) a w
 | [], k, c, g, a, w, _, he, _, hg, hS, hD, hn, hf, h => by
  simp only [List.length_nil, Nat.add_zero] at he
  subst he
  simpa using hQ c g a w hg hS hD hn hf h
 | o :: l, k, c, g, a, w, hl, hk, hke, hg, hS, hD, hn, hf, h => by
  have h0 : ops[k]? = some o := by simpa using (hl 0 (by simp)).symm
  simp only [List.length_cons] at hk ⊢
  rw [List.range'_succ, List.cons_append, wpOpsIn_cons]
  refine h.1.run h0 hN hS (hf k (Nat.le_refl _) (by omega)) (by omega) fun g' a' w' hle hS' hD' => ?_
  refine lexA_prefix g0 hN e0 hQ l (k + 1) _ g' a' w' (fun j hj => by have := hl (j + 1) (by simp; omega); simpa [Nat.add_assoc, Nat.add_comm 1 j] using this) (by omega) hke (hg.trans hle) hS' (hD'.trans hD) hn (fun j hj hjs => ?_) h.2
  have hnone := hf j (by omega) hjs
  show wr c.σ (out k).post (m + j) = .none
  rw [wr_other]
  ·exact hnone
  ·intro q hq he
   rcases h.1.post_ids q hq with h1 | h1
   ·omega
   ·rw [he] at h1; exact h1 hnone
end
end Go.Ab

namespace Go.Proofs.YtdmjpolnbmoehaaGreatDoor
open Go.Ab
attribute [local irreducible] Go.Ab.tyAV Go.Ab.aw Go.Ab.aops Go.Ab.kReg Go.Ab.aThen Go.Ab.aBlk Go.Ab.acond Go.Ab.aguard Go.Ab.astep Go.Ab.AStepX Go.Ab.aRet
attribute [local irreducible] shaG
theorem bNumber_row (m : Int) (k : Nat) :
  ACall Tryz.prog 186 [.lit (.int .i64 m)] k [] (.slice (some k) ((eightB m).map byteAV)) [(k, .row 5 1 8)] := by
 have e7 := sh8_wrap m 56
 have e6 := sh8_wrap m 48
 have e5 := sh8_wrap m 40
 have e4 := sh8_wrap m 32
 have e3 := sh8_wrap m 24
 have e2 := sh8_wrap m 16
 have e1 := sh8_wrap m 8
 have e0 := sh8_wrap m 0
 simp only [Int.reducePow, Int.pow_zero, Int.fdiv_one] at e7 e6 e5 e4 e3 e2 e1 e0
 unfold eightB
 generalize sh8 m 56 = b7 at *
 generalize sh8 m 48 = b6 at *
 generalize sh8 m 40 = b5 at *
 generalize sh8 m 32 = b4 at *
 generalize sh8 m 24 = b3 at *
 generalize sh8 m 16 = b2 at *
 generalize sh8 m 8 = b1 at *
 generalize sh8 m 0 = b0 at *
 refine Bd Tryz.func186 Tryz.ntmps186 fun σ N hp hpn hk hkn hfree => ?_
 refine Wk ?_
 refine ALoop.nilrow 3 5 1 (by simp (disch := omega) [go_sem, *, -List.reduceReplicate]) ?_
 refine go_loopB (N) mixed (by kernel_rfl) [3, 4, 5, 6, 7, 8, 9, 10, 11, 12, 13, 14, 15] [] (fun m_ s_ σ_ n_ => ∃ (u : Nat) (q : Nat) (acc : List UInt8), m_ = 8 - u ∧ s_ 4 = .lit (.int .i64 (56 - 8 * (u : Int))) ∧ s_ 3 = .slice (some q) (acc.map byteAV) ∧ σ_ (q) = .row 5 1 acc.length ∧ (u ≤ 8) ∧ (N ≤ q) ∧ (q < n_) ∧ (acc = [b7, b6, b5, b4, b3, b2, b1, b0].take u)) ⟨_, 0, _, [], rfl, WF, WF, WF, WC, WC, WC, WC⟩ ?_
 intro m_1 s_1 σ_1 n_1 hs_1 hf_1 hn_1 hI_1
 obtain ⟨u, q, acc, hm_1, h1_4, h1_3, e1_0, hu, hq, hqn, hacc⟩ := hI_1
 have h1_0 := KS hs_1 0
 have h1_2 := KS hs_1 2
 have hlow := KL (N := N) (σ := σ) hf_1
 have hb7 : byteAV b7 = .lit (.int .u8 b7.toNat) := rfl
 have hb6 : byteAV b6 = .lit (.int .u8 b6.toNat) := rfl
 have hb5 : byteAV b5 = .lit (.int .u8 b5.toNat) := rfl
 have hb4 : byteAV b4 = .lit (.int .u8 b4.toNat) := rfl
 have hb3 : byteAV b3 = .lit (.int .u8 b3.toNat) := rfl
 have hb2 : byteAV b2 = .lit (.int .u8 b2.toNat) := rfl
 have hb1 : byteAV b1 = .lit (.int .u8 b1.toNat) := rfl
 have hb0 : byteAV b0 = .lit (.int .u8 b0.toNat) := rfl
 have hcase : u = 0 ∨ u = 1 ∨ u = 2 ∨ u = 3 ∨ u = 4 ∨ u = 5 ∨ u = 6 ∨ u = 7 ∨ u = 8 := by omega
 rcases hcase with rfl | hcase
 ·simp only [List.take_zero] at hacc
  subst hacc
  refine Wk ?_
  exact ⟨WS, WG, WN, _, (show 8 - (1) < m_1 by omega), 1, q, [b7], rfl, WF, WF, WF, WC, WC, WC, WC⟩
 rcases hcase with rfl | hcase
 ·simp only [List.take_succ_cons, List.take_zero] at hacc
  subst hacc
  refine Wk ?_
  exact ⟨WS, WG, WN, _, (show 8 - (2) < m_1 by omega), 2, q, [b7, b6], rfl, WF, WF, WF, WC, WC, WC, WC⟩
 rcases hcase with rfl | hcase
 ·simp only [List.take_succ_cons, List.take_zero] at hacc
  subst hacc
  refine Wk ?_
  exact ⟨WS, WG, WN, _, (show 8 - (3) < m_1 by omega), 3, q, [b7, b6, b5], rfl, WF, WF, WF, WC, WC, WC, WC⟩
 rcases hcase with rfl | hcase
 ·simp only [List.take_succ_cons, List.take_zero] at hacc
  subst hacc
  refine Wk ?_
  exact ⟨WS, WG, WN, _, (show 8 - (4) < m_1 by omega), 4, q, [b7, b6, b5, b4], rfl, WF, WF, WF, WC, WC, WC, WC⟩
 rcases hcase with rfl | hcase
 ·simp only [List.take_succ_cons, List.take_zero] at hacc
  subst hacc
  refine Wk ?_
  exact ⟨WS, WG, WN, _, (show 8 - (5) < m_1 by omega), 5, q, [b7, b6, b5, b4, b3], rfl, WF, WF, WF, WC, WC, WC, WC⟩
 rcases hcase with rfl | hcase
 ·simp only [List.take_succ_cons, List.take_zero] at hacc
  subst hacc
  refine Wk ?_
  exact ⟨WS, WG, WN, _, (show 8 - (6) < m_1 by omega), 6, q, [b7, b6, b5, b4, b3, b2], rfl, WF, WF, WF, WC, WC, WC, WC⟩
 rcases hcase with rfl | hcase
 ·simp only [List.take_succ_cons, List.take_zero] at hacc
  subst hacc
  refine Wk ?_
  exact ⟨WS, WG, WN, _, (show 8 - (7) < m_1 by omega), 7, q, [b7, b6, b5, b4, b3, b2, b1], rfl, WF, WF, WF, WC, WC, WC, WC⟩
 rcases hcase with rfl | hcase
 ·simp only [List.take_succ_cons, List.take_zero] at hacc
  subst hacc
  refine Wk ?_
  exact ⟨WS, WG, WN, _, (show 8 - (8) < m_1 by omega), 8, q, [b7, b6, b5, b4, b3, b2, b1, b0], rfl, WF, WF, WF, WC, WC, WC, WC⟩
 subst hcase
 simp only [List.take_succ_cons, List.take_zero] at hacc
 subst hacc
 clear hb7 hb6 hb5 hb4 hb3 hb2 hb1 hb0
 refine Wk ?_
 refine go_result1 (r0 := q) (by simp (disch := omega) [go_sem, *, -List.reduceReplicate]; rfl) (by omega) (by simp (disch := omega) [go_sem]; try rfl) (fun id hid => by simp (disch := omega) only; try exact hlow id hid) (by simp (disch := omega) [go_sem, *, -List.reduceReplicate]; rfl) (by simp (disch := omega) [go_sem])
section
variable [W : W32]
theorem bCheck_spec (key : Tg) (b : List UInt8) (hb : b.length ≤ 90000) (g k : Nat) :
  ACall Tryz.prog 143 [tagAV key, .slice none (b.map byteAV)] k [(g, shaG)] (tagAV (hmacT key.1 ([98, 111, 120] ++ b))) [] := by
 have c1 := hmacOf_spec key.1 ([98, 111, 120] ++ b) (by rw [key.2]; decide) (by simp) (by simp; omega) g
 generalize hmacT key.1 ([98, 111, 120] ++ b) = T at *
 have h98 : byteAV 98 = .lit (.int .u8 98) := rfl
 have h111 : byteAV 111 = .lit (.int .u8 111) := rfl
 have h120 : byteAV 120 = .lit (.int .u8 120) := rfl
 have hs1 := tagAV_sz key
 have hs2 := tagAV_cell key
 obtain ⟨K, hK⟩ := key
 have hkA : tagAV ⟨K, hK⟩ = .agg (K.map byteAV) := rfl
 simp only [hkA] at hs1 hs2 c1 ⊢
 clear hkA
 have htk : (K.map byteAV).take 32 = K.map byteAV := List.take_of_length_le (by rw [List.length_map]; omega)
 refine Bd Tryz.func143 Tryz.ntmps143 fun σ N hp hpn hk hkn hfree => ?_
 have M : Mut (N + 2 + 1) := ⟨⟩
 obtain ⟨hd, hdn⟩ := HD0 hp hpn; clear hp hpn
 have hcs := And.intro c1 True.intro
 clear c1
 exact W0
omit W in
theorem bStream_spec (key : Tg) (nonce : List UInt8) (k : Nat) :
  ACall Tryz.prog 195 [tagAV key, .slice none (nonce.map byteAV)] k [] (.fn 219 [.view (.slice none (nonce.map byteAV)), .view (tagAV key)]) [] := by
 refine Bd Tryz.func195 Tryz.ntmps195 fun σ N hp hpn hk hkn hfree => ?_
 refine Wm ?_
 refine Wz ?_
 refine go_view 2 (id := N) (bt := 29) (x := tagAV key) (by simp (disch := omega) [go_sem, *, -List.reduceReplicate]) (by simp (disch := omega) [go_sem, *, -List.reduceReplicate]) ?_
 refine go_view 3 (id := N + 1) (bt := 26) (x := .slice none (nonce.map byteAV)) (by simp (disch := omega) [go_sem, *, -List.reduceReplicate]) (by simp (disch := omega) [go_sem, *, -List.reduceReplicate]) ?_
 exact W0
set_option maxHeartbeats 1000000 in
theorem bStream1_spec (key : Tg) (nn : Int) (R : Nat) (hR : R ≤ 1000000) (l Nt : Nat) (r r' : Loop) (s : Slots) (E : Ent) (Rw : Nat → Ent) (g x q j k : Nat) (h1 : g < q) (h2 : q < x) (h3 : x < j)
  (hE0 : E ≠ .none) (hR0 : Rw 0 ≠ .none) (hRr : ∀ u n0 kk, j < n0 → (Rw u).ren (rn n0 kk none) = Rw u) (hsr : ∀ n0 kk, j < n0 → (fun t => (s t).ren (rn n0 kk none)) = s)
  (hY : ∀ u, u < R → ∀ kk, AYield Tryz.prog l [.lit (.int .i64 ((u : Int) * 32)), tagAV (kst key.1 nn u)] kk [(j, .loop l Nt r s), (x, E), (q, Rw u)] (.lit (.bool true)) [(j, .loop l Nt r s), (q, Rw (u + 1))])
  (hZ : ∀ kk, AYield Tryz.prog l [.lit (.int .i64 ((R : Int) * 32)), tagAV (kst key.1 nn R)] kk [(j, .loop l Nt r s), (x, E), (q, Rw R)] (.lit (.bool false)) [(j, .loop l Nt r' s), (q, Rw R)]) :
  ACall Tryz.prog 219 [.lit (.func (.yield l) #[] #[]), .view (.slice none ((eightB nn).map byteAV)), .view (tagAV key)] k [(j, .loop l Nt r s), (x, E), (q, Rw 0), (g, shaG)] (.tup []) [(j, .loop l Nt r' s), (q, Rw R)] := by
 have h115 : byteAV 115 = .lit (.int .u8 115) := rfl
 have h116 : byteAV 116 = .lit (.int .u8 116) := rfl
 have h114 : byteAV 114 = .lit (.int .u8 114) := rfl
 have h101 : byteAV 101 = .lit (.int .u8 101) := rfl
 have h97 : byteAV 97 = .lit (.int .u8 97) := rfl
 have h109 : byteAV 109 = .lit (.int .u8 109) := rfl
 obtain ⟨E1, hE1⟩ : ∃ e, eightB nn = e := ⟨_, rfl⟩
 have hE1l : E1.length = 8 := by rw [← hE1]; rfl
 have hst : ∀ u : Nat, kst key.1 nn u = hmacT key.1 ([115, 116, 114, 101, 97, 109] ++ (E1 ++ eightB (u : Int))) := fun u => by rw [← hE1]; rfl
 rw [hE1]
 have hs1 := tagAV_sz key
 have hs2 := tagAV_cell key
 obtain ⟨K, hK⟩ := key
 have hkA : tagAV ⟨K, hK⟩ = .agg (K.map byteAV) := rfl
 simp only [hkA] at hs1 hs2 ⊢
 simp only at hY hZ hst
 clear hkA hE1
 have htk : (K.map byteAV).take 32 = K.map byteAV := List.take_of_length_le (by rw [List.length_map]; omega)
 refine Bd (hpre := by simp [hE0, hR0]) Tryz.func219 Tryz.ntmps219 fun σ N hp hpn hk hkn hfree => ?_
 simp only [List.mem_cons, List.not_mem_nil, or_false, forall_eq_or_imp, forall_eq] at hp hpn
 obtain ⟨hd1, hd2, hd3, hd4⟩ := hp
 obtain ⟨hn1, hn2, hn3, hn4⟩ := hpn
 refine Wk ?_
 refine go_loopB (N) mixed (by kernel_rfl) [4, 5, 6, 7, 8, 9, 10, 11, 12, 13, 14, 15, 16, 17, 18, 19, 20, 21, 22] [j, q] (fun m_ s_ σ_ n_ => ∃ (u : Nat), m_ = R + 1 - u ∧ s_ 4 = .lit (.int .i64 u) ∧ σ_ (j) = .loop l Nt r s ∧ σ_ (q) = Rw u ∧ (u ≤ R)) ⟨_, 0, rfl, WF, WF, WF, WC⟩ ?_
 intro m_3 s_3 σ_3 n_3 hs_3 hf_3 hn_3 hI_3
 obtain ⟨u, hm_3, h3_4, e3_0, e3_1, hu⟩ := hI_3
 have h3_0 := KS hs_3 0
 have h3_1 := KS hs_3 1
 have h3_2 := KS hs_3 2
 have k3_0 := KE hf_3 (x)
 have k3_1 := KE hf_3 (g)
 have hlow : ∀ id, id < N → id ≠ j → id ≠ q → σ_3 id = σ id := fun id hid hdd0 hdd1 => (hf_3.at id (by omega) (by simp [hdd0, hdd1]; try omega)).trans (by simp (disch := omega) only; try first | exact hlow id hid hdd0 hdd1 | exact hlow id hid)
 have c1 := bNumber_row (u : Int)
 have c2 := hmacOf_spec K ([115, 116, 114, 101, 97, 109] ++ (E1 ++ eightB (u : Int))) (by omega) (by simp) (by rw [List.length_append, List.length_append, hE1l, eightB_len]; decide) g
 rw [← hst u] at c2
 have hE2l := eightB_len (u : Int)
 generalize eightB (u : Int) = E2 at *
 clear hst
 have M : Mut n_3 := ⟨⟩
 by_cases huR : u = R
 ·subst huR
  have c3 := hZ
  generalize kst K nn u = T at *
  have hcs := And.intro c1 (And.intro c2 (And.intro c3 True.intro))
  clear c1 c2 c3 hY hZ
  refine Wk ?_
  refine go_resultW [(j, .loop l Nt r' s), (q, Rw u)] (by simp (disch := omega) [go_sem, *, -List.reduceReplicate]; rfl) rfl (fun id hid => ?_) (by simp) (by simp only [renF, List.map_cons, List.map_nil, hRr _ _ _ hn1]; rw [show Ent.ren (rn N k none) (.loop l Nt r' s) = .loop l Nt r' (fun t => (s t).ren (rn N k none)) from rfl, hsr _ _ hn1])
  simp only [wr_cons, wr_nil]
  by_cases i1 : id = j
  ·subst i1; simp (disch := omega) [go_sem, *]
  by_cases i2 : id = q
  ·subst i2; simp (disch := omega) [go_sem, *]
  simp (disch := omega) only [upd_ne]
  exact hlow id hid i1 i2
 ·have c3 := hY u (by omega)
  generalize kst K nn u = T at *
  have hcs := And.intro c1 (And.intro c2 (And.intro c3 True.intro))
  clear c1 c2 c3 hY hZ
  refine Wk ?_
  exact ⟨WS, WG, WN, _, (show R + 1 - (u + 1) < m_3 by omega), u + 1, rfl, WF, WF, WF, WC⟩
end

section
variable [W : W32]
theorem cry_at {key : Tg} {nn : Int} {b P : List UInt8} (hP : P.length = b.length) (hAt : ∀ i (hi : i < b.length), P[i]'(by omega) = x8 b[i] ((kst key.1 nn (i / 32)).1[i % 32]'(by rw [(kst key.1 nn (i / 32)).2]; omega))) {u : Nat} :
  ∀ i (hi : i < b.length), u * 32 ≤ i → i < u * 32 + 32 → ∃ y, (kst key.1 nn u).1[i - u * 32]? = some y ∧ P[i]? = some (x8 b[i] y) := fun i hi h1 h2 => by
 have hq : i / 32 = u := by omega
 have hr : i % 32 = i - u * 32 := by omega
 have h := hAt i hi
 simp only [hq, hr] at h
 exact ⟨_, List.getElem?_eq_getElem (by rw [(kst key.1 nn u).2]; omega), by rw [List.getElem?_eq_getElem (by omega), h]⟩
end
section
variable [W : W32]
def cryE (N L : Nat) : Ent := .box 26 (.ms (N + 2 + 1) 1 1 0 L)
def cryR (P b : List UInt8) (u : Nat) : Ent := .mrow 1 5 1 ((mixN P b (min b.length (u * 32))).map byteAV)
omit W in
theorem cryR_ren (P b : List UInt8) (u : Nat) (f : Nat → Option Nat) : (cryR P b u).ren f = cryR P b u := by
 simp only [cryR, ent_ren_mrow, renl_bytes]
omit W in
theorem cryE_ne (N L : Nat) : cryE N L ≠ .none := by simp [cryE]
omit W in
theorem cryR_ne (P b : List UInt8) (u : Nat) : cryR P b u ≠ .none := by simp [cryR]
def cryS (N f : Nat) (key : Tg) (E1 b : List UInt8) : Slots := upd (upd (upd (upd (upd (upd (upd (upd (initS [tagAV key, .slice none (E1.map byteAV), .slice none (b.map byteAV)]) 3 (.ptr N [] 0)) 6 .nils) 11 (.slice none (b.map byteAV))) 12 (.ms (N + 2 + (0 + 1)) 1 1 0 b.length)) 7 (.ptr (N + 2 + 2) [] 0)) 13 (tagAV key)) 14 (.slice none (E1.map byteAV))) 15 (.fn f [.view (.slice none (E1.map byteAV)), .view (tagAV key)])
omit W in
theorem cryS_ren (N f : Nat) (key : Tg) (E1 b : List UInt8) (n0 kk : Nat) (h : N + 9 < n0) : (fun t => (cryS N f key E1 b t).ren (rn n0 kk none)) = cryS N f key E1 b := by
 unfold cryS
 have r0 : rn n0 kk none N = some N := rn_lt (by omega)
 have r1 : rn n0 kk none (N + 2 + (0 + 1)) = some (N + 2 + (0 + 1)) := rn_lt (by omega)
 have r2 : rn n0 kk none (N + 2 + 2) = some (N + 2 + 2) := rn_lt (by omega)
 refine ren_upd _ _ (ren_upd _ _ (ren_upd _ _ (ren_upd _ _ (ren_upd _ _ (ren_upd _ _ (ren_upd _ _ (ren_upd _ _ (ren_init ?_) ?_) ?_) ?_) ?_) ?_) ?_) ?_) ?_
 ·simp only [AV.renl, AV.ren, renl_bytes, Option.bind_none, tagAV_ren]
 ·simp only [AV.ren, r0]
 ·rfl
 ·simp only [AV.ren, renl_bytes, Option.bind_none]
 ·simp only [AV.ren, r1]
 ·simp only [AV.ren, r2]
 ·simp only [tagAV_ren]
 ·simp only [AV.ren, renl_bytes, Option.bind_none]
 ·simp only [AV.ren, AV.renl, renl_bytes, Option.bind_none, tagAV_ren]
set_option maxHeartbeats 4000000 in
theorem bCrypt_spec (key : Tg) (nn : Int) (b : List UInt8) (hb : b.length ≤ 100000) (g k : Nat) :
  ACall Tryz.prog 145 [tagAV key, .slice none ((eightB nn).map byteAV), .slice none (b.map byteAV)] k [(g, shaG)] (.slice none ((strmB key.1 nn b).map byteAV)) [] := by
 have c1 := CloneM_spec b (by omega)
 have c2 := bStream_spec key (eightB nn)
 have hP := strmB_len key.1 nn b
 have hat := strmB_at key.1 nn b
 generalize hPP : strmB key.1 nn b = P at *
 have hAt : ∀ i (hi : i < b.length), P[i]'(by omega) = x8 b[i] ((kst key.1 nn (i / 32)).1[i % 32]'(by rw [(kst key.1 nn (i / 32)).2]; omega)) := fun i hi => hat i hi _ _
 clear hat hPP
 have hm0 : cryR P b 0 = .mrow 1 5 1 (b.map byteAV) := by simp [cryR, mixN_0]
 have hmR : cryR P b ((b.length + 31) / 32) = .mrow 1 5 1 (P.map byteAV) := by
  unfold cryR
  rw [Nat.min_eq_left (by omega), mixN_all hP]
 obtain ⟨R, hRd⟩ : ∃ R, (b.length + 31) / 32 = R := ⟨_, rfl⟩
 rw [hRd] at hmR
 refine Bd Tryz.func145 Tryz.ntmps145 fun σ N hp hpn hk hkn hfree => ?_
 obtain ⟨hd, hdn⟩ := HD0 hp hpn; clear hp hpn
 have hcs := And.intro c1 (And.intro c2 True.intro)
 clear c1 c2
 refine Wk ?_
 clear hcs
 change aw _ _ _ _ ⟨cryS N 219 key (eightB nn) b, _, _⟩
 refine go_rangeFunc (.exit 0) (f := 219) (caps := [.view (.slice none ((eightB nn).map byteAV)), .view (tagAV key)]) (pre := [(N + 2 + 2, cryE N b.length), (N + 2 + 1, cryR P b 0), (g, shaG)])
  (post := [(N + 2 + 1, cryR P b R)]) (res := .tup []) (by unfold cryS; simp (disch := omega) [go_sem, *, -List.reduceReplicate]) (by rw [hm0]; unfold cryE; intro p hp; simp at hp; rcases hp with rfl | rfl | rfl <;> (simp (disch := omega) [go_sem, *, -List.reduceReplicate])) (by simp; omega) (by simp) ?_ ?_
 ·intro l r hst hpe hps hA hB
  refine ⟨.done, by simp, ?_⟩
  refine bStream1_spec key nn R (by omega) l 47 r { r with state := .done, pending := jumpOf (.exit 0) } (cryS N 219 key (eightB nn) b) (cryE N b.length) (fun u => cryR P b u) g (N + 2 + 2) (N + 2 + 1) (N + 9 + 1) (N + 9 + 2) (by omega) (by omega) (by omega) (cryE_ne _ _) (cryR_ne _ _ _) (fun u n0 kk h => cryR_ren _ _ _ _) (fun n0 kk h => cryS_ren _ _ _ _ _ _ _ (by omega)) ?_ ?_
  ·intro u hu kk
   have hu32 : u * 32 < b.length := by omega
   have hyl := AYield.of_body (P := Tryz.prog) (l := l) (N := 47) (r := r) (s := cryS N 219 key (eightB nn) b) (j := N + 9 + 1) (k := kk) (args := [.lit (.int .i64 ((u : Int) * 32)), tagAV (kst key.1 nn u)]) (pre := [(N + 2 + 2, cryE N b.length), (N + 2 + 1, cryR P b u)]) (ws := [(N + 2 + 1, cryR P b (u + 1))]) (post := [(N + 2 + 1, cryR P b (u + 1))])
    .normal mixed hst (ps := [16, 17]) (by rw [hps]) hA hB rfl (by simp) (by kernel_rfl) (by kernel_rfl) (by kernel_rfl) (by kernel_rfl) (by simp [cryE_ne, cryR_ne]) (by simp) (by simp) (by simp) ?_
   ·rw [endRec_normal hst hpe] at hyl
    exact hyl
   ·clear hA hB hm0 hmR hd hdn hk hkn hfree
    obtain ⟨N0, hN0⟩ : ∃ N0, N0 = N := ⟨N, rfl⟩
    subst hN0
    intro σ N hp hpn hj hjn hk hkn hfree
    simp only [List.mem_cons, List.not_mem_nil, or_false, forall_eq_or_imp, forall_eq] at hp hpn
    obtain ⟨e1, e2⟩ := hp
    obtain ⟨n1, n2⟩ := hpn
    refine ⟨by simp only [renF, List.map_cons, List.map_nil, cryR_ren], ?_⟩
    have hT := cry_at hP hAt (u := u)
    have hTl := (kst key.1 nn u).2
    generalize kst key.1 nn u = T at *
    obtain ⟨T, hT32⟩ := T
    simp only at hT hTl
    have hTA : tagAV ⟨T, hT32⟩ = .agg (T.map byteAV) := rfl
    have hs1 := tagAV_sz ⟨T, hT32⟩
    have hs2 := tagAV_cell ⟨T, hT32⟩
    rw [hTA] at hs1 hs2 ⊢
    clear hTA hAt
    have ha : (u : Int) * 32 = ((u * 32 : Nat) : Int) := by omega
    rw [ha]
    clear ha
    unfold cryE cryR at *
    rw [Nat.min_eq_right (Nat.le_of_lt hu32)] at e2
    obtain ⟨e, he⟩ : ∃ e, min b.length ((u + 1) * 32) = e := ⟨_, rfl⟩
    rw [he]
    have he1 : u * 32 ≤ e := by omega
    have he2 : e ≤ b.length := by omega
    have he3 : e ≤ u * 32 + 32 := by omega
    have he4 : e < b.length → e = u * 32 + 32 := by omega
    clear he
    generalize u * 32 = a at *
    have hage : ¬ ((b.length : Int) ≤ (a : Int)) := by omega
    unfold cryS sputs sputs sputs at *
    refine Wk ?_
    refine ⟨rfl, by simp (disch := omega) [go_sem, *, -List.reduceReplicate], ?_⟩
    refine Wk ?_
    obtain ⟨C0, hC0⟩ : ∃ c, mixN P b a = c := ⟨_, rfl⟩
    rw [hC0] at e2
    refine go_loopB (N + 3) mixed (by kernel_rfl) [10, 23, 24, 25, 26, 27, 28, 29, 30, 31, 32, 33, 34, 35, 36, 37, 38, 39, 40, 41, 42, 43, 44, 45] [N0 + 2 + 1] (fun m_ s_ σ_ n_ => ∃ (i : Nat) (cur : List UInt8), m_ = e - i ∧ s_ 10 = .lit (.int .i64 i) ∧ σ_ (N0 + 2 + 1) = .mrow 1 5 1 (cur.map byteAV) ∧ (a ≤ i) ∧ (i ≤ e) ∧ (mixN P b i = cur)) ⟨_, a, C0, rfl, WF, WF, WC, WC, WC⟩ ?_
    intro m_1 s_1 σ_1 n_1 hs_1 hf_1 hn_1 hI_1
    obtain ⟨i, cur, hm_1, h1_10, e1_0, hi1, hi2, hc⟩ := hI_1
    have h1_6 := KS hs_1 6
    have h1_7 := KS hs_1 7
    have h1_8 := KS hs_1 8
    have h1_9 := KS hs_1 9
    have k1_0 := KE hf_1 (N0 + 2 + 2)
    have k1_1 := KE hf_1 (N0 + 9 + 1)
    have k1_2 := KE hf_1 (N + 1 + 0)
    have hlow : ∀ id, id < N → id ≠ N0 + 2 + 1 → id ≠ N0 + 9 + 1 → σ_1 id = σ id := fun id hid hdd0 hdd1 => (hf_1.at id (by omega) (by simp [hdd0]; try omega)).trans (by simp (disch := omega) only [upd_ne]; try first | exact hlow id hid hdd0 hdd1 | exact hlow id hid)
    by_cases hie : i = e
    ·subst hie
     rw [hc]
     have hend : (i : Int) < (b.length : Int) → ¬ ((i : Int) < (a : Int) + 32) := fun h => by have := he4 (by omega); omega
     by_cases hib : i = b.length
     ·have hib1 : ¬ ((i : Int) < (b.length : Int)) := by omega
      clear hT hend
      refine Wk ?_
      refine ⟨rfl, fun id hid => ?_⟩
      simp only [wr_cons, wr_nil]
      by_cases i1 : id = N0 + 2 + 1
      ·subst i1; simp (disch := omega) [go_sem, *]
      by_cases i2 : id = N0 + 9 + 1
      ·subst i2; simp (disch := omega) [go_sem, *]
      simp (disch := omega) only [upd_ne]
      exact hlow id hid i1 i2
     ·have hib1 : ((i : Int) < (b.length : Int)) := by omega
      have hib2 := hend hib1
      clear hT hend
      refine Wk ?_
      refine ⟨rfl, fun id hid => ?_⟩
      simp only [wr_cons, wr_nil]
      by_cases i1 : id = N0 + 2 + 1
      ·subst i1; simp (disch := omega) [go_sem, *]
      by_cases i2 : id = N0 + 9 + 1
      ·subst i2; simp (disch := omega) [go_sem, *]
      simp (disch := omega) only [upd_ne]
      exact hlow id hid i1 i2
    ·have hil : i < b.length := by omega
     have hib1 : ((i : Int) < (b.length : Int)) := by omega
     have hib2 : ((i : Int) < (a : Int) + 32) := by omega
     obtain ⟨y, hy, hPy⟩ := hT i hil hi1 (by omega)
     have hcl := mixN_len hP i (by omega)
     have ha0 := mixN_at hP i hil
     have hset0 := mixN_set hP i (by omega)
     rw [hc] at hcl ha0 hset0
     have hPi : P[i]'(by omega) = x8 b[i] y := by
      rw [List.getElem?_eq_getElem (by omega)] at hPy
      exact Option.some.inj hPy
     rw [hPi] at hset0
     obtain ⟨z, hz⟩ : ∃ z, b[i] = z := ⟨_, rfl⟩
     rw [List.getElem?_eq_getElem hil, hz] at ha0
     rw [hz] at hset0
     have hset := set_bytes cur i (x8 z y)
     rw [hset0] at hset
     have hx := x8_eq z y
     generalize x8 z y = v at *
     have hyb : byteAV y = .lit (.int .u8 y.toNat) := rfl
     have hzb : byteAV z = .lit (.int .u8 z.toNat) := rfl
     have hvb : byteAV v = .lit (.int .u8 v.toNat) := rfl
     rw [hvb] at hset
     generalize hc' : mixN P b (i + 1) = cn at *
     have hic : i < cur.length := by omega
     have hci : cur[i] = z := by rw [List.getElem?_eq_getElem hic] at ha0; exact Option.some.inj ha0
     obtain ⟨dd, hdd⟩ : ∃ dd : Nat, i - a = dd := ⟨_, rfl⟩
     rw [hdd] at hy
     have hsub : (i : Int) - (a : Int) = (dd : Int) := by omega
     have hdd32 : dd < 32 := by omega
     have hyT : T[dd]'(by omega) = y := by rw [List.getElem?_eq_getElem (by omega)] at hy; exact Option.some.inj hy
     clear hy ha0
     clear hT hPi hPy hdd hset0 hz hc
     refine Wk ?_
     exact ⟨WS, WG, WN, _, (show e - (i + 1) < m_1 by omega), i + 1, cn, rfl, WF, WF, WC, WC, WC⟩
  ·intro kk
   have hR32 : b.length ≤ R * 32 := by omega
   have hyl := AYield.of_body (P := Tryz.prog) (l := l) (N := 47) (r := r) (s := cryS N 219 key (eightB nn) b) (j := N + 9 + 1) (k := kk) (args := [.lit (.int .i64 ((R : Int) * 32)), tagAV (kst key.1 nn R)]) (pre := [(N + 2 + 2, cryE N b.length), (N + 2 + 1, cryR P b R)]) (ws := [(N + 2 + 1, cryR P b R)]) (post := [(N + 2 + 1, cryR P b R)])
    (.exit 0) mixed hst (ps := [16, 17]) (by rw [hps]) hA hB rfl (by simp) (by kernel_rfl) (by kernel_rfl) (by kernel_rfl) (by kernel_rfl) (by simp [cryE_ne, cryR_ne]) (by simp) (by simp) (by simp) ?_
   ·exact hyl
   ·clear hA hB hm0 hmR hd hdn hk hkn hfree
    obtain ⟨N0, hN0⟩ : ∃ N0, N0 = N := ⟨N, rfl⟩
    subst hN0
    intro σ N hp hpn hj hjn hk hkn hfree
    simp only [List.mem_cons, List.not_mem_nil, or_false, forall_eq_or_imp, forall_eq] at hp hpn
    obtain ⟨e1, e2⟩ := hp
    obtain ⟨n1, n2⟩ := hpn
    refine ⟨by simp only [renF, List.map_cons, List.map_nil, cryR_ren], ?_⟩
    generalize kst key.1 nn R = T at *
    have ha : (R : Int) * 32 = ((R * 32 : Nat) : Int) := by omega
    rw [ha]
    clear ha
    unfold cryE cryR at *
    rw [Nat.min_eq_left hR32] at e2 ⊢
    generalize R * 32 = a at *
    have hage : (b.length : Int) ≤ (a : Int) := by omega
    unfold cryS sputs sputs sputs at *
    refine Wk ?_
    refine ⟨rfl, by simp (disch := omega) [go_sem, *, -List.reduceReplicate], ?_⟩
    refine Wk ?_
    refine ⟨rfl, fun id hid => ?_⟩
    simp only [wr_cons, wr_nil]
    by_cases i1 : id = N0 + 2 + 1
    ·subst i1; simp (disch := omega) [go_sem, *]
    by_cases i2 : id = N0 + 9 + 1
    ·subst i2; simp (disch := omega) [go_sem, *]
    simp (disch := omega) only [upd_ne]
 ·intro l r
  rw [hmR]
  unfold cryS
  apply go_blk_here
  apply go_then
  refine go_freezeIn (N + 2 + 2) [] (r := N + 2 + 1) (ver := 1) (size := 1) (e := 5) (bt := 26) (c := .ms (N + 2 + 1) 1 1 0 b.length) (xs := P.map byteAV) (k := b.length) (by simp (disch := omega) [go_sem, *, -List.reduceReplicate]) (by simp (disch := omega) [go_sem, *, -List.reduceReplicate]) rfl (by rw [List.length_map, hP]) ?_
  exact WM
end

section
variable [W : W32]
end
section
variable [W : W32]
end
end Go.Proofs.YtdmjpolnbmoehaaGreatDoor
