/- Texts W12, D9, U8, X16, X21, U11, U28, U12, M9, X17, X23, joined. -/
import Derived.Test.YtdmjpolnbmoehaaDoorMY1

namespace Go.Proofs.YtdmjpolnbmoehaaDoor
open Go.Ab
attribute [local irreducible] Go.Ab.tyAV Go.Ab.aw Go.Ab.aops Go.Ab.kReg Go.Ab.aThen Go.Ab.aBlk Go.Ab.acond Go.Ab.aguard Go.Ab.astep Go.Ab.AStepX Go.Ab.aRet
attribute [local irreducible] shaG
theorem pEncS_spec (p : Pr) (hp0 : PrOk p) (d k : Nat) : ACall Tryd.prog 109 [prAV p] k [(d, bitsG)] (encAV (encPS p)) [] := by
 unfold encPS
 split
 ·rename_i h; exact Enc_spec p hp0 h d k
 ·rename_i h
  exact (Enc_bad p hp0 (by simpa using h) d k).result (AV.sub_tup (.cons AV.le_nils0 (.cons (AV.le_refl _) .nil)))
theorem ClipP_spec (l : List Pr) (_hl : l.length ≤ 1000000) (k : Nat) :
  ACall Tryd.prog 110 [.slice none (l.map prAV)] k [] (.clip (l.map prAV)) [] := by
 refine Bd Tryd.func110 Tryd.ntmps110 fun σ N hp hpn hk hkn hfree => ?_
 exact W0
section
variable [W : W32]
def condP (a : Alg) (e : Nat) (d : Di) (p : Pr) : Alg × Nat × Di :=
 ((mMac a (if e = 0 then (encPS p).2 else e) d.tag (condM p)).1, (mMac a (if e = 0 then (encPS p).2 else e) d.tag (condM p)).2.1, ⟨d.ticket, d.conds ++ [p], (mMac a (if e = 0 then (encPS p).2 else e) d.tag (condM p)).2.2⟩)
set_option maxHeartbeats 4000000 in
theorem dCond_spec (a : Alg) (m : Nat) (ha : AlgIn a m) (hm : m ≤ 900000) (e : Nat) (d : Di) (hdt : d.ticket.length ≤ 100000) (hdc : d.conds.length ≤ 10000) (p : Pr) (hp0 : PrOk p) (q r1 r2 g h k : Nat) :
  ACall Tryd.prog 78 [.ptr q [] 0, diAV d, prAV p] k (makE a e q r1 r2 ++ [(g, shaG), (h, bitsG)]) (diAV (condP a e d p).2.2) [(q, makB (condP a e d p).1 (condP a e d p).2.1 r1 r2), (r1, rowM (condP a e d p).1.macs.length)] := by
 have c1 := pEncS_spec p hp0 h
 have hM : [99, 111, 110, 100, 105, 116, 105, 111, 110] ++ (encPS p).1 = condM p := rfl
 have hMl := condM_len p
 have hEl := encPS_len p
 have c2 := Message_spec [99, 111, 110, 100, 105, 116, 105, 111, 110] (encPS p).1 (by decide) (by omega)
 rw [hM] at c2
 have hM0 : 0 < (condM p).length := by simp [condM]
 have f1 := Fail_spec a e (encPS p).2 q r1 r2
 have c3 := mMac_spec a (if e = 0 then (encPS p).2 else e) d.tag (condM p) (by have := ha.ml; omega) ha.mm (fun _ => hM0) (by omega) q r1 r2 g
 have hbx := mMac_boxes a (if e = 0 then (encPS p).2 else e) d.tag (condM p)
 have c4 := Clone_spec d.ticket (by omega)
 have c5 := ClipP_spec d.conds (by omega)
 unfold condP
 generalize encPS p = X at *
 obtain ⟨B, E⟩ := X
 simp only at *
 generalize condM p = M at *
 generalize (if e = 0 then E else e) = e1 at *
 obtain ⟨ti, L, tg⟩ := d
 simp only at *
 generalize mMac a e1 tg M = Y at *
 obtain ⟨a2, e3, t2⟩ := Y
 simp only at c3 hbx ⊢
 have hdA : diAV ⟨ti, L, tg⟩ = .agg [.slice none (ti.map byteAV), .slice none (L.map prAV), tagAV tg] := rfl
 have hdB : diAV ⟨ti, L ++ [p], t2⟩ = .agg [.slice none (ti.map byteAV), .slice none (L.map prAV ++ [prAV p]), tagAV t2] := by simp [diAV]
 rw [hdA, hdB]
 unfold encAV at c1
 simp only at c1
 have hb : (L.length + 1) * 56 ≤ 140737488355328 := by omega
 unfold makE at *
 simp only [List.cons_append, List.nil_append] at *
 simp only [makB_def, rowM_eq, rowB_eq, hbx] at *
 clear ha hp0 hM hMl hEl hM0 hbx hdA hdB
 refine Bd Tryd.func78 Tryd.ntmps78 fun σ N hp hpn hk hkn hfree => ?_
 simp only [List.mem_cons, List.not_mem_nil, or_false, forall_eq_or_imp, forall_eq] at hp hpn
 obtain ⟨hd1, hd2, hd3, hd4, hd5⟩ := hp
 obtain ⟨hdn1, hdn2, hdn3, hdn4, hdn5⟩ := hpn
 have hne : q ≠ r1 := by rintro rfl; rw [hd1] at hd2; cases hd2
 have hne3 : q ≠ r2 := by rintro rfl; rw [hd1] at hd3; cases hd3
 have hneg : g ≠ q := by rintro rfl; rw [hd4] at hd1; exact shaG_nbox hd1
 have hneg1 : g ≠ r1 := by rintro rfl; rw [hd4] at hd2; exact shaG_nrow hd2
 have hneh : h ≠ q := by rintro rfl; rw [hd5] at hd1; exact bitsG_nbx hd1
 have hneh1 : h ≠ r1 := by rintro rfl; rw [hd5] at hd2; exact bitsG_nrw hd2
 have hne23 : r1 ≠ r2 := by rintro rfl; rw [hd2] at hd3; simp at hd3
 have hcs := And.intro c1 (And.intro f1 (And.intro c4 (And.intro c5 (And.intro c2 (And.intro c3 True.intro)))))
 clear c1 f1 c2 c3 c4 c5
 refine Wk ?_
 refine go_resultWI [(q, (.box 140 (.agg [.agg [.lit (.bool a2.free), tagAV a2.seed, .lit (.int .i64 a2.fresh), .slice (some r1) (a2.macs.map macAV), .slice (some r2) (a.boxes.map sealAV)], .lit (.int .i64 (e3 : Int))]))), (r1, (.row 102 65 a2.macs.length))] (by simp (disch := omega) [go_sem, *, -List.reduceReplicate]; rfl) (by first | exact AV.le_refl _ | ((first | apply AV.le_slices | apply AV.le_nilsE | apply AV.le_clipE); first | rfl | (simp (disch := omega) [go_sem, *, -List.reduceReplicate]; done)) | (apply AV.sub_tup; repeat' first | exact ALe.nil | exact AV.le_refl _ | apply ALe.cons | ((first | apply AV.le_slices | apply AV.le_nilsE | apply AV.le_clipE); first | rfl | (simp (disch := omega) [go_sem, *, -List.reduceReplicate]; done))) | (apply AV.sub_agg; repeat' first | exact ALe.nil | exact AV.le_refl _ | apply ALe.cons | ((first | apply AV.le_slices | apply AV.le_nilsE | apply AV.le_clipE); first | rfl | (simp (disch := omega) [go_sem, *, -List.reduceReplicate]; done)))) (by first | rfl | (simp (disch := omega) [go_sem]; done) | (simp (disch := omega) [go_sem, *]; done) | simp (disch := omega) [go_sem]) (fun id hid => by simp only [wr_cons, wr_nil]; (by_cases hdd : id = q; (· (subst hdd; simp (disch := omega) [go_sem, *])); (· (by_cases hdd2 : id = r1; (· (subst hdd2; simp (disch := omega) [go_sem, *])); (· (simp (disch := omega) only [upd_ne]; try (first | exact hlow id hid hdd hdd2 | exact hlow id hid))))))) (by simp) (by simp (disch := omega) [go_sem, *])
omit W in
theorem dDone_ok (a : Alg) (d : Di) (q r1 r2 k : Nat) :
  ACall Tryd.prog 77 [.ptr q [] 0, diAV d] k (makE a 0 q r1 r2) (mdAV (a, d, 0)) [] := by
 have cd := Done_ok a q r1 r2
 unfold mdAV
 simp only
 unfold makE at *
 simp only [makB_def, rowM_eq, rowB_eq] at *
 refine Bd Tryd.func77 Tryd.ntmps77 fun σ N hp hpn hk hkn hfree => ?_
 simp only [List.mem_cons, List.not_mem_nil, or_false, forall_eq_or_imp, forall_eq] at hp hpn; obtain ⟨hd1, hd2, hd3⟩ := hp; obtain ⟨hdn1, hdn2, hdn3⟩ := hpn
 have hcs := And.intro cd True.intro
 clear cd
 refine Wk ?_
 exact WD
omit W in
theorem dDone_bad (a : Alg) (e : Nat) (he : e ≠ 0) (d : Di) (q r1 r2 k : Nat) :
  ACall Tryd.prog 77 [.ptr q [] 0, diAV d] k (makE a e q r1 r2) (mdAV (alg0, di0, e)) [] := by
 have cd := Done_bad a e he q r1 r2
 have h1i : ((e : Int) != 0) = true := by simp; omega
 unfold mdAV di0
 simp only [diAV, alg0_eq, List.map_nil]
 unfold makE at *
 simp only [makB_def, rowM_eq, rowB_eq, alg0_eq] at *
 obtain ⟨ti, L, tg⟩ := d
 simp only
 refine Bd Tryd.func77 Tryd.ntmps77 fun σ N hp hpn hk hkn hfree => ?_
 simp only [List.mem_cons, List.not_mem_nil, or_false, forall_eq_or_imp, forall_eq] at hp hpn; obtain ⟨hd1, hd2, hd3⟩ := hp; obtain ⟨hdn1, hdn2, hdn3⟩ := hpn
 have hcs := And.intro cd True.intro
 clear cd
 refine Wk ?_
 exact WD
def resE (d : Di) (p : Pr) : Nat := if predB p = false then 5 else if p.kind = 7 then 6 else if 8 ≤ d.conds.length then 2 else 0
theorem restrS_cond (a : Alg) (d : Di) (p : Pr) : restrS a d p = if (condP a (resE d p) d p).2.1 = 0 then ((condP a (resE d p) d p).1, (condP a (resE d p) d p).2.2, 0) else (alg0, di0, (condP a (resE d p) d p).2.1) := by
 have bad : ∀ e : Nat, e ≠ 0 → (condP a e d p).2.1 = e := fun e he => by
  unfold condP
  simp only
  rw [if_neg he, mMac_err he]
 unfold restrS resE
 by_cases h1 : predB p = false
 ·rw [if_pos h1, if_pos h1, bad 5 (by omega), if_neg (show ¬ (5 : Nat) = 0 by omega)]
 ·rw [if_neg h1, if_neg h1]
  by_cases h2 : p.kind = 7
  ·rw [if_pos h2, if_pos h2, bad 6 (by omega), if_neg (show ¬ (6 : Nat) = 0 by omega)]
  ·rw [if_neg h2, if_neg h2]
   by_cases h3 : 8 ≤ d.conds.length
   ·rw [if_pos h3, if_pos h3, bad 2 (by omega), if_neg (show ¬ (2 : Nat) = 0 by omega)]
   ·rw [if_neg h3, if_neg h3]
    have he : (encPS p).2 = 0 := by unfold encPS; rw [if_pos (by simpa using h1)]
    unfold condP
    simp only [he, if_true]
    by_cases hm : (macS a d.tag (condM p)).2.2 = 0
    ·have hM : mMac a 0 d.tag (condM p) = ((macS a d.tag (condM p)).1, 0, (macS a d.tag (condM p)).2.1) := by unfold mMac; rw [if_neg (by simp), if_pos hm]
     rw [hM, if_pos hm]; rfl
    ·have hM : mMac a 0 d.tag (condM p) = (a, (macS a d.tag (condM p)).2.2, zeroTag) := by unfold mMac; rw [if_neg (by simp), if_neg hm]
     rw [hM, if_neg hm]; simp only; rw [if_neg hm]
end
end Go.Proofs.YtdmjpolnbmoehaaDoor

namespace Go.Proofs.YtdmjpolnbmoehaaDoor
open Go.Ab
attribute [local irreducible] Go.Ab.tyAV Go.Ab.aw Go.Ab.aops Go.Ab.kReg Go.Ab.aThen Go.Ab.aBlk Go.Ab.acond Go.Ab.aguard Go.Ab.astep Go.Ab.AStepX Go.Ab.aRet
theorem minutes_spec (n : Int) (k : Nat) : ACall Tryd.prog 73 [.lit (.int .i64 n)] k [] (.lit (.bool (decide (0 ≤ n) && decide (n ≤ 67108864)))) [] := by
 by_cases h : 0 ≤ n
 ·rw [decide_eq_true h]
  refine Bd Tryd.func73 Tryd.ntmps73 fun σ N hp hpn hk hkn hfree => ?_
  exact W0
 ·rw [decide_eq_false h]
  refine Bd Tryd.func73 Tryd.ntmps73 fun σ N hp hpn hk hkn hfree => ?_
  exact W0
def ageBad (b m : Int) : Prop := m < 0 ∨ 67108864 < m ∨ b < -67108864 ∨ 67108864 < b ∨ m < b
instance (b m : Int) : Decidable (ageBad b m) := by unfold ageBad; infer_instance
def ageS (b m : Int) : Int := if ageBad b m then 0 else if (m - b) / 525600 < 150 then (m - b) / 525600 else 150
theorem age_A (n : List UInt8) (b m : Int) (h : (decide (0 ≤ m) && decide (m ≤ 67108864)) = false) (k : Nat) :
  ACall Tryd.prog 70 [persAV ⟨n, b⟩, .lit (.int .i64 m)] k [] (.lit (.int .i64 0)) [] := by
 have c1 := minutes_spec m
 rw [h] at c1
 clear h
 refine Bd Tryd.func70 Tryd.ntmps70 fun σ N hp hpn hk hkn hfree => ?_
 have hcs := And.intro c1 True.intro
 exact W0
theorem age_B (n : List UInt8) (b m w x : Int) (h : (decide (0 ≤ m) && decide (m ≤ 67108864)) = true) (hw : IntKind.i64.wrap (-b) = w) (hx : (if b < w then w else b) = x) (h2 : (decide (0 ≤ x) && decide (x ≤ 67108864)) = false) (k : Nat) :
  ACall Tryd.prog 70 [persAV ⟨n, b⟩, .lit (.int .i64 m)] k [] (.lit (.int .i64 0)) [] := by
 have c1 := minutes_spec m
 rw [h] at c1
 have c2 := minutes_spec x
 rw [h2] at c2
 clear h h2
 refine Bd Tryd.func70 Tryd.ntmps70 fun σ N hp hpn hk hkn hfree => ?_
 have hcs := And.intro c1 (And.intro c2 True.intro)
 exact W0
theorem age_C (n : List UInt8) (b m w x : Int) (h : (decide (0 ≤ m) && decide (m ≤ 67108864)) = true) (hw : IntKind.i64.wrap (-b) = w) (hx : (if b < w then w else b) = x) (h2 : (decide (0 ≤ x) && decide (x ≤ 67108864)) = true) (h3 : m < b) (k : Nat) :
  ACall Tryd.prog 70 [persAV ⟨n, b⟩, .lit (.int .i64 m)] k [] (.lit (.int .i64 0)) [] := by
 have c1 := minutes_spec m
 rw [h] at c1
 have c2 := minutes_spec x
 rw [h2] at c2
 clear h h2
 refine Bd Tryd.func70 Tryd.ntmps70 fun σ N hp hpn hk hkn hfree => ?_
 have hcs := And.intro c1 (And.intro c2 True.intro)
 exact W0
theorem age_D (n : List UInt8) (b m w x r : Int) (h : (decide (0 ≤ m) && decide (m ≤ 67108864)) = true) (hw : IntKind.i64.wrap (-b) = w) (hx : (if b < w then w else b) = x) (h2 : (decide (0 ≤ x) && decide (x ≤ 67108864)) = true) (h3 : ¬ m < b) (h4 : -67108864 ≤ b) (h5 : m ≤ 67108864)
  (hr : (if (150 : Int) < (m - b).tdiv 525600 then (150 : Int) else (m - b).tdiv 525600) = r) (k : Nat) :
  ACall Tryd.prog 70 [persAV ⟨n, b⟩, .lit (.int .i64 m)] k [] (.lit (.int .i64 r)) [] := by
 have c1 := minutes_spec m
 rw [h] at c1
 have c2 := minutes_spec x
 rw [h2] at c2
 have hwr : IntKind.i64.wrap (m - b) = m - b := wrap_i64 (by omega) (by omega)
 have hq : (m - b).tdiv 525600 = (m - b) / 525600 := Int.tdiv_eq_ediv_of_nonneg (by omega)
 rw [hq] at hr
 clear h h2
 refine Bd Tryd.func70 Tryd.ntmps70 fun σ N hp hpn hk hkn hfree => ?_
 have hcs := And.intro c1 (And.intro c2 True.intro)
 exact W0
theorem Age_spec (n : List UInt8) (b m : Int) (w : (Lit.int .i64 b).wf = true) (k : Nat) :
  ACall Tryd.prog 70 [persAV ⟨n, b⟩, .lit (.int .i64 m)] k [] (.lit (.int .i64 (ageS b m))) [] := by
 have wb : -9223372036854775808 ≤ b ∧ b ≤ 9223372036854775807 := i64_of_wf w
 unfold ageS
 by_cases h1 : m < 0 ∨ 67108864 < m
 ·rw [if_pos (by unfold ageBad; omega)]
  refine age_A n b m ?_ k
  rw [Bool.and_eq_false_iff, decide_eq_false_iff_not, decide_eq_false_iff_not]; omega
 ·have hm : (decide (0 ≤ m) && decide (m ≤ 67108864)) = true := by
   rw [Bool.and_eq_true, decide_eq_true_iff, decide_eq_true_iff]; omega
  by_cases h2 : b < -67108864 ∨ 67108864 < b
  ·rw [if_pos (by unfold ageBad; omega)]
   by_cases h3 : b = -9223372036854775808
   ·subst h3
    refine age_B n _ m (-9223372036854775808) (-9223372036854775808) hm (by decide +kernel) (by decide +kernel) (by decide +kernel) k
   ·refine age_B n b m (-b) (if b < -b then -b else b) hm (wrap_i64 (by omega) (by omega)) rfl ?_ k
    rw [Bool.and_eq_false_iff, decide_eq_false_iff_not, decide_eq_false_iff_not]; split <;> omega
  ·have hx : (decide (0 ≤ (if b < -b then -b else b)) && decide ((if b < -b then -b else b) ≤ 67108864)) = true := by
    rw [Bool.and_eq_true, decide_eq_true_iff, decide_eq_true_iff]; split <;> omega
   by_cases h3 : m < b
   ·rw [if_pos (by unfold ageBad; omega)]
    exact age_C n b m (-b) _ hm (wrap_i64 (by omega) (by omega)) rfl hx h3 k
   ·rw [if_neg (by unfold ageBad; omega)]
    refine age_D n b m (-b) _ _ hm (wrap_i64 (by omega) (by omega)) rfl hx h3 (by omega) (by omega) ?_ k
    rw [Int.tdiv_eq_ediv_of_nonneg (by omega)]
    split <;> split <;> omega
def findP (l : List Pe) (nm : List UInt8) : Pe × Bool := match l.find? (fun p => decide (p.name = nm)) with
 | some p => (p, true)
 | none => (⟨[], 0⟩, false)
theorem findP_at {l : List Pe} {nm : List UInt8} {u : Nat} {p : Pe} (h : u < l.length) (hx : l[u] = p) (hm : p.name = nm) (hno : ∀ y ∈ l.take u, ¬ y.name = nm) : findP l nm = (p, true) := by
 have : l.find? (fun p => decide (p.name = nm)) = some p := by
  rw [List.find?_eq_some_iff_getElem]
  refine ⟨by simp [hm], u, h, hx, fun j hj => ?_⟩
  have := hno l[j] (by rw [List.mem_iff_getElem]; exact ⟨j, by rw [List.length_take]; omega, by rw [List.getElem_take]⟩)
  simp [this]
 simp only [findP, this]
theorem findP_none {l : List Pe} {nm : List UInt8} (hno : ∀ y ∈ l, ¬ y.name = nm) : findP l nm = (⟨[], 0⟩, false) := by
 have : l.find? (fun p => decide (p.name = nm)) = none := by
  rw [List.find?_eq_none]; intro x hx; simp [hno x hx]
 simp only [findP, this]
theorem pno_succ {l : List Pe} {nm : List UInt8} {u : Nat} {p : Pe} (h : u < l.length) (hx : l[u] = p) (hm : ¬ p.name = nm) (hno : ∀ y ∈ l.take u, ¬ y.name = nm) : ∀ y ∈ l.take (u + 1), ¬ y.name = nm := by
 intro y hy
 rw [List.take_add_one, List.getElem?_eq_getElem h, hx] at hy
 simp only [Option.toList, List.mem_append, List.mem_singleton] at hy
 rcases hy with hy | rfl
 ·exact hno y hy
 ·exact hm
theorem Find_spec (p : Int) (t : Tg) (l : List Pe) (nm : List UInt8) (hl : l.length ≤ 1000000) (k : Nat) :
  ACall Tryd.prog 74 [concAV ⟨p, t, l⟩, strAV nm] k [] (.tup [persAV (findP l nm).1, .lit (.bool (findP l nm).2)]) [] := by
 have hnmv : strAV nm = .lit (.string ⟨nm.toArray⟩) := rfl
 refine Bd Tryd.func74 Tryd.ntmps74 fun σ N hp hpn hk hkn hfree => ?_
 refine Wk ?_
 refine go_loop (aloop mixed (by kernel_rfl) (fun c => ∃ (u : Nat), c.s 1 = strAV nm ∧ c.s 9 = .slice none (l.map persAV) ∧ c.s 10 = .lit (.int .i64 l.length) ∧ c.s 4 = .ptr (N + 1) [] 0 ∧ c.σ (N + 1) = .box 83 (persAV ⟨[], 0⟩) ∧ c.s 11 = .lit (.int .i64 u) ∧ u ≤ l.length ∧ N + 1 < c.n ∧ (∀ id, id < N → c.σ id = σ id) ∧ ∀ y ∈ l.take u, ¬ y.name = nm)
  (fun c => match c.s 11 with | .lit (.int _ m) => l.length - m.toNat | _ => 0) ⟨0, by simp (disch := omega) [go_sem, *, -List.reduceReplicate], by simp (disch := omega) [go_sem, *, -List.reduceReplicate], by simp (disch := omega) [go_sem, *, -List.reduceReplicate], by simp (disch := omega) [go_sem, *, -List.reduceReplicate], by simp (disch := omega) [go_sem, *, -List.reduceReplicate]; try rfl, by simp (disch := omega) [go_sem, *, -List.reduceReplicate], by omega, by simp only; omega, (fun id hid => by simp (disch := omega) only [upd_ne]; try exact hlow id hid), by simp⟩ ?_)
 rintro ⟨s, σ', n'⟩ ⟨u, h1, h9, h10, h4, hN1, h6, hu, hn', hlow, hno⟩
 simp only at h1 h9 h10 h4 hN1 h6 hn' hlow
 by_cases hul : u = l.length
 ·rw [findP_none (by rw [hul, List.take_length] at hno; exact hno)]
  clear hno
  exact W0
 ·have hu2 : u < l.length := by omega
  obtain ⟨x, hx⟩ : ∃ x, l[u] = x := ⟨_, rfl⟩
  by_cases hm : x.name = nm
  ·rw [findP_at hu2 hx hm hno]
   clear hno
   obtain ⟨xn, xb⟩ := x
   simp only at hm
   subst hm
   exact W0
  ·have hno2 := pno_succ hu2 hx hm hno
   clear hno
   obtain ⟨xn, xb⟩ := x
   simp only at hm
   refine Wk ?_
   refine ⟨⟨u + 1, by simp (disch := omega) [go_sem, *, -List.reduceReplicate], by simp (disch := omega) [go_sem, *, -List.reduceReplicate], by simp (disch := omega) [go_sem, *, -List.reduceReplicate], by simp (disch := omega) [go_sem, *, -List.reduceReplicate], by simp (disch := omega) [go_sem, *, -List.reduceReplicate], by simp (disch := omega) [go_sem, *, -List.reduceReplicate], by omega, by simp only; omega, (fun id hid => by simp (disch := omega) only [upd_ne]; try exact hlow id hid), hno2⟩, ?_⟩
   simp (disch := omega) [go_sem, *, -List.reduceReplicate]
   omega
end Go.Proofs.YtdmjpolnbmoehaaDoor

namespace Go.Proofs.YtdmjpolnbmoehaaDoor
open Go.Ab
attribute [local irreducible] Go.Ab.tyAV Go.Ab.aw Go.Ab.aops Go.Ab.kReg Go.Ab.aThen Go.Ab.aBlk Go.Ab.acond Go.Ab.aguard Go.Ab.astep Go.Ab.AStepX Go.Ab.aRet
attribute [local irreducible] shaG
section
variable [W : W32]
def holdP (h : List UInt8) : Pr := ⟨6, 0, 0, 0, h, 0⟩
def grantS (a : Alg) (c : Co) (t : List UInt8) (holder : List UInt8) (minute : Int) : Alg × Di × Nat :=
 if nameB holder = false then (alg0, di0, 7) else if minute < 0 ∨ 67108864 < minute then (alg0, di0, 1) else
 if (openT a c t).2.2 ≠ 0 then (alg0, di0, (openT a c t).2.2) else if (findP c.ps holder).2 = false then (alg0, di0, 12) else
 if ageS (findP c.ps holder).1.born minute < (openT a c t).2.1.least ∨ (openT a c t).2.1.most < ageS (findP c.ps holder).1.born minute then (alg0, di0, 25) else
 if (macS a (openT a c t).1 (grantM t)).2.2 = 0 then restrS (macS a (openT a c t).1 (grantM t)).1 ⟨t, [], (macS a (openT a c t).1 (grantM t)).2.1⟩ (holdP holder) else (alg0, di0, (macS a (openT a c t).1 (grantM t)).2.2)
end

def note (b : Bool) (f e : Nat) : Nat := if b = true then e else if e = 0 then f else e
theorem note_err {b : Bool} {f e : Nat} (h : e ≠ 0) : note b f e = e := by unfold note; rw [if_neg h, ite_self]
theorem note_t {f e : Nat} : note true f e = e := rfl
theorem note_f {f : Nat} : note false f 0 = f := rfl
def minB (n : Int) : Bool := decide (0 ≤ n) && decide (n ≤ 67108864)
theorem predB_hold (h : List UInt8) : predB (holdP h) = nameB h := by
 unfold predB holdP
 simp
section
variable [W : W32]
def grE (a : Alg) (c : Co) (t holder : List UInt8) (minute : Int) : Nat :=
 note (decide (¬ (openT a c t).2.1.most < ageS (findP c.ps holder).1.born minute)) 25
  (note (decide (¬ ageS (findP c.ps holder).1.born minute < (openT a c t).2.1.least)) 25
  (note (findP c.ps holder).2 12 (note (decide ((openT a c t).2.2 = 0)) (openT a c t).2.2 (note (minB minute) 1 (note (nameB holder) 7 0)))))
def grM (a : Alg) (e : Nat) (kt : Tg) (t : List UInt8) : Alg × Nat × Tg := mMac a e kt (grantM t)
def grC (a : Alg) (e : Nat) (kt : Tg) (t holder : List UInt8) : Alg × Nat × Di := condP (grM a e kt t).1 (grM a e kt t).2.1 ⟨t, [], (grM a e kt t).2.2⟩ (holdP holder)
theorem grC_err {a : Alg} {e : Nat} (kt : Tg) (t holder : List UInt8) (h : e ≠ 0) : (grC a e kt t holder).2.1 = e := by
 unfold grC grM
 rw [mMac_err h]
 unfold condP
 simp only
 rw [if_neg h, mMac_err h]
theorem grantS_C (a : Alg) (c : Co) (t holder : List UInt8) (minute : Int) :
  grantS a c t holder minute = if (grC a (grE a c t holder minute) (openT a c t).1 t holder).2.1 = 0 then ((grC a (grE a c t holder minute) (openT a c t).1 t holder).1, (grC a (grE a c t holder minute) (openT a c t).1 t holder).2.2, 0) else (alg0, di0, (grC a (grE a c t holder minute) (openT a c t).1 t holder).2.1) := by
 have bad : ∀ e : Nat, grE a c t holder minute = e → e ≠ 0 → (alg0, di0, e) = if (grC a (grE a c t holder minute) (openT a c t).1 t holder).2.1 = 0 then ((grC a (grE a c t holder minute) (openT a c t).1 t holder).1, (grC a (grE a c t holder minute) (openT a c t).1 t holder).2.2, 0) else (alg0, di0, (grC a (grE a c t holder minute) (openT a c t).1 t holder).2.1) := fun e h he => by
  rw [h, grC_err _ _ _ he, if_neg he]
 unfold grantS
 cases hn : nameB holder with
 | false =>
  rw [if_pos rfl]
  exact bad 7 (by unfold grE; rw [hn, note_f]; simp only [note_err (show (7 : Nat) ≠ 0 by decide)]) (by decide)
 | true =>
  rw [if_neg (by simp)]
  by_cases hm : minute < 0 ∨ 67108864 < minute
  ·rw [if_pos hm]
   have hb : minB minute = false := by unfold minB; rcases hm with h | h <;> simp <;> omega
   exact bad 1 (by unfold grE; rw [hn, note_t, hb, note_f]; simp only [note_err (show (1 : Nat) ≠ 0 by decide)]) (by decide)
  ·rw [if_neg hm]
   have hb : minB minute = true := by unfold minB; simp; omega
   by_cases ho : (openT a c t).2.2 ≠ 0
   ·rw [if_pos ho]
    have h1 : decide ((openT a c t).2.2 = 0) = false := by simpa using ho
    exact bad _ (by unfold grE; rw [hn, note_t, hb, note_t, h1, note_f]; simp only [note_err ho]) ho
   ·rw [if_neg ho]
    have h1 : decide ((openT a c t).2.2 = 0) = true := by simpa using ho
    cases hf : (findP c.ps holder).2 with
    | false =>
     rw [if_pos rfl]
     exact bad 12 (by unfold grE; rw [hn, note_t, hb, note_t, h1, note_t, hf, note_f]; simp only [note_err (show (12 : Nat) ≠ 0 by decide)]) (by decide)
    | true =>
     rw [if_neg (by simp)]
     by_cases h3 : ageS (findP c.ps holder).1.born minute < (openT a c t).2.1.least
     ·rw [if_pos (.inl h3)]
      have h2 : decide (¬ ageS (findP c.ps holder).1.born minute < (openT a c t).2.1.least) = false := by simpa using h3
      exact bad 25 (by unfold grE; rw [hn, note_t, hb, note_t, h1, note_t, hf, note_t, h2, note_f]; simp only [note_err (show (25 : Nat) ≠ 0 by decide)]) (by decide)
     ·have h2 : decide (¬ ageS (findP c.ps holder).1.born minute < (openT a c t).2.1.least) = true := by simpa using h3
      by_cases h4 : (openT a c t).2.1.most < ageS (findP c.ps holder).1.born minute
      ·rw [if_pos (.inr h4)]
       have h5 : decide (¬ (openT a c t).2.1.most < ageS (findP c.ps holder).1.born minute) = false := by simpa using h4
       exact bad 25 (by unfold grE; rw [hn, note_t, hb, note_t, h1, note_t, hf, note_t, h2, note_t, h5, note_f]) (by decide)
      ·rw [if_neg (by rintro (h | h); · exact h3 h
                      ·exact h4 h)]
       have h5 : decide (¬ (openT a c t).2.1.most < ageS (findP c.ps holder).1.born minute) = true := by simpa using h4
       have he : grE a c t holder minute = 0 := by unfold grE; rw [hn, note_t, hb, note_t, h1, note_t, hf, note_t, h2, note_t, h5, note_t]
       rw [he]
       unfold grC grM
       by_cases hk : (macS a (openT a c t).1 (grantM t)).2.2 = 0
       ·have hM : mMac a 0 (openT a c t).1 (grantM t) = ((macS a (openT a c t).1 (grantM t)).1, 0, (macS a (openT a c t).1 (grantM t)).2.1) := by unfold mMac; rw [if_neg (by simp), if_pos hk]
        rw [if_pos hk, hM, restrS_cond]
        have hr : ∀ x : Tg, resE ⟨t, [], x⟩ (holdP holder) = 0 := fun x => by
         unfold resE
         rw [predB_hold, hn, if_neg (by simp), if_neg (by simp [holdP]), if_neg (by simp)]
        rw [hr]
       ·have hM : mMac a 0 (openT a c t).1 (grantM t) = (a, (macS a (openT a c t).1 (grantM t)).2.2, zeroTag) := by unfold mMac; rw [if_neg (by simp), if_neg hk]
        rw [if_neg hk, hM]
        have h6 : (condP a (macS a (openT a c t).1 (grantM t)).2.2 ⟨t, [], zeroTag⟩ (holdP holder)).2.1 = (macS a (openT a c t).1 (grantM t)).2.2 := by
         unfold condP
         simp only
         rw [if_neg hk, mMac_err hk]
        simp only
        rw [h6, if_neg hk]
end

section
variable [W : W32]
omit W in
theorem note_open (f e : Nat) : (if e = 0 then f else e) = note (decide (f = 0)) f e := by
 unfold note
 by_cases h : f = 0
 ·rw [decide_eq_true h, if_pos rfl, h]
  split
  ·rename_i h2; exact h2.symm
  ·rfl
 ·rw [decide_eq_false h]; rfl
set_option maxHeartbeats 8000000 in
theorem Grant_spec (a : Alg) (m : Nat) (ha : AlgIn a m) (hm : m ≤ 800000) (c : Co) (hc : c.ps.length ≤ 1000000) (hcw : ∀ p ∈ c.ps, (Lit.int .i64 p.born).wf = true) (t : List UInt8) (ht : t.length ≤ 90000) (holder : List UInt8) (hh : holder.length ≤ 100000) (minute : Int) (g h : Nat) (_hgh : g ≠ h) (k : Nat) :
  ACall Tryd.prog 36 [algAV a, concAV c, .slice none (t.map byteAV), strAV holder, .lit (.int .i64 minute)] k [(g, shaG), (h, bitsG)] (mdAV (grantS a c t holder minute)) [] := by
 have hpo : PrOk (holdP holder) := ⟨by simp [holdP], by simp [holdP], by simp only [holdP]; omega⟩
 have cb := Begin_spec a (by have := ha.ml; omega) (by have := ha.bl; omega)
 have cv := predValid_spec (holdP holder) hpo h
 rw [predB_hold] at cv
 have cm := minutes_spec minute
 rw [show (decide (0 ≤ minute) && decide (minute ≤ 67108864)) = minB minute from rfl] at cm
 have co := tOpen_spec a m ha (by omega) c t (by omega) g
 have cf := Find_spec c.party c.key c.ps holder hc
 have hfw : (Lit.int .i64 (findP c.ps holder).1.born).wf = true := by
  unfold findP
  split
  ·rename_i p hp; exact hcw p (List.mem_of_find?_eq_some hp)
  ·decide
 have ca := Age_spec (findP c.ps holder).1.name (findP c.ps holder).1.born minute hfw
 have cM := Message_spec [103, 114, 97, 110, 116] t (by decide) (by omega)
 rw [show [103, 114, 97, 110, 116] ++ t = grantM t from rfl] at cM
 have cx : ∀ e q r1 r2 k, ACall Tryd.prog 75 [.ptr q [] 0, tagAV (openT a c t).1, .slice none ((grantM t).map byteAV)] k (makE a e q r1 r2 ++ [(g, shaG)]) (tagAV (grM a e (openT a c t).1 t).2.2) [(q, makB (grM a e (openT a c t).1 t).1 (grM a e (openT a c t).1 t).2.1 r1 r2), (r1, rowM (grM a e (openT a c t).1 t).1.macs.length)] := fun e q r1 r2 k =>
  mMac_spec a e (openT a c t).1 (grantM t) (by have := ha.ml; omega) ha.mm (fun _ => by simp [grantM]) (by simp [grantM]; omega) q r1 r2 g k
 have hbx : ∀ e, (grM a e (openT a c t).1 t).1.boxes = a.boxes := fun e => mMac_boxes _ _ _ _
 have hbx2 : ∀ e, (grC a e (openT a c t).1 t holder).1.boxes = (grM a e (openT a c t).1 t).1.boxes := fun e => mMac_boxes _ _ _ _
 have cc : ∀ e q r1 r2 k, ACall Tryd.prog 78 [.ptr q [] 0, diAV ⟨t, [], (grM a e (openT a c t).1 t).2.2⟩, prAV (holdP holder)] k (makE (grM a e (openT a c t).1 t).1 (grM a e (openT a c t).1 t).2.1 q r1 r2 ++ [(g, shaG), (h, bitsG)]) (diAV (grC a e (openT a c t).1 t holder).2.2) [(q, makB (grC a e (openT a c t).1 t holder).1 (grC a e (openT a c t).1 t holder).2.1 r1 r2), (r1, rowM (grC a e (openT a c t).1 t holder).1.macs.length)] := fun e q r1 r2 k =>
  dCond_spec (grM a e (openT a c t).1 t).1 (m + 1) (mMac_in ha e _ _) (by omega) (grM a e (openT a c t).1 t).2.1 ⟨t, [], (grM a e (openT a c t).1 t).2.2⟩ (by simp only; omega) (by simp) (holdP holder) hpo q r1 r2 g h k
 rw [grantS_C]
 obtain ⟨E, hE⟩ : ∃ E, grE a c t holder minute = E := ⟨_, rfl⟩
 rw [hE]
 unfold grE at hE
 replace cc := cc E
 replace cx := cx E
 replace hbx := hbx E
 replace hbx2 := hbx2 E
 have hcA : concAV c = .agg [.lit (.int .i64 c.party), tagAV c.key, .slice none (c.ps.map persAV)] := rfl
 rw [show (⟨c.party, c.key, c.ps⟩ : Co) = c from rfl] at cf
 generalize nameB holder = b1 at *
 generalize minB minute = b2 at *
 generalize findP c.ps holder = F at *
 obtain ⟨⟨pn, pb⟩, b3⟩ := F
 generalize grC a E (openT a c t).1 t holder = Z at *
 generalize grM a E (openT a c t).1 t = Y at *
 generalize openT a c t = O at *
 obtain ⟨kt, ⟨x, y⟩, oe⟩ := O
 obtain ⟨a2, e6, t2⟩ := Y
 obtain ⟨a3, e7, d3⟩ := Z
 simp only at *
 generalize ageS pb minute = A at *
 generalize grantM t = gm at *
 obtain ⟨e1, he1⟩ : ∃ e1, note b1 7 0 = e1 := ⟨_, rfl⟩
 rw [he1] at hE
 obtain ⟨e2, he2⟩ : ∃ e2, note b2 1 e1 = e2 := ⟨_, rfl⟩
 rw [he2] at hE
 obtain ⟨e3, he3⟩ : ∃ e3, note (decide (oe = 0)) oe e2 = e3 := ⟨_, rfl⟩
 rw [he3] at hE
 obtain ⟨e4, he4⟩ : ∃ e4, note b3 12 e3 = e4 := ⟨_, rfl⟩
 rw [he4] at hE
 rw [← note_open] at he3
 obtain ⟨v, hv, hvi⟩ : ∃ v, (if e7 = 0 then (a3, d3, 0) else (alg0, di0, e7)) = v ∧ ∀ q r1 r2 k, ACall Tryd.prog 77 [.ptr q [] 0, diAV d3] k (makE a3 e7 q r1 r2) (mdAV v) [] := by
  by_cases h1 : e7 = 0
  ·subst h1
   exact ⟨_, if_pos rfl, fun q r1 r2 k => dDone_ok a3 d3 q r1 r2 k⟩
  ·exact ⟨_, if_neg h1, fun q r1 r2 k => dDone_bad a3 e7 h1 d3 q r1 r2 k⟩
 rw [hv]
 clear hv ha hc hcw hfw hpo
 obtain ⟨av, dv, ev⟩ := v
 unfold mdAV at hvi ⊢
 unfold moAV teAV at co
 simp only at hvi co ⊢
 have hpA : prAV (holdP holder) = .agg [.lit (.int .i64 6), .lit (.int .u64 0), .lit (.int .i64 0), .lit (.int .i64 0), .lit (.string ⟨holder.toArray⟩), .lit (.int .i64 0)] := rfl
 have hnv : strAV holder = .lit (.string ⟨holder.toArray⟩) := rfl
 have hdA : diAV ⟨t, [], t2⟩ = .agg [.slice none (t.map byteAV), .slice none [], tagAV t2] := rfl
 rw [hpA] at cv cc
 rw [hnv] at cf ⊢
 rw [hdA] at cc
 unfold makAV at cb
 unfold makE at cx cc hvi
 simp only [List.cons_append, List.nil_append] at *
 rw [hbx2] at *
 simp only [makB_def, rowM_eq, rowB_eq, hbx] at *
 clear hbx hbx2 hpA hdA hcA
 have e00 : ((0 : Nat) : Int) = 0 := rfl
 rw [e00] at cb
 refine Bd Tryd.func36 Tryd.ntmps36 fun σ N hp hpn hk hkn hfree => ?_
 simp only [List.mem_cons, List.not_mem_nil, or_false, forall_eq_or_imp, forall_eq] at hp hpn; obtain ⟨hd1, hd2⟩ := hp; obtain ⟨hdn1, hdn2⟩ := hpn
 have hcs := And.intro cb True.intro
 refine Wm ?_
 iterate 2 refine Wz ?_
 clear hcs cb
 refine go_cliprowIn (N + 5 + 1) [0, 3] 102 65 (bt := 140) (c := .agg [.agg [.lit (.bool a.free), tagAV a.seed, .lit (.int .i64 a.fresh), .clip (a.macs.map macAV), .clip (a.boxes.map sealAV)], .lit (.int .i64 ((0 : Nat) : Int))]) (xs := a.macs.map macAV) (by simp (disch := omega) [go_sem, *, -List.reduceReplicate]) rfl (all_macs1 _) ?_; refine go_cliprowIn (N + 5 + 1) [0, 4] 105 35 (bt := 140) (c := .agg [.agg [.lit (.bool a.free), tagAV a.seed, .lit (.int .i64 a.fresh), .slice (some (N + 5 + 3)) (a.macs.map macAV), .clip (a.boxes.map sealAV)], .lit (.int .i64 ((0 : Nat) : Int))]) (xs := a.boxes.map sealAV) (by simp (disch := omega) [go_sem, *, -List.reduceReplicate]) rfl (all_boxes1 _) ?_
 have hcs := And.intro cv True.intro
 clear cv
 refine Wk ?_
 clear hcs
 refine go_if [29, 30] [N + 5 + 1] (fun σ' => σ' (N + 5 + 1) = (.box 140 (.agg [.agg [.lit (.bool a.free), tagAV a.seed, .lit (.int .i64 a.fresh), .slice (some (N + 5 + 3)) (a.macs.map macAV), .slice (some (N + 5 + 3 + 1)) (a.boxes.map sealAV)], .lit (.int .i64 (e1 : Int))]))) (fun hs_0 hf_0 => ?_) (fun s0 σ0 m0 hs_1 hf_1 hn0 g7 => ?_)
 ·cases b1 with
  | true =>
   have h1 : 0 = e1 := he1
   subst h1
   refine Wk ?_
   exact ⟨WS, hf_0, WN, WF⟩
  | false =>
   have h1 : (if 0 = 0 then 7 else 0) = e1 := he1
   have cF := Fail_spec a 0 7 (N + 5 + 1) (N + 5 + 3) (N + 5 + 3 + 1)
   rw [h1] at cF
   unfold makE at cF
   simp only [makB_def, rowM_eq, rowB_eq] at cF
   rw [show ((7 : Nat) : Int) = 7 from rfl] at cF
   rw [e00] at cF
   have hcs := And.intro cF True.intro
   clear cF
   refine Wk ?_
   exact ⟨WS, by simp only [wr_cons, wr_nil]; exact EKeep.updL (by simp) hf_0, WN, WF⟩
 have g2_1 := KS hs_1 2
 have g3_1 := KS hs_1 3
 have g4_1 := KS hs_1 4
 have g5_1 := KS hs_1 5
 have g6_1 := KS hs_1 6
 have g10_1 := KS hs_1 10
 have g11_1 := KS hs_1 11
 have g12_1 := KS hs_1 12
 have g13_1 := KS hs_1 13
 have g14_1 := KS hs_1 14
 have q0_1 := KE hf_1 N
 have q1_1 := KE hf_1 (N + 1)
 have q2_1 := KE hf_1 (N + 2)
 have q3_1 := KE hf_1 (N + 3)
 have q8_1 := KE hf_1 (N + 5 + 3)
 have q9_1 := KE hf_1 (N + 5 + 3 + 1)
 have qp_1 := KE hf_1 (N + 10 + 2)
 have qg_1 := KE hf_1 g
 have qh_1 := KE hf_1 h
 have hlow := KL (N := N) (σ := σ) hf_1
 clear hs_1 hf_1
 have hcs := And.intro cm True.intro
 clear cm
 refine Wk ?_
 clear hcs
 refine go_if [34, 35] [N + 5 + 1] (fun σ' => σ' (N + 5 + 1) = (.box 140 (.agg [.agg [.lit (.bool a.free), tagAV a.seed, .lit (.int .i64 a.fresh), .slice (some (N + 5 + 3)) (a.macs.map macAV), .slice (some (N + 5 + 3 + 1)) (a.boxes.map sealAV)], .lit (.int .i64 (e2 : Int))]))) (fun hs_0 hf_0 => ?_) (fun s2 σ2 m2 hs_2 hf_2 hn2 g7_2 => ?_)
 ·cases b2 with
  | true =>
   have h1 : e1 = e2 := he2
   subst h1
   refine Wk ?_
   exact ⟨WS, hf_0, WN, by simp (disch := omega) [go_sem, *, -List.reduceReplicate]⟩
  | false =>
   have h1 : (if e1 = 0 then 1 else e1) = e2 := he2
   have cF := Fail_spec a e1 1 (N + 5 + 1) (N + 5 + 3) (N + 5 + 3 + 1)
   rw [h1] at cF
   unfold makE at cF
   simp only [makB_def, rowM_eq, rowB_eq] at cF
   rw [show ((1 : Nat) : Int) = 1 from rfl] at cF
   have hcs := And.intro cF True.intro
   clear cF
   refine Wk ?_
   exact ⟨WS, by simp only [wr_cons, wr_nil]; exact EKeep.updL (by simp) hf_0, WN, WF⟩
 have g2_2 := KS hs_2 2
 have g3_2 := KS hs_2 3
 have g4_2 := KS hs_2 4
 have g5_2 := KS hs_2 5
 have g6_2 := KS hs_2 6
 have g10_2 := KS hs_2 10
 have g11_2 := KS hs_2 11
 have g12_2 := KS hs_2 12
 have g13_2 := KS hs_2 13
 have g14_2 := KS hs_2 14
 have q0_2 := KE hf_2 N
 have q1_2 := KE hf_2 (N + 1)
 have q2_2 := KE hf_2 (N + 2)
 have q3_2 := KE hf_2 (N + 3)
 have q4_2 := KE hf_2 (N + 5 + 3)
 have q5_2 := KE hf_2 (N + 5 + 3 + 1)
 have q6_2 := KE hf_2 (N + 10 + 2)
 have q7_2 := KE hf_2 g
 have q8_2 := KE hf_2 h
 replace hlow := KL (N := N) (σ := σ) hf_2
 clear hs_2 hf_2
 have cF := Fail_spec a e2 oe (N + 5 + 1) (N + 5 + 3) (N + 5 + 3 + 1)
 rw [he3] at cF
 unfold makE at cF
 simp only [makB_def, rowM_eq, rowB_eq] at cF
 have hcs := And.intro co (And.intro cF (And.intro cf True.intro))
 clear co cF cf
 refine Wk ?_
 clear hcs
 refine go_if [55, 56] [N + 5 + 1] (fun σ' => σ' (N + 5 + 1) = (.box 140 (.agg [.agg [.lit (.bool a.free), tagAV a.seed, .lit (.int .i64 a.fresh), .slice (some (N + 5 + 3)) (a.macs.map macAV), .slice (some (N + 5 + 3 + 1)) (a.boxes.map sealAV)], .lit (.int .i64 (e4 : Int))]))) (fun hs_0 hf_0 => ?_) (fun s3 σ3 m3 hs_3 hf_3 hn3 g7_3 => ?_)
 ·cases b3 with
  | true =>
   have h1 : e3 = e4 := he4
   subst h1
   refine Wk ?_
   exact ⟨WS, hf_0, WN, by simp (disch := omega) [go_sem, *, -List.reduceReplicate]⟩
  | false =>
   have h1 : (if e3 = 0 then 12 else e3) = e4 := he4
   have cF := Fail_spec a e3 12 (N + 5 + 1) (N + 5 + 3) (N + 5 + 3 + 1)
   rw [h1] at cF
   unfold makE at cF
   simp only [makB_def, rowM_eq, rowB_eq] at cF
   rw [show ((12 : Nat) : Int) = 12 from rfl] at cF
   have hcs := And.intro cF True.intro
   clear cF
   refine Wk ?_
   exact ⟨WS, by simp only [wr_cons, wr_nil]; exact EKeep.updL (by simp) hf_0, WN, WF⟩
 have g2_3 := KS hs_3 2
 have g3_3 := KS hs_3 3
 have g4_3 := KS hs_3 4
 have g5_3 := KS hs_3 5
 have g6_3 := KS hs_3 6
 have g10_3 := KS hs_3 10
 have g11_3 := KS hs_3 11
 have g12_3 := KS hs_3 12
 have g13_3 := KS hs_3 13
 have g14_3 := KS hs_3 14
 have g15_3 := KS hs_3 15
 have g16_3 := KS hs_3 16
 have g18_3 := KS hs_3 18
 have q0_3 := KE hf_3 N
 have q1_3 := KE hf_3 (N + 1)
 have q2_3 := KE hf_3 (N + 2)
 have q3_3 := KE hf_3 (N + 3)
 have q4_3 := KE hf_3 (N + 5 + 3)
 have q5_3 := KE hf_3 (N + 5 + 3 + 1)
 have q6_3 := KE hf_3 (N + 10 + 2)
 have q7_3 := KE hf_3 g
 have q8_3 := KE hf_3 h
 have q9_3 := KE hf_3 (m2 + 8)
 have q10_3 := KE hf_3 (m2 + 9)
 have q11_3 := KE hf_3 (m2 + 16 + 6)
 replace hlow := KL (N := N) (σ := σ) hf_3
 clear hs_3 hf_3
 obtain hA | ⟨hA, hB⟩ | ⟨hA, hB⟩ : A < x ∨ (¬ A < x ∧ y < A) ∨ (¬ A < x ∧ ¬ y < A) := by omega
 ·have h1 : (if e4 = 0 then 25 else e4) = E := by
   rw [← hE, decide_eq_false (show ¬ ¬ A < x from fun hn => hn hA)]
   by_cases h4 : e4 = 0
   ·subst h4
    rw [note_f, note_err (by decide)]; rfl
   ·rw [note_err h4, note_err h4, if_neg h4]
  have cF := Fail_spec a e4 25 (N + 5 + 1) (N + 5 + 3) (N + 5 + 3 + 1)
  rw [h1] at cF
  unfold makE at cF
  simp only [makB_def, rowM_eq, rowB_eq] at cF
  rw [show ((25 : Nat) : Int) = 25 from rfl] at cF
  have hcs := And.intro ca (And.intro cF (And.intro cM (And.intro (cx (N + 5 + 1) (N + 5 + 3) (N + 5 + 3 + 1)) (And.intro (cc (N + 5 + 1) (N + 5 + 3) (N + 5 + 3 + 1)) (And.intro (hvi (N + 5 + 1) (N + 5 + 3) (N + 5 + 3 + 1)) True.intro)))))
  clear ca cF cM cx cc hvi
  refine Wk ?_
  exact WD
 ·have h1 : (if e4 = 0 then 25 else e4) = E := by
   rw [← hE, decide_eq_true (show ¬ A < x from hA), note_t, decide_eq_false (show ¬ ¬ y < A from fun hn => hn hB)]; rfl
  have cF := Fail_spec a e4 25 (N + 5 + 1) (N + 5 + 3) (N + 5 + 3 + 1)
  rw [h1] at cF
  unfold makE at cF
  simp only [makB_def, rowM_eq, rowB_eq] at cF
  rw [show ((25 : Nat) : Int) = 25 from rfl] at cF
  have hcs := And.intro ca (And.intro cF (And.intro cM (And.intro (cx (N + 5 + 1) (N + 5 + 3) (N + 5 + 3 + 1)) (And.intro (cc (N + 5 + 1) (N + 5 + 3) (N + 5 + 3 + 1)) (And.intro (hvi (N + 5 + 1) (N + 5 + 3) (N + 5 + 3 + 1)) True.intro)))))
  clear ca cF cM cx cc hvi
  refine Wk ?_
  exact WD
 ·have h1 : e4 = E := by
   rw [← hE, decide_eq_true (show ¬ A < x from hA), note_t, decide_eq_true (show ¬ y < A from hB), note_t]
  subst h1
  have hcs := And.intro ca (And.intro cM (And.intro (cx (N + 5 + 1) (N + 5 + 3) (N + 5 + 3 + 1)) (And.intro (cc (N + 5 + 1) (N + 5 + 3) (N + 5 + 3 + 1)) (And.intro (hvi (N + 5 + 1) (N + 5 + 3) (N + 5 + 3 + 1)) True.intro))))
  clear ca cM cx cc hvi
  refine Wk ?_
  exact WD
end

section
variable [W : W32]
theorem nodeS_ok {a : Alg} {m : Nat} (h : AlgIn a m) (hm : m ≤ 60000) (key : Tg) {msg : List UInt8} (hl : msg.length ≤ 4096) : (macS a key msg).2.2 = 0 ∧ (macS (macS a key msg).1 (macS a key msg).2.1 nodeB).2.2 = 0 ∧ nodeS a key msg = ((macS (macS a key msg).1 (macS a key msg).2.1 nodeB).1, (macS a key msg).2.1, 0) := by
 have h1 : (macS a key msg).2.2 = 0 := macS_ok key hl (by have := h.ml; omega)
 have h2 : (macS (macS a key msg).1 (macS a key msg).2.1 nodeB).2.2 = 0 := macS_ok _ (by decide) (by have := (macS_in h key msg).ml; omega)
 exact ⟨h1, h2, nodeS_3 h1 h2⟩
theorem nodeS_keeps {a : Alg} {m : Nat} (h : AlgIn a m) (hm : m ≤ 60000) (key : Tg) {msg : List UInt8} (hl : msg.length ≤ 4096) : (nodeS a key msg).2.2 = 0 ∧ (nodeS a key msg).1.free = a.free ∧ (nodeS a key msg).1.fresh = a.fresh ∧ (nodeS a key msg).1.boxes = a.boxes := by
 obtain ⟨h1, h2, h3⟩ := nodeS_ok h hm key hl
 obtain ⟨a1, _, a3, a4⟩ := macS_free h1
 obtain ⟨b1, _, b3, b4⟩ := macS_free h2
 rw [h3]
 exact ⟨rfl, b1.trans a1, b3.trans a3, b4.trans a4⟩
theorem AlgOk.node {a : Alg} {m : Nat} (ok : AlgOk a) (h : AlgIn a m) (hm : m ≤ 60000) (key : Tg) {msg : List UInt8} (hl : msg.length ≤ 4096) : AlgOk (nodeS a key msg).1 := by
 obtain ⟨h1, h2, h3⟩ := nodeS_ok h hm key hl
 rw [h3]
 exact (ok.mac key msg).mac _ _
theorem attS_ok {a : Alg} {m : Nat} (h : AlgIn a m) (hm : m ≤ 60000) {p : Pa} {c : Ca} (hc : cavB c = true) (hl : p.cavs.length < 64) (ht : c.third = true → thirdsS p.cavs < 8) :
  attS a p c = ((nodeS a p.tag (cavM c)).1, ⟨p.epoch, p.serial, p.cavs ++ [c], (nodeS a p.tag (cavM c)).2.1⟩, 0) := by
 have h1 := (nodeS_keeps h hm p.tag (msg := cavM c) (by have := cavM_len c; omega)).1
 unfold attS
 rw [if_neg (by rw [hc]; simp), if_neg (by rintro (h | ⟨h, h'⟩); · omega
                                           ·have := ht h; omega), if_pos h1]
theorem restrS_ok {a : Alg} {m : Nat} (h : AlgIn a m) (hm : m ≤ 60000) {d : Di} {p : Pr} (hp : predB p = true) (hk : p.kind ≠ 7) (hl : d.conds.length < 8) :
  (macS a d.tag (condM p)).2.2 = 0 ∧ restrS a d p = ((macS a d.tag (condM p)).1, ⟨d.ticket, d.conds ++ [p], (macS a d.tag (condM p)).2.1⟩, 0) := by
 have h1 : (macS a d.tag (condM p)).2.2 = 0 := macS_ok _ (by have := condM_len p; omega) (by have := h.ml; omega)
 refine ⟨h1, ?_⟩
 unfold restrS
 rw [if_neg (by rw [hp]; simp), if_neg hk, if_neg (by omega), if_pos h1]
theorem blankS_ok {a : Alg} {m : Nat} (h : AlgIn a m) (hm : m ≤ 60000) {c : Co} {t : Te} (ht : teB t = true) (h0 : 0 ≤ c.party) (h7 : c.party ≤ 7) :
  keyS a = ({ a with fresh := a.fresh + 1 }, if a.free then symT 107 (a.fresh + 1) else derT a.seed (a.fresh + 1), 0) ∧ (sealS (keyS a).1 c.key (keyS a).1.fresh (plainT (keyS a).2.1 t)).2.2 = 0 ∧
  blankS a c t = ((sealS (keyS a).1 c.key (keyS a).1.fresh (plainT (keyS a).2.1 t)).1, ⟨c.party, (keyS a).2.1, (sealS (keyS a).1 c.key (keyS a).1.fresh (plainT (keyS a).2.1 t)).2.1⟩, 0) := by
 have hk := keyS_ok (a := a) (by have := h.f1; omega)
 have h2 : (sealS (keyS a).1 c.key (keyS a).1.fresh (plainT (keyS a).2.1 t)).2.2 = 0 := by
  refine sealS_ok _ ?_ ?_ (by have := plainT_len (keyS a).2.1 t ht; omega) ?_
  ·rw [hk]; have := h.f0; simp only; omega
  ·rw [hk]; have := h.f1; simp only; omega
  ·rw [hk]; have := h.bl; simp only; omega
 refine ⟨hk, h2, ?_⟩
 unfold blankS
 rw [if_neg (by rintro (h | h | h); · rw [ht] at h; cases h
                ·omega
                ·omega), if_pos (by rw [hk]), if_pos h2]
theorem sealS_box {a : Alg} (ok : AlgOk a) {key : Tg} {nonce : Int} {plain : List UInt8} (h : (sealS a key nonce plain).2.2 = 0) : (sealS a key nonce plain).2.1.length = plain.length + 40 := by
 unfold sealS at h ⊢
 split at h
 ·cases h
 ·rename_i h1
  split at h
  ·cases h
  ·rename_i h2
   rw [if_neg h1, if_neg h2]
   split at h
   ·rename_i b hb
    obtain ⟨e, he, k1, k2, k3, k4⟩ := boxL_mem hb
    simp only
    rw [← k4, ← k3]
    cases hfr : a.free with
    | true =>
     obtain ⟨i, hi, rfl⟩ := List.getElem_of_mem he
     rw [ok.bf hfr i hi, List.length_append, List.length_replicate, (symT _ _).2]; omega
    | false => rw [ok.bn hfr e he, sealB_len]
   ·split at h
    ·cases h
    ·rename_i h3
     rw [if_neg h3]
     simp only
     unfold sealN
     split
     ·rw [List.length_append, List.length_replicate, (symT _ _).2]; omega
     ·rw [sealB_len]
end

section
variable [W : W32]
theorem macS_sub {a : Alg} {key : Tg} {msg : List UInt8} (h : (macS a key msg).2.2 = 0) : ∀ e ∈ a.macs, e ∈ (macS a key msg).1.macs := fun e he => by
 by_cases h1 : 4096 < msg.length
 ·rw [macS_long h1] at h; cases h
 ·cases hE : entL key msg a.macs with
  | some t => rw [macS_found h1 hE]; exact he
  | none =>
   by_cases hf : 65536 ≤ a.macs.length
   ·rw [macS_full h1 hE hf] at h; cases h
   ·rw [macS_new h1 hE hf]; exact List.mem_append_left _ he
theorem macS_mem {a : Alg} {key : Tg} {msg : List UInt8} (h : (macS a key msg).2.2 = 0) : (⟨key, msg, (macS a key msg).2.1⟩ : MacE) ∈ (macS a key msg).1.macs := by
 by_cases h1 : 4096 < msg.length
 ·rw [macS_long h1] at h; cases h
 ·cases hE : entL key msg a.macs with
  | some t =>
   rw [macS_found h1 hE]
   obtain ⟨⟨x, y, z⟩, he, h2, h3, h4⟩ := entL_mem hE
   simp only at h2 h3 h4
   subst h2 h3 h4
   exact he
  | none =>
   by_cases hf : 65536 ≤ a.macs.length
   ·rw [macS_full h1 hE hf] at h; cases h
   ·rw [macS_new h1 hE hf]; exact List.mem_append_right _ (List.mem_singleton.2 rfl)
omit W in
def nodeIn (M : List MacE) (k : Tg) (m : List UInt8) (t : Tg) : Prop := (⟨k, m, t⟩ : MacE) ∈ M ∧ ∃ id, (⟨t, nodeB, id⟩ : MacE) ∈ M
omit W in
def pathIn (M : List MacE) : Tg → List (List UInt8) → Tg → Prop
 | k, [], t => k = t
 | k, m :: r, t => ∃ t', nodeIn M k m t' ∧ pathIn M t' r t
omit W in
theorem nodeIn.sub {M M' : List MacE} (hs : ∀ e ∈ M, e ∈ M') {k : Tg} {m : List UInt8} {t : Tg} (h : nodeIn M k m t) : nodeIn M' k m t := by
 obtain ⟨h1, id, h2⟩ := h
 exact ⟨hs _ h1, id, hs _ h2⟩
omit W in
theorem pathIn.sub {M M' : List MacE} (hs : ∀ e ∈ M, e ∈ M') : ∀ {L : List (List UInt8)} {k t : Tg}, pathIn M k L t → pathIn M' k L t
 | [], _, _, h => h
 | _ :: _, _, _, h => by
  obtain ⟨t', h1, h2⟩ := h
  exact ⟨t', h1.sub hs, h2.sub hs⟩
omit W in
theorem pathIn.snoc {M : List MacE} {m : List UInt8} {t t0 : Tg} (hn : nodeIn M t0 m t) : ∀ {L : List (List UInt8)} {k : Tg}, pathIn M k L t0 → pathIn M k (L ++ [m]) t
 | [], k, h => by
  have h : k = t0 := h
  subst h
  exact ⟨t, hn, rfl⟩
 | _ :: _, _, h => by
  obtain ⟨t', h1, h2⟩ := h
  exact ⟨t', h1, h2.snoc hn⟩
theorem nodeS_mem {a : Alg} {m : Nat} (h : AlgIn a m) (hm : m ≤ 60000) (key : Tg) {msg : List UInt8} (hl : msg.length ≤ 4096) :
  nodeIn (nodeS a key msg).1.macs key msg (nodeS a key msg).2.1 ∧ ∀ e ∈ a.macs, e ∈ (nodeS a key msg).1.macs := by
 obtain ⟨h1, h2, h3⟩ := nodeS_ok h hm key hl
 rw [h3]
 exact ⟨⟨macS_sub h2 _ (macS_mem h1), _, macS_mem h2⟩, fun e he => macS_sub h2 e (macS_sub h1 e he)⟩
theorem look_in {a : Alg} (ok : AlgOk a) {e : MacE} (he : e ∈ a.macs) : lookO a e.key e.msg = some e.tag := by
 unfold lookO
 cases hf : a.free with
 | true => rw [if_pos rfl]; exact ok.mu e he
 | false =>
  have := ok.ml e he
  rw [if_neg (by simp), if_neg (by omega), ok.mn hf e he]
end

structure Ss where
 A : Alg
 p : Pa
 gs : List Di
section
variable [W : W32]
structure DiV (g : Di) : Prop where
 t1 : 1 ≤ g.ticket.length
 t2 : g.ticket.length ≤ 200
 cl : g.conds.length ≤ 3
 cv : ∀ p ∈ g.conds, predB p = true ∧ PrOk p ∧ p.kind ≠ 7
def hidB (m : List UInt8) : Bool := m.head? == some 109 || m.head? == some 99 || m.head? == some 103
def hidT (L : List MacE) (t : Tg) : Prop := ∃ e ∈ L, e.tag = t ∧ hidB e.msg = true
omit W in
theorem hidT.sub {L L' : List MacE} {t : Tg} (h : hidT L t) (hs : ∀ e ∈ L, e ∈ L') : hidT L' t := by
 obtain ⟨e, he, h1, h2⟩ := h
 exact ⟨e, hs e he, h1, h2⟩
structure Good (con : Co) (se : Int) (S : Ss) (n m : Nat) : Prop where
 ain : AlgIn S.A m
 ok : AlgOk S.A
 ep : S.p.epoch = 2
 es : S.p.serial = se
 cl : S.p.cavs.length ≤ n
 cv : ∀ c ∈ S.p.cavs, cavB c = true ∧ PrOk c.first ∧ c.ticket.length ≤ 200 ∧ c.box.length ≤ 200
 th : thirdsS S.p.cavs ≤ n
 gl : S.gs.length ≤ n
 gv : ∀ g ∈ S.gs, DiV g
 nf : ∀ e ∈ S.A.boxes, e.nonce ≤ S.A.fresh
 gb : ∀ g ∈ S.gs, ∃ e ∈ S.A.boxes, e.box = g.ticket ∧ 1 ≤ e.nonce
 gd : ∀ i j (hi : i < S.gs.length) (hj : j < S.gs.length), (S.gs[i]).ticket = (S.gs[j]).ticket → i = j
 pt : hidT S.A.macs S.p.tag
 gt : ∀ g ∈ S.gs, hidT S.A.macs g.tag
omit W in
theorem readT_plain {k : Tg} {t : Te} (ht : teB t = true) : readT (plainT k t) = (k, t, 0) := by
 obtain ⟨h1, h2, h3⟩ := teB_iff.1 ht
 obtain ⟨x, y⟩ := t
 simp only at h1 h2 h3
 obtain ⟨x, rfl⟩ := Int.eq_ofNat_of_zero_le h1
 obtain ⟨y, rfl⟩ := Int.eq_ofNat_of_zero_le (show 0 ≤ y by omega)
 have hp : plainT k ⟨(x : Nat), (y : Nat)⟩ = k.1 ++ (leb x ++ leb y) := rfl
 rw [hp]
 have hkl := k.2
 have hlen : (k.1 ++ (leb x ++ leb y)).length = 32 + ((leb x).length + (leb y).length) := by simp [hkl]
 have hu : 0 + 32 ≤ (k.1 ++ (leb x ++ leb y)).length := by omega
 have ht1 : tagR (k.1 ++ (leb x ++ leb y)) 0 = (k, 32, 0) := by
  rw [tagR_ok hu]
  refine Prod.ext (Subtype.ext ?_) rfl
  simp only [List.drop_zero]
  exact List.take_left' hkl
 have hd : (k.1 ++ (leb x ++ leb y)).drop 32 = leb x ++ leb y := List.drop_left' hkl
 have hn1 := numR_at (b := k.1 ++ (leb x ++ leb y)) (u := 32) (n := x) (t := leb y) hd (by omega)
 have hd2 : (k.1 ++ (leb x ++ leb y)).drop (32 + (leb x).length) = leb y ++ [] := by
  rw [← List.drop_drop, hd, List.drop_left, List.append_nil]
 have hn2 := numR_at (b := k.1 ++ (leb x ++ leb y)) (u := 32 + (leb x).length) (n := y) (t := []) hd2 (by omega)
 unfold readT
 rw [ht1, hn1]
 simp only [hn2]
 rw [if_neg (by simp), if_neg (by simp), if_neg (by simp), if_neg (by rw [hlen, ht]; simp; omega)]
end

theorem refNew_spec (fr : Bool) (sd : Tg) (k : Nat) :
  ACall Tryd.prog 37 [.lit (.bool fr), tagAV sd] k [] (algAV ⟨fr, sd, 0, [], []⟩) [] := by
 simp only [algAV, List.map_nil]
 refine Bd Tryd.func37 Tryd.ntmps37 fun σ N hp hpn hk hkn hfree => ?_
 exact WA
section
variable [W : W32]
def algStep (l : List Int) (i : Nat) (a : Alg) : Alg × Nat :=
 if (nextD l i 3).1 = 0 then ((keyS a).1, (nextD l i 3).2)
 else if (nextD l i 3).1 = 1 then ((macS a (knownD l (nextD l i 3).2 a).1 (bytesD l (knownD l (nextD l i 3).2 a).2 6).1).1, (bytesD l (knownD l (nextD l i 3).2 a).2 6).2)
 else ((sealS a (knownD l (nextD l i 3).2 a).1 (nextD l (knownD l (nextD l i 3).2 a).2 4).1 (bytesD l (nextD l (knownD l (nextD l i 3).2 a).2 4).2 40).1).1, (bytesD l (nextD l (knownD l (nextD l i 3).2 a).2 4).2 40).2)
theorem algStep_in {l : List Int} {i m : Nat} {a : Alg} (h : AlgIn a m) : AlgIn (algStep l i a).1 (m + 1) := by
 unfold algStep
 split
 ·exact keyS_in h
 ·split
  ·exact macS_in h _ _
  ·exact sealS_in h _ _ _
theorem algStep_dk {l : List Int} {i : Nat} {a : Alg} (h : Dk l i) : Dk l (algStep l i a).2 := by
 have h1 := nextD_dk 3 h
 unfold algStep
 split
 ·exact h1
 ·split
  ·exact bytesD_dk _ (knownD_dk a h1)
  ·exact bytesD_dk _ (nextD_dk _ (knownD_dk a h1))
def algK (l : List Int) : Nat → Nat → Alg → Alg × Nat
 | 0, i, a => (a, i)
 | f + 1, i, a => algK l f (algStep l i a).2 (algStep l i a).1
theorem algK_in {l : List Int} : ∀ f i m a, AlgIn a m → AlgIn (algK l f i a).1 (m + f)
 | 0, _, _, _, h => h
 | f + 1, i, m, a, h => by
  have := algK_in (l := l) f (algStep l i a).2 (m + 1) _ (algStep_in (l := l) (i := i) h)
  rw [show m + 1 + f = m + (f + 1) by omega] at this
  exact this
theorem algK_dk {l : List Int} : ∀ f i a, Dk l i → Dk l (algK l f i a).2
 | 0, _, _, h => h
 | f + 1, _i, _a, h => algK_dk f _ _ (algStep_dk h)
def algD (l : List Int) (i : Nat) : Alg × Nat :=
 algK l (nextD l (tagD l (nextD l i 2).2).2 5).1 (nextD l (tagD l (nextD l i 2).2).2 5).2 ⟨decide ((nextD l i 2).1 = 0), (tagD l (nextD l i 2).2).1, 0, [], []⟩
theorem algD_dk {l : List Int} {i : Nat} (h : Dk l i) : Dk l (algD l i).2 := algK_dk _ _ _ (nextD_dk _ (tagD_dk (nextD_dk _ h)))
theorem algD_in (l : List Int) (i : Nat) : AlgIn (algD l i).1 5 := by
 have h := algK_in (l := l) (nextD l (tagD l (nextD l i 2).2).2 5).1 (nextD l (tagD l (nextD l i 2).2).2 5).2 0 ⟨decide ((nextD l i 2).1 = 0), (tagD l (nextD l i 2).2).1, 0, [], []⟩ ⟨by simp, by simp, by simp, by simp, fun e he => by simp at he, fun e he => by simp at he⟩
 have h2 := nextD_lt l (tagD l (nextD l i 2).2).2 5 (by omega)
 exact h.more (by omega)
set_option maxHeartbeats 4000000 in
theorem Algebra_spec (l : List Int) (i : Nat) (h : Dk l i) (d k : Nat) :
  ACall Tryd.prog 10 [.ptr d [] 0] k [(d, deckBox l i)] (algAV (algD l i).1) [(d, deckBox l (algD l i).2)] := by
 unfold algD
 have c1 := Next_spec l i 2 h (by omega) (by omega)
 have d1 := nextD_dk 2 h
 have b1 := nextD_lt l i 2 (by omega)
 generalize nextD l i 2 = X at *
 obtain ⟨q, j1⟩ := X
 simp only at c1 d1 b1 ⊢
 have c2 := Tag_spec l j1 d1
 have d2 := tagD_dk d1
 generalize tagD l j1 = X at *
 obtain ⟨sd, j2⟩ := X
 simp only at c2 d2 ⊢
 have c4 := Next_spec l j2 5 d2 (by omega) (by omega)
 have d4 := nextD_dk 5 d2
 have b4 := nextD_lt l j2 5 (by omega)
 generalize nextD l j2 5 = X at *
 obtain ⟨K, j4⟩ := X
 simp only at c4 d4 b4 ⊢
 have hK : K ≤ 4 := by omega
 obtain ⟨fr, hfr⟩ : ∃ fr, decide (q = 0) = fr := ⟨_, rfl⟩
 have hfr2 : decide ((q : Int) = 0) = fr := by rw [← hfr]; congr 1; exact propext (by omega)
 have hfr3 : ((q : Int) == 0) = fr := by rw [← hfr2]; rfl
 have c3 := refNew_spec fr sd
 rw [hfr]
 generalize hA0 : (⟨fr, sd, 0, [], []⟩ : Alg) = A0 at *
 have hin : AlgIn A0 4 := by rw [← hA0]; exact ⟨by simp, by simp, by simp, by simp, fun e he => by simp at he, fun e he => by simp at he⟩
 have hin3 : AlgIn A0 (8 - K) := hin.more (by omega)
 obtain ⟨R, hR⟩ : ∃ R, algK l K j4 A0 = R := ⟨_, rfl⟩
 rw [hR]
 obtain ⟨R1, R2⟩ := R
 simp only
 refine Bd Tryd.func10 Tryd.ntmps10 fun σ N hp hpn hk hkn hfree => ?_
 obtain ⟨hd, hdn⟩ := HD0 hp hpn; clear hp hpn
 have hcs := And.intro (c1 d) (And.intro (c2 d) (And.intro c3 (And.intro (c4 d) True.intro)))
 clear c1 c2 c3 c4 d1 d2 h hfr hA0 b1 b4
 refine Wk ?_
 clear hcs
 have hn7 : ¬ N + 1 + 6 = d := by omega
 have hn8 : ¬ d = N + 1 + 6 := by omega
 refine go_loopF mixed (by kernel_rfl) [4, 13, 14, 15, 16, 17, 18, 19, 20, 21, 22, 23, 24, 25, 26, 27, 28, 29, 30, 31, 32, 33, 34, 35, 36, 37, 38, 39, 40, 41, 42, 43, 44, 45, 46, 47, 48, 49, 50, 51, 52, 53, 54] [d, N+7] (fun m_ s_ σ_ n_ => ∃ (f : Nat) (j' : Nat) (A : Alg), m_ = f ∧ s_ 4 = .lit (.int .i64 f) ∧ σ_ (d) = deckBox l j' ∧ σ_ (N+7) = .box 30 (algAV A) ∧ (f ≤ 4) ∧ (Dk l j') ∧ (AlgIn A (8 - f)) ∧ (algK l f j' A = (R1, R2))) ⟨_, K, j4, A0, rfl, WF, WF, WF, WC, WC, WC, WC⟩ ?_
 intro m_1 s_1 σ_1 n_1 hs_1 hf_1 hn_1 hI_1
 obtain ⟨f, j', A, hm_1, h1_4, e1_0, e1_1, hfl, hdj, hai, hacc⟩ := hI_1
 have h1_0 := KS hs_1 0
 have h1_2 := KS hs_1 2
 have h1_3 := KS hs_1 3
 have k1_0 := KE hf_1 (N)
 have hlow := KD (N := N) (d := d) (σ := σ) hf_1
 cases f with
 | zero =>
  simp only [algK, Prod.mk.injEq] at hacc
  obtain ⟨rfl, rfl⟩ := hacc
  refine Wk ?_
  exact RW (d) (deckBox l j')
 | succ f =>
  have hin2 := algStep_in (l := l) (i := j') hai
  have hdk2 := algStep_dk (a := A) hdj
  rw [show 8 - (f + 1) + 1 = 8 - f by omega] at hin2
  rw [algK] at hacc
  have c1 := Next_spec l j' 3 hdj (by omega) (by omega)
  have d1 := nextD_dk 3 hdj
  have b1 := nextD_lt l j' 3 (by omega)
  obtain ⟨St, hSt⟩ : ∃ St, algStep l j' A = St := ⟨_, rfl⟩
  rw [hSt] at hin2 hdk2 hacc
  unfold algStep at hSt
  generalize nextD l j' 3 = X at *
  obtain ⟨p, j5⟩ := X
  simp only at c1 d1 b1 hSt
  by_cases p0 : p = 0
  ·subst p0
   rw [if_pos rfl] at hSt
   have c2 := Key_spec A hai.f0
   generalize keyS A = X at *
   obtain ⟨A', t, e⟩ := X
   subst hSt
   unfold mkAV at c2
   simp only at c2 hin2 hdk2 hacc
   have hcs := And.intro (c1 d) (And.intro c2 True.intro)
   clear c1 c2 hai hdj d1 b1
   refine Wk ?_
   exact ⟨WS, WG, WN, _, (show (f) < m_1 by omega), f, j5, A', rfl, WF, WF, WF, WC, WC, WC, WC⟩
  ·rw [if_neg p0] at hSt
   have c2 := Known_spec l j5 d1 A _ hai (by omega)
   have d2 := knownD_dk A d1
   generalize knownD l j5 A = X at *
   obtain ⟨ky, j6⟩ := X
   simp only at c2 d2 hSt
   by_cases p1 : p = 1
   ·subst p1
    rw [if_pos rfl] at hSt
    have c3 := Bytes_spec l j6 6 d2 (by omega)
    have b3 := bytesD_len l j6 6
    generalize bytesD l j6 6 = X at *
    obtain ⟨bb, j7⟩ := X
    simp only at c3 b3 hSt
    have c4 := Mac_spec A ky bb (by have := hai.ml; omega) hai.mm
    generalize macS A ky bb = X at *
    obtain ⟨A', t, e⟩ := X
    subst hSt
    unfold mkAV at c4
    simp only at c4 hin2 hdk2 hacc
    have hcs := And.intro (c1 d) (And.intro (c2 d) (And.intro (c3 d) (And.intro c4 True.intro)))
    clear c1 c2 c3 c4 hai hdj d1 b1 d2
    refine Wk ?_
    exact ⟨WS, WG, WN, _, (show (f) < m_1 by omega), f, j7, A', rfl, WF, WF, WF, WC, WC, WC, WC⟩
   ·rw [if_neg p1] at hSt
    obtain rfl : p = 2 := by omega
    have c3 := Next_spec l j6 4 d2 (by omega) (by omega)
    have d3 := nextD_dk 4 d2
    generalize nextD l j6 4 = X at *
    obtain ⟨nn, j7⟩ := X
    simp only at c3 d3 hSt
    have c4 := Bytes_spec l j7 40 d3 (by omega)
    have b4 := bytesD_len l j7 40
    generalize bytesD l j7 40 = X at *
    obtain ⟨bb, j8⟩ := X
    simp only at c4 b4 hSt
    have c5 := Seal_spec A ky nn bb (by have := hai.bl; omega) hai.bm
    generalize sealS A ky nn bb = X at *
    obtain ⟨A', t, e⟩ := X
    subst hSt
    unfold skAV at c5
    simp only at c5 hin2 hdk2 hacc
    have hcs := And.intro (c1 d) (And.intro (c2 d) (And.intro (c3 d) (And.intro (c4 d) (And.intro c5 True.intro))))
    clear c1 c2 c3 c4 c5 hai hdj d1 b1 d2 d3
    refine Wk ?_
    exact ⟨WS, WG, WN, _, (show (f) < m_1 by omega), f, j8, A', rfl, WF, WF, WF, WC, WC, WC, WC⟩
end

section
variable [W : W32]
theorem algStep_ok {l : List Int} {i : Nat} {a : Alg} (h : AlgOk a) : AlgOk (algStep l i a).1 := by
 unfold algStep
 split
 ·exact h.key
 ·split
  ·exact h.mac _ _
  ·exact h.sealed _ _ _
theorem algK_ok {l : List Int} : ∀ f i a, AlgOk a → AlgOk (algK l f i a).1
 | 0, _, _, h => h
 | f + 1, _, _, h => algK_ok f _ _ (algStep_ok h)
theorem algD_ok (l : List Int) (i : Nat) : AlgOk (algD l i).1 := algK_ok _ _ _ (.nil _ _ _)
theorem open_other {a : Alg} (ok : AlgOk a) (hl : a.boxes.length ≤ 1000000) (hf : a.free = true) {key other : Tg} {b p : List UInt8} (h : openS a key b = (p, 0)) (hne : other ≠ key) : openS a other b = ([], 14) := by
 unfold openS at h ⊢
 rw [if_pos hf] at h ⊢
 cases ho : openL other b a.boxes with
 | none => rfl
 | some q =>
  exfalso
  cases hk : openL key b a.boxes with
  | none => rw [hk] at h; simp at h
  | some q2 =>
   obtain ⟨e, he, k1, k2, _⟩ := openL_some ho
   obtain ⟨e', he', k1', k2', _⟩ := openL_some hk
   obtain ⟨i, hi, rfl⟩ := List.getElem_of_mem he
   obtain ⟨j, hj, rfl⟩ := List.getElem_of_mem he'
   have h3 := k2.trans k2'.symm
   rw [ok.bf hf i hi, ok.bf hf j hj] at h3
   have h4 := symApp_inj (by omega) (by omega) (by omega) (by omega) h3
   obtain rfl : i = j := by omega
   exact hne (k1.symm.trans k1')
theorem back_ok {a : Alg} {m : Nat} (hin : AlgIn a m) (hm : m ≤ 1000) (ok : AlgOk a) {c : Co} {t : Te} (ht : teB t = true) (h0 : 0 ≤ c.party) (h7 : c.party ≤ 7) :
  ∃ (b : Alg) (kt : Tg) (tk : List UInt8), blankS a c t = (b, ⟨c.party, kt, tk⟩, 0) ∧ AlgIn b (m + 2) ∧ AlgOk b ∧ 1 ≤ tk.length ∧ tk.length ≤ 90 ∧ openT b c tk = (kt, t, 0) ∧
   ∀ c' : Co, a.free = true → c'.key ≠ c.key → openT b c' tk = (zeroTag, te0, 14) := by
 obtain ⟨hk, hb2, hB⟩ := blankS_ok hin (by omega) (c := c) (t := t) ht h0 h7
 have okk := ok.key
 have ok1 := okk.sealed c.key (keyS a).1.fresh (plainT (keyS a).2.1 t)
 have ink := keyS_in hin
 have in1 := sealS_in ink c.key (keyS a).1.fresh (plainT (keyS a).2.1 t)
 have hpl := plainT_len (keyS a).2.1 t ht
 have htl := sealS_box okk hb2
 have hop := open_seal okk (by have := ink.bl; omega) hb2
 have hfr := (sealS_free hb2).1
 have hfk : (keyS a).1.free = a.free := by rw [hk]
 rw [hfk] at hfr
 clear hk
 have hrd : readT (plainT (keyS a).2.1 t) = ((keyS a).2.1, t, 0) := readT_plain ht
 generalize (keyS a).2.1 = kt at *
 generalize plainT kt t = pl at *
 generalize sealS (keyS a).1 c.key (keyS a).1.fresh pl = X at *
 obtain ⟨a1, tk, e1⟩ := X
 simp only at *
 refine ⟨a1, kt, tk, hB, in1.more (by omega), ok1, by omega, by omega, ?_, fun c' hf hne => ?_⟩
 ·unfold openT; rw [hop]; simp only; rw [if_neg (by simp)]; exact hrd
 ·have h14 := open_other ok1 (by have := in1.bl; omega) (hfr.trans hf) hop hne
  unfold openT; rw [h14]; simp
theorem granted {b : Alg} {m : Nat} (hin : AlgIn b m) (hm : m ≤ 1000) {c : Co} {kt : Tg} {t : Te} {tk : List UInt8} (htl : tk.length ≤ 90) (ho : openT b c tk = (kt, t, 0)) {nm : List UInt8} (hnm : nameB nm = true) {p : Pe} (hf : findP c.ps nm = (p, true)) {n : Int} (h0 : 0 ≤ n) (h1 : n ≤ 67108864) :
  (grantS b c tk nm n).2.2 = if ageS p.born n < t.least ∨ t.most < ageS p.born n then 25 else 0 := by
 unfold grantS
 rw [if_neg (by rw [hnm]; simp), if_neg (by omega), ho]
 simp only
 rw [if_neg (by simp), hf]
 simp only
 rw [if_neg (by simp)]
 split
 ·rfl
 ·have hm1 : (macS b kt (grantM tk)).2.2 = 0 := macS_ok _ (by simp [grantM]; omega) (by have := hin.ml; omega)
  have in5 := macS_in hin kt (grantM tk)
  rw [if_pos hm1]
  have hpv : predB (holdP nm) = true := by unfold predB holdP; simp [hnm]
  obtain ⟨r1, r2⟩ := restrS_ok in5 (by omega) (d := ⟨tk, [], (macS b kt (grantM tk)).2.1⟩) hpv (by simp [holdP]) (by simp)
  rw [r2]
theorem unknown {b : Alg} {c : Co} {kt : Tg} {t : Te} {tk : List UInt8} (ho : openT b c tk = (kt, t, 0)) {nm : List UInt8} (hnm : nameB nm = true) {p : Pe} (hf : findP c.ps nm = (p, false)) {n : Int} (h0 : 0 ≤ n) (h1 : n ≤ 67108864) : (grantS b c tk nm n).2.2 = 12 := by
 unfold grantS
 rw [if_neg (by rw [hnm]; simp), if_neg (by omega), ho]
 simp only
 rw [if_neg (by simp), hf]
 simp only
 rw [if_pos trivial]
end

theorem awake15d_spec (k : Nat) : ACall Tryd.prog 35 [] k [] (.lit (.bool true)) [] := by
 have c1 := Age_spec [97] 0 525600 (by decide)
 have c2 := Age_spec [97] 0 525599 (by decide)
 rw [show ageS 0 525600 = 1 by decide +kernel] at c1
 rw [show ageS 0 525599 = 0 by decide +kernel] at c2
 refine Bd Tryd.func35 Tryd.ntmps35 fun σ N hp hpn hk hkn hfree => ?_
 have hcs := And.intro c1 (And.intro c2 True.intro)
 clear c1 c2
 exact W0
theorem ageS_years {b n : Int} (h0 : 0 ≤ n) (h1 : n < 5000000) (h2 : -63072000 < b) (h3 : b ≤ 0) : ageS b n = (n - b) / 525600 := by
 have h4 : (n - b) / 525600 < 150 := by omega
 unfold ageS
 rw [if_neg (by unfold ageBad; omega), if_pos h4]
theorem born_wfT {b : Int} (h1 : -80000000 ≤ b) (h2 : b ≤ 80000000) : (Lit.int .i64 b).wf = true := by
 have e1 : IntKind.i64.min = -9223372036854775808 := by decide
 have e2 : IntKind.i64.max = 9223372036854775807 := by decide
 simp only [Lit.wf, Bool.and_eq_true, decide_eq_true_iff, e1, e2]; omega
def annT : List UInt8 := [97, 110, 110]
def bobT : List UInt8 := [98, 111, 98]
section
variable [W : W32]
set_option maxHeartbeats 16000000 in
theorem DischargeTerms_core (xs : List Int) (hx : xs.length ≤ 9223372036854775807) (lo mo : Nat) (hlo : lo < 256) (hmo : mo < 256) (born minute : Int) (g h : Nat) (hgh : g ≠ h) (k : Nat) :
  ACall Tryd.prog 8 [.slice none (xs.map intAV), .lit (.int .u8 lo), .lit (.int .u8 mo), .lit (.int .i64 born), .lit (.int .i64 minute)] k [(g, shaG), (h, bitsG)] (.lit (.bool true)) [] := by
 have c1 := New_spec xs
 have hx0 : Dk xs 0 := ⟨hx, Nat.zero_le _⟩
 have c2 := Algebra_spec xs 0 hx0
 have hA := algD_in xs 0
 have hAo := algD_ok xs 0
 have hj0 := algD_dk (l := xs) (i := 0) hx0
 generalize algD xs 0 = X at *
 obtain ⟨A, j0⟩ := X
 simp only at *
 have c3 := Tag_spec xs j0 hj0
 generalize tagD xs j0 = TD at *
 obtain ⟨T, j1⟩ := TD
 simp only at c3
 have w1 := Within_spec born 63072000 (by omega) (by omega)
 have w2 := Within_spec minute 5000000 (by omega) (by omega)
 have hb0 := Int.emod_nonneg born (show (63072000 : Int) ≠ 0 by omega)
 have hb1 := Int.emod_lt_of_pos born (show (0 : Int) < 63072000 by omega)
 have hn0 := Int.emod_nonneg minute (show (5000000 : Int) ≠ 0 by omega)
 have hn1 := Int.emod_lt_of_pos minute (show (0 : Int) < 5000000 by omega)
 generalize born % 63072000 = bb at *
 generalize minute % 5000000 = nn at *
 have hl8 : (lo : Int).tmod 150 = (lo : Int) % 150 := Int.tmod_eq_emod_of_nonneg (by omega)
 have hm8 : (mo : Int).tmod 151 = (mo : Int) % 151 := Int.tmod_eq_emod_of_nonneg (by omega)
 have hwl : IntKind.i64.wrap (lo : Int) = lo := wrap_i64 (by omega) (by omega)
 have hwm : IntKind.i64.wrap (mo : Int) = mo := wrap_i64 (by omega) (by omega)
 have hwb : IntKind.i64.wrap (-bb) = -bb := wrap_i64 (by omega) (by omega)
 have hws : IntKind.i64.wrap (nn - -bb) = nn - -bb := wrap_i64 (by omega) (by omega)
 have hl1 : 0 ≤ (lo : Int) % 150 ∧ (lo : Int) % 150 < 150 := by omega
 have hm1 : 0 ≤ (mo : Int) % 151 ∧ (mo : Int) % 151 < 151 := by omega
 generalize (lo : Int) % 150 = LO at *
 generalize (mo : Int) % 151 = MO at *
 obtain ⟨L, M, hsw, hns, hL0, hLM, hM1⟩ : ∃ L M : Int, (MO < LO → L = MO ∧ M = LO) ∧ (¬ MO < LO → L = LO ∧ M = MO) ∧ 0 ≤ L ∧ L ≤ M ∧ M ≤ 150 := by
  by_cases hs : MO < LO
  ·exact ⟨MO, LO, fun _ => ⟨rfl, rfl⟩, fun h => absurd hs h, by omega, by omega, by omega⟩
  ·exact ⟨LO, MO, fun h => absurd h hs, fun _ => ⟨rfl, rfl⟩, by omega, by omega, by omega⟩
 obtain ⟨CN, hCN⟩ : ∃ CN : Co, CN = ⟨0, T, [⟨annT, -bb⟩]⟩ := ⟨_, rfl⟩
 have hte : teB ⟨L, M⟩ = true := teB_iff.2 ⟨hL0, hLM, hM1⟩
 obtain ⟨B, kt, tk, f1, f2, _, f4, f5, f6, _⟩ := back_ok hA (by decide) hAo (c := CN) hte (by rw [hCN]; exact Int.le_refl _) (by rw [hCN]; show (0 : Int) ≤ 7; omega)
 have c4 := refBlank_spec A 5 hA (by decide) CN ⟨L, M⟩
 rw [f1] at c4
 have hcw : ∀ p ∈ CN.ps, (Lit.int .i64 p.born).wf = true := fun p hp => by
  rw [hCN] at hp
  simp only [List.mem_singleton] at hp
  rw [hp]
  exact born_wfT (by simp only; omega) (by simp only; omega)
 have hcl : CN.ps.length ≤ 1000000 := by rw [hCN]; simp
 have c5 := Grant_spec B 7 f2 (by decide) CN hcl hcw tk (by omega) annT (by decide) nn g h hgh
 have c6 := Grant_spec B 7 f2 (by decide) CN hcl hcw tk (by omega) bobT (by decide) nn g h hgh
 have r1 := granted f2 (by decide) f5 f6 (nm := annT) (by decide) (p := ⟨annT, -bb⟩) (by rw [hCN]; rfl) hn0 (show nn ≤ 67108864 by omega)
 have r2 := unknown f6 (nm := bobT) (by decide) (p := ⟨[], 0⟩) (by rw [hCN]; rfl) hn0 (show nn ≤ 67108864 by omega)
 simp only at r1
 rw [ageS_years hn0 hn1 (by omega) (by omega)] at r1
 unfold mdAV at c5 c6
 unfold mlAV at c4
 have hcp : CN.party = 0 := by rw [hCN]
 rw [hcp] at c4
 simp only at c4
 rw [r2] at c6
 obtain ⟨G1, hG1⟩ : ∃ x, grantS B CN tk annT nn = x := ⟨_, rfl⟩
 obtain ⟨G2, hG2⟩ : ∃ x, grantS B CN tk bobT nn = x := ⟨_, rfl⟩
 rw [hG1] at c5 r1
 rw [hG2] at c6
 obtain ⟨GA, GD, GE⟩ := G1
 obtain ⟨HA, HD, HE⟩ := G2
 simp only at c5 c6 r1
 have hcA : concAV CN = .agg [.lit (.int .i64 0), tagAV T, .slice none [.agg [.lit (.string ⟨#[97, 110, 110]⟩), .lit (.int .i64 (-bb))]]] := by rw [hCN]; rfl
 have hbA : blAV ⟨0, kt, tk⟩ = .agg [.lit (.int .i64 0), tagAV kt, .slice none (tk.map byteAV)] := rfl
 have htA : teAV ⟨L, M⟩ = .agg [.lit (.int .i64 L), .lit (.int .i64 M)] := rfl
 have ha1 : strAV annT = .lit (.string ⟨#[97, 110, 110]⟩) := rfl
 have ha2 : strAV bobT = .lit (.string ⟨#[98, 111, 98]⟩) := rfl
 rw [hcA, hbA, htA] at c4
 rw [hcA, ha1] at c5
 rw [hcA, ha2] at c6
 have hq : (nn - -bb).tdiv 525600 = (nn - -bb) / 525600 := Int.tdiv_eq_ediv_of_nonneg (by omega)
 have hws2 : IntKind.i64.wrap (nn + bb) = nn + bb := wrap_i64 (by omega) (by omega)
 have hq2 : (nn + bb).tdiv 525600 = (nn - -bb) / 525600 := by rw [← hq]; congr 1; omega
 have hY0 : 0 ≤ (nn - -bb) / 525600 ∧ (nn - -bb) / 525600 ≤ 1000 := by omega
 generalize (nn - -bb) / 525600 = Y at *
 have hwY : IntKind.i64.wrap Y = Y := wrap_i64 (by omega) (by omega)
 have c9 := awake15d_spec
 have e12 : ((12 : Nat) : Int) = 12 := rfl
 rw [e12] at c6
 clear f1 f2 f4 f5 f6 hA hAo hx0 hx hj0 hte hcA hbA htA ha1 ha2 hG1 hG2 r2 hcw hcl hCN hcp e12 hL0 hLM hM1 hl1 hm1
 have r3 : (Y < L ∧ GE = 25) ∨ (¬ Y < L ∧ M < Y ∧ GE = 25) ∨ (¬ Y < L ∧ ¬ M < Y ∧ GE = 0) := by
  by_cases h1 : Y < L
  ·rw [if_pos (.inl h1)] at r1; exact .inl ⟨h1, r1⟩
  ·by_cases h2 : M < Y
   ·rw [if_pos (.inr h2)] at r1; exact .inr (.inl ⟨h1, h2, r1⟩)
   ·rw [if_neg (by rintro (h | h); · exact h1 h
                   ·exact h2 h)] at r1; exact .inr (.inr ⟨h1, h2, r1⟩)
 clear r1
 have e25 : ((25 : Nat) : Int) = 25 := rfl
 have e00 : ((0 : Nat) : Int) = 0 := rfl
 have hcase : (MO < LO ∧ L = MO ∧ M = LO) ∨ (¬ MO < LO ∧ L = LO ∧ M = MO) := by
  by_cases hs : MO < LO
  ·exact .inl ⟨hs, hsw hs⟩
  ·exact .inr ⟨hs, hns hs⟩
 clear hsw hns
 rcases hcase with ⟨hs, rfl, rfl⟩ | ⟨hs, rfl, rfl⟩ <;> rcases r3 with ⟨h1, rfl⟩ | ⟨h1, h2, rfl⟩ | ⟨h1, h2, rfl⟩
 all_goals
  first | rw [e25] at c5 | rw [e00] at c5
  clear e25 e00
  refine Bd Tryd.func8 Tryd.ntmps8 fun σ N hp hpn hk hkn hfree => ?_
  simp only [List.mem_cons, List.not_mem_nil, or_false, forall_eq_or_imp, forall_eq] at hp hpn; obtain ⟨hd1, hd2⟩ := hp; obtain ⟨hdn1, hdn2⟩ := hpn
  have hcs := And.intro c1 (And.intro (c2 (N + 1 + 1)) (And.intro w1 (And.intro (c3 (N + 1 + 1)) (And.intro w2 (And.intro c4 (And.intro c5 (And.intro c6 (And.intro c9 True.intro))))))))
  clear c1 c2 w1 c3 w2 c4 c5 c6 c9
  exact W0
end
theorem DischargeTerms_spec (xs : List Int) (_ : ∀ n ∈ xs, (Lit.int .i64 n).wf = true) (hx : xs.length ≤ 9223372036854775807) (n : Int) (w : (Lit.int .u8 n).wf = true) (n2 : Int) (w2 : (Lit.int .u8 n2).wf = true) (born minute : Int) (g h : Nat) (hgh : g ≠ h) (k : Nat) :
  ACall Tryd.prog 8 [.slice none (xs.map intAV), .lit (.int .u8 n), .lit (.int .u8 n2), .lit (.int .i64 born), .lit (.int .i64 minute)] k [(g, shaG), (h, bitsG)] (.lit (.bool true)) [] := by
 obtain ⟨b, _, rfl⟩ := byte_of_wf w
 obtain ⟨b2, _, rfl⟩ := byte_of_wf w2
 exact @DischargeTerms_core w32 xs hx b.toNat b2.toNat (by have := b.toNat_lt; omega) (by have := b2.toNat_lt; omega) born minute g h hgh k
end Go.Proofs.YtdmjpolnbmoehaaDoor
