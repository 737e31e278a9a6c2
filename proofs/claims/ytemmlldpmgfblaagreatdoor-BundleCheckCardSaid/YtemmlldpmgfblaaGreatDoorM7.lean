/- Texts N3, K6, K7, K8, K9, K12, K13, K14, K15, K16, K17, R3, joined. -/
import Derived.Test.YtemmlldpmgfblaaGreatDoorM6

/- Shared: fields: Field, field.Append, field.Read, the specified ones. -/
namespace Go.Proofs.YtemmlldpmgfblaaGreatDoor
open Go.Ab
attribute [local irreducible] Go.Ab.tyAV Go.Ab.aw Go.Ab.aops Go.Ab.kReg Go.Ab.aThen Go.Ab.aBlk Go.Ab.acond Go.Ab.aguard Go.Ab.astep Go.Ab.AStepX Go.Ab.aRet

def fieldB (x : List UInt8) : List UInt8 := leb x.length ++ x

theorem Field_spec (x : List UInt8) (hx : x.length ≤ 10000000) (k : Nat) : ACall Tryz.prog 135 [.slice none (x.map byteAV)] k [] (.slice (some k) ((fieldB x).map byteAV)) [(k, .row 5 1 ((leb x.length).length + x.length))] := by
  have hl := leb_len x.length 8 (by omega)
  have hc := Number_spec x.length
  have hn9 : x.length < 128 ^ 9 := by omega
  unfold fieldB
  refine Bd Tryz.func135 Tryz.ntmps135 fun σ N hp hpn hk hkn hfree => ?_
  refine Wk ?_
  refine go_callw (hc _ hn9) (by simp (disch := omega) [go_sem, *, -List.reduceReplicate]; try rfl) (by simp (disch := omega) [go_sem, *, -List.reduceReplicate]; repeat' first | exact ALe.nil | exact AV.le_refl _ | exact AV.le_nils | exact AV.le_own _ _ | apply ALe.cons | apply AV.sub_agg) (by simp (disch := omega) [go_sem, *, -List.reduceReplicate]) ?_
  refine Wk ?_
  refine go_result1 (r0 := N+3) (by simp (disch := omega) [go_sem, *, -List.reduceReplicate]; rfl) (by omega) (by simp (disch := omega) [go_sem]; try rfl) (fun id hid => by simp (disch := omega) only [upd_ne, wr_cons, wr_nil]; try exact hlow id hid) (by simp (disch := omega) only [upd_same, upd_ne]; rfl) (by simp (disch := omega) [go_sem])

theorem field_ok (b x : List UInt8) (hb : b.length ≤ 10000000) (hx : x.length ≤ 1024) (k : Nat) : ACall Tryz.prog 130 [.slice none (b.map byteAV), .slice none (x.map byteAV)] k []
    (.tup [.slice (some k) ((b ++ fieldB x).map byteAV), .lit (.int .i64 0)]) [(k, .row 5 1 (b ++ fieldB x).length)] := by
  have hl := leb_len x.length 2 (by omega)
  have hx' : ¬ (1024 : Int) < (x.length : Int) := by omega
  have hc := Append_ok b (by omega) x.length (by omega)
  have hf : (b ++ fieldB x) = b ++ leb x.length ++ x := by simp [fieldB]
  rw [hf, List.length_append, List.length_append]
  refine Bd Tryz.func130 Tryz.ntmps130 fun σ N hp hpn hk hkn hfree => ?_
  have hcs := And.intro hc True.intro
  refine Wk ?_
  refine go_result1 (r0 := N+8) (by simp (disch := omega) [go_sem, *, -List.reduceReplicate]; rfl) (by omega) (by simp (disch := omega) [go_sem]; try rfl) (fun id hid => by simp (disch := omega) only [upd_ne, wr_cons, wr_nil]; try exact hlow id hid) (by simp (disch := omega) only [upd_same, upd_ne]; rfl) (by simp (disch := omega) [go_sem])

theorem Field_spec_f (x : List UInt8) (hx : x.length ≤ 10000000) (k : Nat) : ACall Tryz.prog 135 [.slice none (x.map byteAV)] k [] (.slice none ((fieldB x).map byteAV)) [] := by
  have hl := leb_len x.length 8 (by omega)
  have hc := Number_spec x.length
  have hn9 : x.length < 128 ^ 9 := by omega
  unfold fieldB
  refine Bd Tryz.func135 Tryz.ntmps135 fun σ N hp hpn hk hkn hfree => ?_
  refine Wk ?_
  refine go_callw (hc _ hn9) (by simp (disch := omega) [go_sem, *, -List.reduceReplicate]; try rfl) (by simp (disch := omega) [go_sem, *, -List.reduceReplicate]; repeat' first | exact ALe.nil | exact AV.le_refl _ | exact AV.le_nils | exact AV.le_own _ _ | apply ALe.cons | apply AV.sub_agg) (by simp (disch := omega) [go_sem, *, -List.reduceReplicate]) ?_
  exact WM

theorem field_ok_f (b x : List UInt8) (hb : b.length ≤ 10000000) (hx : x.length ≤ 1024) (k : Nat) : ACall Tryz.prog 130 [.slice none (b.map byteAV), .slice none (x.map byteAV)] k []
    (.tup [.slice none ((b ++ fieldB x).map byteAV), .lit (.int .i64 0)]) [] := by
  have hl := leb_len x.length 2 (by omega)
  have hx' : ¬ (1024 : Int) < (x.length : Int) := by omega
  have hc := Append_ok b (by omega) x.length (by omega)
  have hf : (b ++ fieldB x) = b ++ leb x.length ++ x := by simp [fieldB]
  rw [hf]
  refine Bd Tryz.func130 Tryz.ntmps130 fun σ N hp hpn hk hkn hfree => ?_
  have hcs := And.intro hc True.intro
  exact WL

/-- The field at the beginning of bytes. -/
def rdF (b : List UInt8) : List UInt8 × Nat × Nat :=
  if (rdS b).2.2 ≠ 0 then ([], 0, (rdS b).2.2) else if 1024 < (rdS b).1 then ([], 0, 2) else if b.length - (rdS b).2.1 < (rdS b).1 then ([], 0, 3)
  else ((b.drop (rdS b).2.1).take (rdS b).1, (rdS b).2.1 + (rdS b).1, 0)
def rdFAV (r : List UInt8 × Nat × Nat) : AV := .tup [.slice none (r.1.map byteAV), .lit (.int .i64 r.2.1), .lit (.int .i64 r.2.2)]

theorem rdS_le (b : List UInt8) : (rdS b).2.1 ≤ b.length := by
  rcases rdS_bad b with h | ⟨e, h, _⟩
  · exact (rdS_ok b (n := (rdS b).1) (u := (rdS b).2.1) (by rw [← h])).2.1
  · rw [h]; simp

theorem take_drop_bytes (b : List UInt8) (u n : Nat) : ((b.map byteAV).take (u + n)).drop u = ((b.drop u).take n).map byteAV := by
  rw [List.map_take, List.map_drop, List.drop_take]
  congr 1
  omega

theorem fieldRead_spec (b : List UInt8) (hb : b.length ≤ 10000000) (k : Nat) : ACall Tryz.prog 208 [.slice none (b.map byteAV)] k [] (rdFAV (rdF b)) [] := by
  have c1 := Read_spec b (by omega)
  have hu := rdS_le b
  unfold rdF rdFAV
  generalize rdS b = r at *
  obtain ⟨n, u, e⟩ := r
  simp only [rdAV] at c1 hu ⊢
  by_cases h1 : e ≠ 0
  · rw [if_pos h1]
    have g1 : ¬ (e : Int) = 0 := by omega
    clear h1
    refine Bd Tryz.func208 Tryz.ntmps208 fun σ N hp hpn hk hkn hfree => ?_
    have hcs := And.intro c1 True.intro
    exact WL
  · rw [if_neg h1]
    have e0 : e = 0 := by omega
    subst e0
    clear h1
    by_cases h2 : 1024 < n
    · rw [if_pos h2]
      have g1 : (1024 : Int) < (n : Int) := by omega
      clear h2
      refine Bd Tryz.func208 Tryz.ntmps208 fun σ N hp hpn hk hkn hfree => ?_
      have hcs := And.intro c1 True.intro
      exact WL
    · rw [if_neg h2]
      have g1 : ¬ (1024 : Int) < (n : Int) := by omega
      by_cases h3 : b.length - u < n
      · rw [if_pos h3]
        have g2 : (b.length : Int) - (u : Int) < (n : Int) := by omega
        clear h3 h2
        refine Bd Tryz.func208 Tryz.ntmps208 fun σ N hp hpn hk hkn hfree => ?_
        have hcs := And.intro c1 True.intro
        exact WL
      · rw [if_neg h3]
        have g2 : ¬ (b.length : Int) - (u : Int) < (n : Int) := by omega
        have g3 : ((u : Int) + (n : Int)).toNat = u + n := by omega
        have g4 : u + n ≤ b.length := by omega
        have htd := take_drop_bytes b u n
        have c2 := SClone_spec ((b.drop u).take n) (by rw [List.length_take]; omega)
        have hl : ((b.drop u).take n).length = n := by rw [List.length_take, List.length_drop]; omega
        generalize (b.drop u).take n = y at *
        clear h3 h2
        refine Bd Tryz.func208 Tryz.ntmps208 fun σ N hp hpn hk hkn hfree => ?_
        have hcs := And.intro c1 (And.intro c2 True.intro)
        exact WL

end Go.Proofs.YtemmlldpmgfblaaGreatDoor

/- Predicates: numbers, eight bytes. -/
namespace Go.Proofs.YtemmlldpmgfblaaGreatDoor
open Go.Ab
attribute [local irreducible] Go.Ab.tyAV Go.Ab.aw Go.Ab.aops Go.Ab.kReg Go.Ab.aThen Go.Ab.aBlk Go.Ab.acond Go.Ab.aguard Go.Ab.astep Go.Ab.AStepX Go.Ab.aRet

abbrev natsAV (ns : List Nat) : AV := .slice none (ns.map fun (n : Nat) => AV.lit (.int .i64 (n : Int)))
theorem numbers_spec (ns : List Nat) (bs : List UInt8) (h0 : 0 < ns.length) (hb : bs.length + 8 * ns.length ≤ 1000000) (hn : ∀ n ∈ ns, n ≤ 281474976710656) (R : List UInt8) (hR : bs ++ ns.flatMap leb = R) (k : Nat) :
    ACall Tryz.prog 177 [.slice none (bs.map byteAV), natsAV ns] k [] (.slice (some k) (R.map byteAV)) [(k, .row 5 1 R.length)] := by
  refine Bd Tryz.func177 Tryz.ntmps177 fun σ N hp hpn hk hkn hfree => ?_
  refine Wk ?_
  refine go_loopP (ns.length) (N) mixed (by kernel_rfl) [0, 6, 9, 10, 11, 12, 13, 14, 15, 16, 17, 18, 19] [] (fun s_ σ_ n_ => s_ 9 = .lit (.int .i64 0) ∧ s_ 0 = .slice none (bs.map byteAV) ∧ True) (fun m_ s_ σ_ n_ => ∃ (u : Nat) (q : Nat) (acc : List UInt8), m_ = ns.length - u ∧ s_ 9 = .lit (.int .i64 u) ∧ s_ 0 = .slice (some q) (acc.map byteAV) ∧ σ_ (q) = .row 5 1 acc.length ∧ (u ≤ ns.length) ∧ (acc.length ≤ bs.length + 8 * u) ∧ (acc = bs ++ (ns.take u).flatMap leb) ∧ (N ≤ q) ∧ (q < n_)) ⟨WF, WF, trivial⟩ ?_ ?_
  · intro s_1 σ_1 n_1 hs_1 hf_1 hn_1 hI_1
    obtain ⟨h1_9, h1_0, -⟩ := hI_1
    have h1_4 := KS hs_1 4
    have h1_7 := KS hs_1 7
    have h1_8 := KS hs_1 8
    have hlow := KL (N := N) (σ := σ) hf_1
    obtain ⟨c, hc⟩ : ∃ c, ns[0] = c := ⟨_, rfl⟩
    have hcn : c ≤ 281474976710656 := hn c (by rw [← hc]; exact List.getElem_mem h0)
    have hcl := leb_len c 7 (by omega)
    have c1 := Append_ok bs (by omega) c hcn
    have hacc2 : bs ++ leb c = bs ++ (ns.take (0 + 1)).flatMap leb := by
      rw [List.take_add_one, List.getElem?_eq_getElem h0, hc]
      simp
    have hal2 : (bs ++ leb c).length ≤ bs.length + 8 * (0 + 1) := by rw [List.length_append]; omega
    have hll : bs.length + (leb c).length = (bs ++ leb c).length := by simp
    rw [hll] at c1
    generalize bs ++ leb c = acc2 at *
    have hcs := And.intro c1 True.intro
    clear c1 hll hR
    refine Wk ?_
    exact ⟨WS, WG, WN, _, (show ns.length - (1) < (ns.length) by omega), 1, _, acc2, rfl, WF, WF, WF, WC, WC, WC, WC, WC⟩
  intro m_1 s_1 σ_1 n_1 hs_1 hf_1 hn_1 hI_1
  obtain ⟨u, q, acc, hm_1, h1_9, h1_0, e1_0, hu, hal, hacc, hq, hqn⟩ := hI_1
  have h1_4 := KS hs_1 4
  have h1_7 := KS hs_1 7
  have h1_8 := KS hs_1 8
  have hlow := KL (N := N) (σ := σ) hf_1
  by_cases hul : u = ns.length
  · rw [hul, List.take_length, hR] at hacc
    subst hul hacc
    clear hR
    refine Wk ?_
    refine go_result1 (r0 := q) (by simp (disch := omega) [go_sem, *, -List.reduceReplicate]; rfl) (by omega) (by simp (disch := omega) [go_sem]; try rfl) (fun id hid => by simp (disch := omega) only [upd_ne, wr_cons, wr_nil]; try exact hlow id hid) (by simp (disch := omega) [go_sem, *, -List.reduceReplicate]; rfl) (by simp (disch := omega) [go_sem])
  · have hui : u < ns.length := by omega
    obtain ⟨c, hc⟩ : ∃ c, ns[u] = c := ⟨_, rfl⟩
    have hcn : c ≤ 281474976710656 := hn c (by rw [← hc]; exact List.getElem_mem hui)
    have hcl := leb_len c 7 (by omega)
    have c1 := Append_ok acc (by omega) c hcn
    have hacc2 : acc ++ leb c = bs ++ (ns.take (u + 1)).flatMap leb := by
      rw [List.take_add_one, List.getElem?_eq_getElem hui, hc, hacc]
      simp
    have hal2 : (acc ++ leb c).length ≤ bs.length + 8 * (u + 1) := by rw [List.length_append]; omega
    have hll : acc.length + (leb c).length = (acc ++ leb c).length := by simp
    rw [hll] at c1
    clear hacc hll hR
    generalize acc ++ leb c = acc2 at *
    have hcs := And.intro c1 True.intro
    clear c1
    refine Wk ?_
    exact ⟨WS, WG, WN, _, (show ns.length - (u + 1) < m_1 by omega), u + 1, _, acc2, rfl, WF, WF, WF, WC, WC, WC, WC, WC⟩
end Go.Proofs.YtemmlldpmgfblaaGreatDoor

/- Predicates: Encode. -/
namespace Go.Proofs.YtemmlldpmgfblaaGreatDoor
open Go.Ab
attribute [local irreducible] Go.Ab.tyAV Go.Ab.aw Go.Ab.aops Go.Ab.kReg Go.Ab.aThen Go.Ab.aBlk Go.Ab.acond Go.Ab.aguard Go.Ab.astep Go.Ab.AStepX Go.Ab.aRet

def encP (p : Pr) : List UInt8 :=
  leb p.kind.toNat ++ (if p.kind = 4 ∨ p.kind = 5 then leb p.frm.toNat ++ leb p.to.toNat else if p.kind = 6 then fieldB p.name else if p.kind = 7 then leb p.num.toNat else eightB p.mask)
theorem maskB_pos {m : Int} {n : Nat} (h : maskB m n = true) : m ≠ 0 ∧ m < 2 ^ n := by
  unfold maskB at h
  simpa using h
/-- The valid predicates. -/
inductive PV : Pr → Prop where
  | mask (kn : Nat) (m : Int) (hk : kn = 1 ∧ m < 18446744073709551616 ∨ kn = 2 ∧ m < 4294967296 ∨ kn = 3 ∧ m < 128) (hm : m ≠ 0) : PV ⟨kn, m, 0, 0, [], 0⟩
  | span (kn f t : Nat) (hk : kn = 4 ∧ f ≤ t ∧ t ≤ 67108864 ∨ kn = 5 ∧ f < 1440 ∧ t < 1440) : PV ⟨kn, 0, f, t, [], 0⟩
  | holder (n : List UInt8) (hn : nameB n = true) : PV ⟨6, 0, 0, 0, n, 0⟩
  | rides (x : Nat) (hx : x ≤ 1000000) : PV ⟨7, 0, 0, 0, [], x⟩
theorem PV.of {p : Pr} (h : predB p = true) : PV p := by
  obtain ⟨kd, m, f, t, n, x⟩ := p
  unfold predB at h
  simp only at h
  split at h
  · rename_i e; subst e
    simp only [Bool.and_eq_true, decide_eq_true_eq, Pr.mk.injEq] at h
    obtain ⟨h1, h2, h3, h4, h5, h6, h7⟩ := h
    subst h4 h5 h6 h7
    exact .mask 1 m (.inl ⟨rfl, (maskB_pos h1).2⟩) (maskB_pos h1).1
  split at h
  · rename_i e; subst e
    simp only [Bool.and_eq_true, decide_eq_true_eq, Pr.mk.injEq] at h
    obtain ⟨h1, h2, h3, h4, h5, h6, h7⟩ := h
    subst h4 h5 h6 h7
    exact .mask 2 m (.inr (.inl ⟨rfl, (maskB_pos h1).2⟩)) (maskB_pos h1).1
  split at h
  · rename_i e; subst e
    simp only [Bool.and_eq_true, decide_eq_true_eq, Pr.mk.injEq] at h
    obtain ⟨h1, h2, h3, h4, h5, h6, h7⟩ := h
    subst h4 h5 h6 h7
    exact .mask 3 m (.inr (.inr ⟨rfl, (maskB_pos h1).2⟩)) (maskB_pos h1).1
  split at h
  · rename_i e; subst e
    simp only [Bool.and_eq_true, decide_eq_true_eq, Pr.mk.injEq] at h
    obtain ⟨h1, h2, h3, h4, h5, h6, h7, h8, h9⟩ := h
    subst h5 h8 h9
    obtain ⟨f', rfl⟩ := Int.eq_ofNat_of_zero_le h1
    obtain ⟨t', rfl⟩ := Int.eq_ofNat_of_zero_le (Int.le_trans h1 h2)
    exact .span 4 f' t' (.inl ⟨rfl, by omega, by omega⟩)
  split at h
  · rename_i e; subst e
    simp only [Bool.and_eq_true, decide_eq_true_eq, Pr.mk.injEq] at h
    obtain ⟨h1, h2, h3, h4, h5, h6, h7, h8, h9, h10⟩ := h
    subst h6 h9 h10
    obtain ⟨f', rfl⟩ := Int.eq_ofNat_of_zero_le h1
    obtain ⟨t', rfl⟩ := Int.eq_ofNat_of_zero_le h3
    exact .span 5 f' t' (.inr ⟨rfl, by omega, by omega⟩)
  split at h
  · rename_i e; subst e
    simp only [Bool.and_eq_true, decide_eq_true_eq, Pr.mk.injEq] at h
    obtain ⟨h1, h2, h3, h4, h5, h6, h7⟩ := h
    subst h3 h4 h5 h7
    exact .holder n h1
  split at h
  · rename_i e; subst e
    simp only [Bool.and_eq_true, decide_eq_true_eq, Pr.mk.injEq] at h
    obtain ⟨h1, h2, h3, h4, h5, h6, h7, h8⟩ := h
    subst h4 h5 h6 h7
    obtain ⟨x', rfl⟩ := Int.eq_ofNat_of_zero_le h1
    exact .rides x' (by omega)
  · cases h

theorem refEnc_bad (p : Pr) (hp0 : PrOk p) (h : predB p = false) (k : Nat) :
    ACall Tryz.prog 136 [prAV p] k [] (.tup [.nils, .lit (.int .i64 5)]) [] := by
  have c1 := refPred_spec p hp0
  rw [h] at c1
  refine Bd Tryz.func136 Tryz.ntmps136 fun σ N hp hpn hk hkn hfree => ?_
  have hcs := And.intro c1 True.intro
  clear c1
  exact W0
set_option maxHeartbeats 4000000 in
theorem Enc_mask (kn : Nat) (m : Int) (hk : kn = 1 ∨ kn = 2 ∨ kn = 3) (hp0 : PrOk ⟨kn, m, 0, 0, [], 0⟩) (h : predB ⟨kn, m, 0, 0, [], 0⟩ = true) (d k : Nat) :
    ACall Tryz.prog 119 [prAV ⟨kn, m, 0, 0, [], 0⟩] k [(d, bitsG)] (.tup [.slice none ((leb kn ++ eightB m).map byteAV), .lit (.int .i64 0)]) [] := by
  have c1 := predValid_spec _ hp0 d
  rw [h] at c1
  have m0 := hp0.m0
  have m1 := hp0.m1
  simp only at m0 m1
  have c2 := numbers_spec [kn] [] (by simp) (by simp) (by simp; omega) (leb kn) (by simp)
  simp only [List.map_nil, List.map_cons] at c2
  have hl := leb_len kn 7 (by omega)
  generalize leb kn = L at *
  have g4 : ((kn : Int) == 4) = false := by rw [beq_eq_false_iff_ne]; omega
  have g5 : ((kn : Int) == 5) = false := by rw [beq_eq_false_iff_ne]; omega
  have g6 : ((kn : Int) == 6) = false := by rw [beq_eq_false_iff_ne]; omega
  have g7 : ((kn : Int) == 7) = false := by rw [beq_eq_false_iff_ne]; omega
  have e7 := sh8_wrap m 56
  have e6 := sh8_wrap m 48
  have e5 := sh8_wrap m 40
  have e4 := sh8_wrap m 32
  have e3 := sh8_wrap m 24
  have e2 := sh8_wrap m 16
  have e1 := sh8_wrap m 8
  have e0 := sh8_wrap m 0
  simp only [Int.reducePow, Int.pow_zero, Int.fdiv_one] at e7 e6 e5 e4 e3 e2 e1 e0
  unfold eightB
  generalize sh8 m 56 = b7 at *
  generalize sh8 m 48 = b6 at *
  generalize sh8 m 40 = b5 at *
  generalize sh8 m 32 = b4 at *
  generalize sh8 m 24 = b3 at *
  generalize sh8 m 16 = b2 at *
  generalize sh8 m 8 = b1 at *
  generalize sh8 m 0 = b0 at *
  clear hk
  simp only [prAV] at *
  refine Bd Tryz.func119 Tryz.ntmps119 fun σ N hp hpn hk hkn hfree => ?_
  obtain ⟨hd, hdn⟩ := HD0 hp hpn; clear hp hpn
  have hcs := And.intro c1 (And.intro c2 True.intro)
  clear c1 c2
  refine Wk ?_
  refine go_loopB (N + 1) mixed (by kernel_rfl) [4, 5, 41, 42, 43, 44, 45, 46, 47, 48, 49, 50, 51, 52] [] (fun m_ s_ σ_ n_ => ∃ (u : Nat) (q : Nat) (acc : List UInt8), m_ = 8 - u ∧ s_ 5 = .lit (.int .i64 (56 - 8 * (u : Int))) ∧ s_ 4 = .slice (some q) ((L ++ acc).map byteAV) ∧ σ_ (q) = .row 5 1 (L.length + acc.length) ∧ (u ≤ 8) ∧ (N + 1 ≤ q) ∧ (q < n_) ∧ (acc = [b7, b6, b5, b4, b3, b2, b1, b0].take u)) ⟨_, 0, _, [], rfl, WF, WF, WF, WC, WC, WC, WC⟩ ?_
  intro m_1 s_1 σ_1 n_1 hs_1 hf_1 hn_1 hI_1
  obtain ⟨u, q, acc, hm_1, h1_5, h1_4, e1_0, hu, hq, hqn, hacc⟩ := hI_1
  have h1_1 := KS hs_1 1
  have h1_2 := KS hs_1 2
  have h1_3 := KS hs_1 3
  have k1_0 := KE hf_1 (N)
  have hlow := KL (N := N) (σ := σ) hf_1
  have hb7 : byteAV b7 = .lit (.int .u8 b7.toNat) := rfl
  have hb6 : byteAV b6 = .lit (.int .u8 b6.toNat) := rfl
  have hb5 : byteAV b5 = .lit (.int .u8 b5.toNat) := rfl
  have hb4 : byteAV b4 = .lit (.int .u8 b4.toNat) := rfl
  have hb3 : byteAV b3 = .lit (.int .u8 b3.toNat) := rfl
  have hb2 : byteAV b2 = .lit (.int .u8 b2.toNat) := rfl
  have hb1 : byteAV b1 = .lit (.int .u8 b1.toNat) := rfl
  have hb0 : byteAV b0 = .lit (.int .u8 b0.toNat) := rfl
  have hcase : u = 0 ∨ u = 1 ∨ u = 2 ∨ u = 3 ∨ u = 4 ∨ u = 5 ∨ u = 6 ∨ u = 7 ∨ u = 8 := by omega
  rcases hcase with rfl | hcase
  · simp only [List.take_succ_cons, List.take_zero] at hacc
    subst hacc
    refine Wk ?_
    exact ⟨WS, WG, WN, _, (show 8 - (1) < m_1 by omega), 1, q, [b7], rfl, WF, WF, WF, WC, WC, WC, WC⟩
  rcases hcase with rfl | hcase
  · simp only [List.take_succ_cons, List.take_zero] at hacc
    subst hacc
    refine Wk ?_
    exact ⟨WS, WG, WN, _, (show 8 - (2) < m_1 by omega), 2, q, [b7, b6], rfl, WF, WF, WF, WC, WC, WC, WC⟩
  rcases hcase with rfl | hcase
  · simp only [List.take_succ_cons, List.take_zero] at hacc
    subst hacc
    refine Wk ?_
    exact ⟨WS, WG, WN, _, (show 8 - (3) < m_1 by omega), 3, q, [b7, b6, b5], rfl, WF, WF, WF, WC, WC, WC, WC⟩
  rcases hcase with rfl | hcase
  · simp only [List.take_succ_cons, List.take_zero] at hacc
    subst hacc
    refine Wk ?_
    exact ⟨WS, WG, WN, _, (show 8 - (4) < m_1 by omega), 4, q, [b7, b6, b5, b4], rfl, WF, WF, WF, WC, WC, WC, WC⟩
  rcases hcase with rfl | hcase
  · simp only [List.take_succ_cons, List.take_zero] at hacc
    subst hacc
    refine Wk ?_
    exact ⟨WS, WG, WN, _, (show 8 - (5) < m_1 by omega), 5, q, [b7, b6, b5, b4, b3], rfl, WF, WF, WF, WC, WC, WC, WC⟩
  rcases hcase with rfl | hcase
  · simp only [List.take_succ_cons, List.take_zero] at hacc
    subst hacc
    refine Wk ?_
    exact ⟨WS, WG, WN, _, (show 8 - (6) < m_1 by omega), 6, q, [b7, b6, b5, b4, b3, b2], rfl, WF, WF, WF, WC, WC, WC, WC⟩
  rcases hcase with rfl | hcase
  · simp only [List.take_succ_cons, List.take_zero] at hacc
    subst hacc
    refine Wk ?_
    exact ⟨WS, WG, WN, _, (show 8 - (7) < m_1 by omega), 7, q, [b7, b6, b5, b4, b3, b2, b1], rfl, WF, WF, WF, WC, WC, WC, WC⟩
  rcases hcase with rfl | hcase
  · simp only [List.take_succ_cons, List.take_zero] at hacc
    subst hacc
    refine Wk ?_
    exact ⟨WS, WG, WN, _, (show 8 - (8) < m_1 by omega), 8, q, [b7, b6, b5, b4, b3, b2, b1, b0], rfl, WF, WF, WF, WC, WC, WC, WC⟩
  subst hcase
  simp only [List.take_succ_cons, List.take_zero] at hacc
  subst hacc
  exact WL
end Go.Proofs.YtemmlldpmgfblaaGreatDoor

/- Predicates: Encode, as specified. -/
namespace Go.Proofs.YtemmlldpmgfblaaGreatDoor
open Go.Ab
attribute [local irreducible] Go.Ab.tyAV Go.Ab.aw Go.Ab.aops Go.Ab.kReg Go.Ab.aThen Go.Ab.aBlk Go.Ab.acond Go.Ab.aguard Go.Ab.astep Go.Ab.AStepX Go.Ab.aRet

set_option maxHeartbeats 4000000 in
theorem Enc_span (kn f t : Nat) (hk : kn = 4 ∨ kn = 5) (hf : f ≤ 67108864) (ht : t ≤ 67108864) (hp0 : PrOk ⟨kn, 0, f, t, [], 0⟩) (h : predB ⟨kn, 0, f, t, [], 0⟩ = true) (d k : Nat) :
    ACall Tryz.prog 119 [prAV ⟨kn, 0, f, t, [], 0⟩] k [(d, bitsG)] (.tup [.slice none ((leb kn ++ (leb f ++ leb t)).map byteAV), .lit (.int .i64 0)]) [] := by
  have c1 := predValid_spec _ hp0 d
  rw [h] at c1
  have c2 := numbers_spec [kn] [] (by simp) (by simp) (by simp; omega) (leb kn) (by simp)
  have hl := leb_len kn 7 (by omega)
  have c3 := numbers_spec [f, t] (leb kn) (by simp) (by simp; omega) (by simp; omega) (leb kn ++ (leb f ++ leb t)) (by simp)
  simp only [List.map_nil, List.map_cons] at c2 c3
  generalize leb kn ++ (leb f ++ leb t) = R at *
  generalize leb kn = L at *
  simp only [prAV] at *
  rcases hk with rfl | rfl
  · refine Bd Tryz.func119 Tryz.ntmps119 fun σ N hp hpn hk hkn hfree => ?_
    obtain ⟨hd, hdn⟩ := HD0 hp hpn; clear hp hpn
    have hcs := And.intro c1 (And.intro c2 (And.intro c3 True.intro))
    clear c1 c2 c3
    exact WL
  · refine Bd Tryz.func119 Tryz.ntmps119 fun σ N hp hpn hk hkn hfree => ?_
    obtain ⟨hd, hdn⟩ := HD0 hp hpn; clear hp hpn
    have hcs := And.intro c1 (And.intro c2 (And.intro c3 True.intro))
    clear c1 c2 c3
    exact WL
theorem nameB_len {n : List UInt8} (h : nameB n = true) : 1 ≤ n.length ∧ n.length ≤ 16 := by
  unfold nameB at h
  simp only [Bool.and_eq_true, decide_eq_true_eq] at h
  exact h.1
set_option maxHeartbeats 4000000 in
theorem Enc_holder (n : List UInt8) (hn : nameB n = true) (hp0 : PrOk ⟨6, 0, 0, 0, n, 0⟩) (h : predB ⟨6, 0, 0, 0, n, 0⟩ = true) (d k : Nat) :
    ACall Tryz.prog 119 [prAV ⟨6, 0, 0, 0, n, 0⟩] k [(d, bitsG)] (.tup [.slice none ((leb 6 ++ fieldB n).map byteAV), .lit (.int .i64 0)]) [] := by
  have c1 := predValid_spec _ hp0 d
  rw [h] at c1
  have hnl := nameB_len hn
  have c2 := numbers_spec [6] [] (by simp) (by simp) (by simp) (leb 6) (by simp)
  have hl := leb_len 6 7 (by omega)
  have c3 := field_ok_f (leb 6) n (by omega) (by omega)
  simp only [List.map_nil, List.map_cons] at c2 c3
  generalize leb 6 ++ fieldB n = R at *
  generalize leb 6 = L at *
  simp only [prAV] at *
  refine Bd Tryz.func119 Tryz.ntmps119 fun σ N hp hpn hk hkn hfree => ?_
  obtain ⟨hd, hdn⟩ := HD0 hp hpn; clear hp hpn
  have hcs := And.intro c1 (And.intro c2 (And.intro c3 True.intro))
  clear c1 c2 c3
  exact WL
set_option maxHeartbeats 4000000 in
theorem Enc_rides (x : Nat) (hx : x ≤ 1000000) (hp0 : PrOk ⟨7, 0, 0, 0, [], x⟩) (h : predB ⟨7, 0, 0, 0, [], x⟩ = true) (d k : Nat) :
    ACall Tryz.prog 119 [prAV ⟨7, 0, 0, 0, [], x⟩] k [(d, bitsG)] (.tup [.slice none ((leb 7 ++ leb x).map byteAV), .lit (.int .i64 0)]) [] := by
  have c1 := predValid_spec _ hp0 d
  rw [h] at c1
  have c2 := numbers_spec [7] [] (by simp) (by simp) (by simp) (leb 7) (by simp)
  have hl := leb_len 7 7 (by omega)
  have c3 := numbers_spec [x] (leb 7) (by simp) (by simp; omega) (by simp; omega) (leb 7 ++ leb x) (by simp)
  simp only [List.map_nil, List.map_cons] at c2 c3
  generalize leb 7 ++ leb x = R at *
  generalize leb 7 = L at *
  simp only [prAV] at *
  refine Bd Tryz.func119 Tryz.ntmps119 fun σ N hp hpn hk hkn hfree => ?_
  obtain ⟨hd, hdn⟩ := HD0 hp hpn; clear hp hpn
  have hcs := And.intro c1 (And.intro c2 (And.intro c3 True.intro))
  clear c1 c2 c3
  exact WL
theorem encP_mask {kn : Nat} {m : Int} (hk : kn = 1 ∨ kn = 2 ∨ kn = 3) : encP ⟨kn, m, 0, 0, [], 0⟩ = leb kn ++ eightB m := by
  unfold encP
  simp only
  rw [if_neg (by omega), if_neg (by omega), if_neg (by omega)]
  rfl
theorem encP_span {kn f t : Nat} (hk : kn = 4 ∨ kn = 5) : encP ⟨kn, 0, f, t, [], 0⟩ = leb kn ++ (leb f ++ leb t) := by
  unfold encP
  simp only
  rw [if_pos (by omega)]
  rfl
theorem encP_holder (n : List UInt8) : encP ⟨6, 0, 0, 0, n, 0⟩ = leb 6 ++ fieldB n := rfl
theorem encP_rides (x : Nat) : encP ⟨7, 0, 0, 0, [], x⟩ = leb 7 ++ leb x := rfl
/-- The bytes of a valid predicate. -/
theorem Enc_spec (p : Pr) (hp0 : PrOk p) (h : predB p = true) (d k : Nat) :
    ACall Tryz.prog 119 [prAV p] k [(d, bitsG)] (.tup [.slice none ((encP p).map byteAV), .lit (.int .i64 0)]) [] := by
  cases PV.of h with
  | mask kn m hk hm => rw [encP_mask (by omega)]; exact Enc_mask kn m (by omega) hp0 h d k
  | span kn f t hk => rw [encP_span (by omega)]; exact Enc_span kn f t (by omega) (by omega) (by omega) hp0 h d k
  | holder n hn => exact Enc_holder n hn hp0 h d k
  | rides x hx => exact Enc_rides x hx hp0 h d k

set_option maxHeartbeats 4000000 in
theorem refEnc_mask (kn : Nat) (m : Int) (hk : kn = 1 ∨ kn = 2 ∨ kn = 3) (hp0 : PrOk ⟨kn, m, 0, 0, [], 0⟩) (h : predB ⟨kn, m, 0, 0, [], 0⟩ = true) (k : Nat) :
    ACall Tryz.prog 136 [prAV ⟨kn, m, 0, 0, [], 0⟩] k [] (.tup [.slice none ((leb kn ++ eightB m).map byteAV), .lit (.int .i64 0)]) [] := by
  have c1 := refPred_spec _ hp0
  rw [h] at c1
  have c2 := Number_spec kn
  have hk9 : kn < 128 ^ 9 := by omega
  have hl := leb_len kn 7 (by omega)
  have c3 := Eight_spec m hp0.m0 hp0.m1
  have h8 := eightB_len m
  generalize leb kn = L at *
  generalize eightB m = E at *
  simp only [prAV] at *
  rcases hk with rfl | rfl | rfl
  all_goals (
    refine Bd Tryz.func136 Tryz.ntmps136 fun σ N hp hpn hk hkn hfree => ?_
    have hcs := And.intro c1 (And.intro (fun k => c2 k hk9) (And.intro c3 True.intro))
    clear c1 c2 c3
    exact WL)
set_option maxHeartbeats 4000000 in
theorem refEnc_span (kn f t : Nat) (hk : kn = 4 ∨ kn = 5) (hf : f ≤ 67108864) (ht : t ≤ 67108864) (hp0 : PrOk ⟨kn, 0, f, t, [], 0⟩) (h : predB ⟨kn, 0, f, t, [], 0⟩ = true) (k : Nat) :
    ACall Tryz.prog 136 [prAV ⟨kn, 0, f, t, [], 0⟩] k [] (.tup [.slice none ((leb kn ++ (leb f ++ leb t)).map byteAV), .lit (.int .i64 0)]) [] := by
  have c1 := refPred_spec _ hp0
  rw [h] at c1
  have c2 := Number_spec kn
  have c3 := Number_spec_f f
  have c4 := Number_spec_f t
  have hk9 : kn < 128 ^ 9 := by omega
  have hf9 : f < 128 ^ 9 := by omega
  have ht9 : t < 128 ^ 9 := by omega
  have hl := leb_len kn 7 (by omega)
  have hl2 := leb_len f 7 (by omega)
  have hl3 := leb_len t 7 (by omega)
  generalize leb kn = L at *
  generalize leb f = L1 at *
  generalize leb t = L2 at *
  simp only [prAV] at *
  rcases hk with rfl | rfl
  all_goals (
    refine Bd Tryz.func136 Tryz.ntmps136 fun σ N hp hpn hk hkn hfree => ?_
    have hcs := And.intro c1 (And.intro (fun k => c2 k hk9) (And.intro (fun k => c3 k hf9) (And.intro (fun k => c4 k ht9) True.intro)))
    clear c1 c2 c3 c4
    exact WL)
set_option maxHeartbeats 4000000 in
theorem refEnc_holder (n : List UInt8) (hn : nameB n = true) (hp0 : PrOk ⟨6, 0, 0, 0, n, 0⟩) (h : predB ⟨6, 0, 0, 0, n, 0⟩ = true) (k : Nat) :
    ACall Tryz.prog 136 [prAV ⟨6, 0, 0, 0, n, 0⟩] k [] (.tup [.slice none ((leb 6 ++ fieldB n).map byteAV), .lit (.int .i64 0)]) [] := by
  have c1 := refPred_spec _ hp0
  rw [h] at c1
  have hnl := nameB_len hn
  have c2 := Number_spec 6
  have c3 := Field_spec_f n (by omega)
  have h69 : 6 < 128 ^ 9 := by omega
  have hl := leb_len 6 7 (by omega)
  have hl2 := leb_len n.length 2 (by omega)
  have hf : (fieldB n).length ≤ 30 := by simp only [fieldB, List.length_append]; omega
  generalize leb 6 = L at *
  generalize fieldB n = L1 at *
  simp only [prAV] at *
  refine Bd Tryz.func136 Tryz.ntmps136 fun σ N hp hpn hk hkn hfree => ?_
  have hcs := And.intro c1 (And.intro (fun k => c2 k h69) (And.intro c3 True.intro))
  clear c1 c2 c3
  exact WL
set_option maxHeartbeats 4000000 in
theorem refEnc_rides (x : Nat) (hx : x ≤ 1000000) (hp0 : PrOk ⟨7, 0, 0, 0, [], x⟩) (h : predB ⟨7, 0, 0, 0, [], x⟩ = true) (k : Nat) :
    ACall Tryz.prog 136 [prAV ⟨7, 0, 0, 0, [], x⟩] k [] (.tup [.slice none ((leb 7 ++ leb x).map byteAV), .lit (.int .i64 0)]) [] := by
  have c1 := refPred_spec _ hp0
  rw [h] at c1
  have c2 := Number_spec 7
  have c3 := Number_spec_f x
  have h79 : 7 < 128 ^ 9 := by omega
  have hx9 : x < 128 ^ 9 := by omega
  have hl := leb_len 7 7 (by omega)
  have hl2 := leb_len x 7 (by omega)
  generalize leb 7 = L at *
  generalize leb x = L1 at *
  simp only [prAV] at *
  refine Bd Tryz.func136 Tryz.ntmps136 fun σ N hp hpn hk hkn hfree => ?_
  have hcs := And.intro c1 (And.intro (fun k => c2 k h79) (And.intro (fun k => c3 k hx9) True.intro))
  clear c1 c2 c3
  exact WL
theorem refEnc_spec (p : Pr) (hp0 : PrOk p) (h : predB p = true) (k : Nat) :
    ACall Tryz.prog 136 [prAV p] k [] (.tup [.slice none ((encP p).map byteAV), .lit (.int .i64 0)]) [] := by
  cases PV.of h with
  | mask kn m hk hm => rw [encP_mask (by omega)]; exact refEnc_mask kn m (by omega) hp0 h k
  | span kn f t hk => rw [encP_span (by omega)]; exact refEnc_span kn f t (by omega) (by omega) (by omega) hp0 h k
  | holder n hn => exact refEnc_holder n hn hp0 h k
  | rides x hx => exact refEnc_rides x hx hp0 h k
end Go.Proofs.YtemmlldpmgfblaaGreatDoor

/- Caveats: Encode, as specified. -/
namespace Go.Proofs.YtemmlldpmgfblaaGreatDoor
open Go.Ab
attribute [local irreducible] Go.Ab.tyAV Go.Ab.aw Go.Ab.aops Go.Ab.kReg Go.Ab.aThen Go.Ab.aBlk Go.Ab.acond Go.Ab.aguard Go.Ab.astep Go.Ab.AStepX Go.Ab.aRet

def encC (c : Ca) : List UInt8 := if c.third = false then 1 :: encP c.first else 2 :: (leb c.party.toNat ++ (fieldB c.ticket ++ fieldB c.box))
/-- The valid caveats. -/
inductive CV : Ca → Prop where
  | first (p : Pr) (hp : predB p = true) : CV ⟨false, p, 0, [], []⟩
  | third (n : Nat) (hn : n ≤ 7) (t b : List UInt8) (ht : 1 ≤ t.length ∧ t.length ≤ 1024) (hb : 1 ≤ b.length ∧ b.length ≤ 1024) : CV ⟨true, zeroPr, n, t, b⟩
theorem sizedB_iff {b : List UInt8} : sizedB b = true ↔ 1 ≤ b.length ∧ b.length ≤ 1024 := by unfold sizedB; simp
theorem CV.of {c : Ca} (h : cavB c = true) : CV c := by
  obtain ⟨th, p, n, t, b⟩ := c
  unfold cavB at h
  simp only at h
  split at h
  · rename_i e; subst e
    simp only [Bool.and_eq_true, decide_eq_true_eq, List.length_eq_zero_iff] at h
    obtain ⟨h1, h2, h3, h4⟩ := h
    subst h2 h3 h4
    exact .first p h1
  · rename_i e
    obtain rfl : th = true := by cases th <;> simp_all
    simp only [Bool.and_eq_true, decide_eq_true_eq, sizedB_iff] at h
    obtain ⟨h1, h2, h3, h4, h5⟩ := h
    subst h1
    obtain ⟨m, rfl⟩ := Int.eq_ofNat_of_zero_le h2
    exact .third m (by omega) t b h4 h5
theorem CV.ok {c : Ca} (h : CV c) : cavB c = true := by
  cases h with
  | first p hp => simp [cavB, hp]
  | third n hn t b ht hb =>
    simp [cavB, sizedB_iff.2 ht, sizedB_iff.2 hb, hn]
    omega
theorem encP_len (p : Pr) (h : predB p = true) : 1 ≤ (encP p).length ∧ (encP p).length ≤ 40 := by
  cases PV.of h with
  | mask kn m hk hm =>
    rw [encP_mask (by omega), List.length_append, eightB_len]
    have := leb_len kn 1 (by omega)
    omega
  | span kn f t hk =>
    rw [encP_span (by omega), List.length_append, List.length_append]
    have := leb_len kn 1 (by omega)
    have := leb_len f 5 (by omega)
    have := leb_len t 5 (by omega)
    have := leb_pos kn
    omega
  | holder n hn =>
    have := leb_len n.length 1 (by have := nameB_len hn; omega)
    have := leb_len 6 1 (by omega)
    have := nameB_len hn
    have := leb_pos 6
    rw [encP_holder, List.length_append, fieldB, List.length_append]
    omega
  | rides x hx =>
    have := leb_len x 5 (by omega)
    have := leb_len 7 1 (by omega)
    have := leb_pos 7
    rw [encP_rides, List.length_append]
    omega
theorem encC_len (c : Ca) (h : cavB c = true) : 1 ≤ (encC c).length ∧ (encC c).length ≤ 3000 := by
  cases CV.of h with
  | first p hp =>
    have := encP_len p hp
    simp only [encC, if_true, List.length_cons]
    omega
  | third n hn t b ht hb =>
    have := leb_len n 7 (by omega)
    have := leb_len t.length 7 (by omega)
    have := leb_len b.length 7 (by omega)
    simp only [encC, Bool.true_eq_false, if_false, List.length_cons, List.length_append, fieldB, Int.toNat_natCast]
    omega

theorem rEnc_bad (c : Ca) (hp0 : PrOk c.first) (h : cavB c = false) (k : Nat) :
    ACall Tryz.prog 134 [caAV c] k [] (.tup [.nils, .lit (.int .i64 5)]) [] := by
  have c1 := refCav_spec c hp0
  rw [h] at c1
  refine Bd Tryz.func134 Tryz.ntmps134 fun σ N hp hpn hk hkn hfree => ?_
  have hcs := And.intro c1 True.intro
  clear c1
  exact W0
theorem cEnc_first (p : Pr) (hp0 : PrOk p) (h : predB p = true) (d k : Nat) :
    ACall Tryz.prog 188 [caAV ⟨false, p, 0, [], []⟩] k [(d, bitsG)] (.tup [.slice none ((1 :: encP p).map byteAV), .lit (.int .i64 0)]) [] := by
  have c1 := cavValid_spec ⟨false, p, 0, [], []⟩ hp0 d
  rw [(CV.first p h).ok] at c1
  have c2 := Enc_spec p hp0 h d
  have hl := encP_len p h
  generalize encP p = R at *
  have hb1 : byteAV 1 = .lit (.int .u8 1) := rfl
  refine Bd Tryz.func188 Tryz.ntmps188 fun σ N hp hpn hk hkn hfree => ?_
  obtain ⟨hd, hdn⟩ := HD0 hp hpn; clear hp hpn
  have hcs := And.intro c1 (And.intro c2 True.intro)
  clear c1 c2
  exact WL
theorem rEnc_first (p : Pr) (hp0 : PrOk p) (h : predB p = true) (k : Nat) :
    ACall Tryz.prog 134 [caAV ⟨false, p, 0, [], []⟩] k [] (.tup [.slice none ((1 :: encP p).map byteAV), .lit (.int .i64 0)]) [] := by
  have c1 := refCav_spec ⟨false, p, 0, [], []⟩ hp0
  rw [(CV.first p h).ok] at c1
  have c2 := refEnc_spec p hp0 h
  have hl := encP_len p h
  generalize encP p = R at *
  have hb1 : byteAV 1 = .lit (.int .u8 1) := rfl
  refine Bd Tryz.func134 Tryz.ntmps134 fun σ N hp hpn hk hkn hfree => ?_
  have hcs := And.intro c1 (And.intro c2 True.intro)
  clear c1 c2
  exact WL
theorem zeroPr_ok : PrOk zeroPr := ⟨by decide, by decide, by decide⟩
set_option maxHeartbeats 4000000 in
theorem cEnc_third (n : Nat) (hn : n ≤ 7) (t b : List UInt8) (ht : 1 ≤ t.length ∧ t.length ≤ 1024) (hb : 1 ≤ b.length ∧ b.length ≤ 1024) (d k : Nat) :
    ACall Tryz.prog 188 [caAV ⟨true, zeroPr, n, t, b⟩] k [(d, bitsG)] (.tup [.slice none ((2 :: (leb n ++ (fieldB t ++ fieldB b))).map byteAV), .lit (.int .i64 0)]) [] := by
  have c1 := cavValid_spec ⟨true, zeroPr, n, t, b⟩ zeroPr_ok d
  rw [(CV.third n hn t b ht hb).ok] at c1
  have hl := leb_len n 7 (by omega)
  have hl1 := leb_len t.length 7 (by omega)
  have hl2 := leb_len b.length 7 (by omega)
  have hf1 : (fieldB t).length ≤ 2000 := by simp only [fieldB, List.length_append]; omega
  have c2 := Append_ok [2] (by simp) n (by omega)
  have c3 := field_ok ([2] ++ leb n) t (by simp; omega) ht.2
  have c4 := field_ok ([2] ++ leb n ++ fieldB t) b (by simp; omega) hb.2
  have hR : 2 :: (leb n ++ (fieldB t ++ fieldB b)) = [2] ++ leb n ++ fieldB t ++ fieldB b := by simp
  have h2l : [(2 : UInt8)].length + (leb n).length = ([2] ++ leb n).length := by simp; omega
  rw [hR]
  rw [h2l] at c2
  clear hR h2l
  generalize [2] ++ leb n ++ fieldB t ++ fieldB b = R3 at *
  generalize [2] ++ leb n ++ fieldB t = R2 at *
  generalize [2] ++ leb n = R1 at *
  have hb1 : byteAV 2 = .lit (.int .u8 2) := rfl
  simp only [caAV, List.map_cons, List.map_nil, hb1] at *
  refine Bd Tryz.func188 Tryz.ntmps188 fun σ N hp hpn hk hkn hfree => ?_
  obtain ⟨hd, hdn⟩ := HD0 hp hpn; clear hp hpn
  have hcs := And.intro c1 (And.intro c2 True.intro)
  clear c1 c2
  refine Wk ?_
  refine go_loopB (N + 1) mixed (by kernel_rfl) [6, 7, 9, 38, 39, 40, 41, 42, 43, 44, 45, 46, 47, 48, 49] [] (fun m_ s_ σ_ n_ => ∃ (u : Nat) (q : Nat) (acc : List UInt8), m_ = 2 - u ∧ s_ 38 = .lit (.int .i64 u) ∧ s_ 6 = .slice (some q) (acc.map byteAV) ∧ s_ 7 = .lit (.int .i64 0) ∧ σ_ (q) = .row 5 1 acc.length ∧ (u = 0 ∧ acc = R1 ∨ u = 1 ∧ acc = R2 ∨ u = 2 ∧ acc = R3) ∧ (N + 1 ≤ q) ∧ (q < n_)) ⟨_, 0, _, R1, rfl, WF, WF, WF, WF, WC, WC, WC⟩ ?_
  intro m_1 s_1 σ_1 n_1 hs_1 hf_1 hn_1 hI_1
  obtain ⟨u, q, acc, hm_1, h1_38, h1_6, h1_7, e1_0, hu, hq, hqn⟩ := hI_1
  have h1_2 := KS hs_1 2
  have h1_3 := KS hs_1 3
  have h1_37 := KS hs_1 37
  have k1_0 := KE hf_1 (N)
  have hlow := KL (N := N) (σ := σ) hf_1
  rcases hu with ⟨rfl, rfl⟩ | ⟨rfl, rfl⟩ | ⟨rfl, rfl⟩
  · have hcs := And.intro c3 True.intro
    clear c3 c4
    refine Wk ?_
    exact ⟨WS, WG, WN, _, (show 2 - (1) < m_1 by omega), 1, _, R2, rfl, WF, WF, WF, WF, WC, WC, WC⟩
  · have hcs := And.intro c4 True.intro
    clear c3 c4
    refine Wk ?_
    exact ⟨WS, WG, WN, _, (show 2 - (2) < m_1 by omega), 2, _, R3, rfl, WF, WF, WF, WF, WC, WC, WC⟩
  · clear c3 c4
    exact WL
set_option maxHeartbeats 4000000 in
theorem rEnc_third (n : Nat) (hn : n ≤ 7) (t b : List UInt8) (ht : 1 ≤ t.length ∧ t.length ≤ 1024) (hb : 1 ≤ b.length ∧ b.length ≤ 1024) (k : Nat) :
    ACall Tryz.prog 134 [caAV ⟨true, zeroPr, n, t, b⟩] k [] (.tup [.slice none ((2 :: (leb n ++ (fieldB t ++ fieldB b))).map byteAV), .lit (.int .i64 0)]) [] := by
  have c1 := refCav_spec ⟨true, zeroPr, n, t, b⟩ zeroPr_ok
  rw [(CV.third n hn t b ht hb).ok] at c1
  have hl := leb_len n 7 (by omega)
  have hl1 := leb_len t.length 7 (by omega)
  have hl2 := leb_len b.length 7 (by omega)
  have hf1 : (fieldB t).length ≤ 2000 := by simp only [fieldB, List.length_append]; omega
  have hf2 : (fieldB b).length ≤ 2000 := by simp only [fieldB, List.length_append]; omega
  have hn9 : n < 128 ^ 9 := by omega
  have c2 := Number_spec_f n
  have c3 := Field_spec_f t (by omega)
  have c4 := Field_spec_f b (by omega)
  generalize leb n = L1 at *
  generalize fieldB t = L2 at *
  generalize fieldB b = L3 at *
  have hb1 : byteAV 2 = .lit (.int .u8 2) := rfl
  simp only [caAV] at *
  refine Bd Tryz.func134 Tryz.ntmps134 fun σ N hp hpn hk hkn hfree => ?_
  have hcs := And.intro c1 (And.intro (fun k => c2 k hn9) (And.intro c3 (And.intro c4 True.intro)))
  clear c1 c2 c3 c4
  exact WL
theorem cEnc_ok (c : Ca) (hp0 : PrOk c.first) (h : cavB c = true) (d k : Nat) :
    ACall Tryz.prog 188 [caAV c] k [(d, bitsG)] (.tup [.slice none ((encC c).map byteAV), .lit (.int .i64 0)]) [] := by
  cases CV.of h with
  | first p hp => exact cEnc_first p hp0 hp d k
  | third n hn t b ht hb => exact cEnc_third n hn t b ht hb d k
theorem rEnc_ok (c : Ca) (hp0 : PrOk c.first) (h : cavB c = true) (k : Nat) :
    ACall Tryz.prog 134 [caAV c] k [] (.tup [.slice none ((encC c).map byteAV), .lit (.int .i64 0)]) [] := by
  cases CV.of h with
  | first p hp => exact rEnc_first p hp0 hp k
  | third n hn t b ht hb => exact rEnc_third n hn t b ht hb k
/-- What Encode returns. -/
def encS (c : Ca) : List UInt8 × Nat := if cavB c = true then (encC c, 0) else ([], 5)
def encAV (x : List UInt8 × Nat) : AV := .tup [.slice none (x.1.map byteAV), .lit (.int .i64 x.2)]
theorem rEnc_spec (c : Ca) (hp0 : PrOk c.first) (k : Nat) : ACall Tryz.prog 134 [caAV c] k [] (encAV (encS c)) [] := by
  unfold encS
  split
  · rename_i h; exact rEnc_ok c hp0 h k
  · rename_i h
    exact (rEnc_bad c hp0 (by simpa using h) k).result (AV.sub_tup (.cons AV.le_nils0 (.cons (AV.le_refl _) .nil)))
theorem encS_len (c : Ca) : (encS c).1.length ≤ 3000 := by
  unfold encS
  split
  · rename_i h; exact (encC_len c h).2
  · simp
end Go.Proofs.YtemmlldpmgfblaaGreatDoor

/- Predicates: readers. -/
namespace Go.Proofs.YtemmlldpmgfblaaGreatDoor
open Go.Ab
attribute [local irreducible] Go.Ab.tyAV Go.Ab.aw Go.Ab.aops Go.Ab.kReg Go.Ab.aThen Go.Ab.aBlk Go.Ab.acond Go.Ab.aguard Go.Ab.astep Go.Ab.AStepX Go.Ab.aRet

/-- A reader: bytes, how many are used, the first error. -/
def rdBox (b : List UInt8) (u e : Nat) : Ent := .box 273 (.agg [.slice none (b.map byteAV), .lit (.int .i64 u), .lit (.int .i64 e)])
def RdBox (b : List UInt8) (u e : Nat) : Ent := .box 169 (.agg [.slice none (b.map byteAV), .lit (.int .i64 u), .lit (.int .i64 e)])
@[simp, go_sem] theorem rdBox_ne (b : List UInt8) (u e : Nat) : (rdBox b u e = .none) = False := by simp [rdBox]
@[simp, go_sem] theorem RdBox_ne (b : List UInt8) (u e : Nat) : (RdBox b u e = .none) = False := by simp [RdBox]
@[go_sem] theorem rdBox_ren (b : List UInt8) (u e : Nat) (f : Nat → Option Nat) : (rdBox b u e).ren f = rdBox b u e := by
  simp only [rdBox, ent_ren_box, AV.ren, AV.renl, renl_bytes, Option.bind_none]
@[go_sem] theorem RdBox_ren (b : List UInt8) (u e : Nat) (f : Nat → Option Nat) : (RdBox b u e).ren f = RdBox b u e := by
  simp only [RdBox, ent_ren_box, AV.ren, AV.renl, renl_bytes, Option.bind_none]
/-- A number is read: the number, how many bytes are used then, the error. -/
def numR (b : List UInt8) (u : Nat) : Nat × Nat × Nat := ((rdS (b.drop u)).1, u + (rdS (b.drop u)).2.1, (rdS (b.drop u)).2.2)
def fldR (b : List UInt8) (u : Nat) : List UInt8 × Nat × Nat := ((rdF (b.drop u)).1, u + (rdF (b.drop u)).2.1, (rdF (b.drop u)).2.2)
theorem rdF_le (b : List UInt8) : (rdF b).2.1 ≤ b.length := by
  have := rdS_le b
  unfold rdF
  split
  · simp
  split
  · simp
  split
  · simp
  · simp only; omega
theorem numR_le {b : List UInt8} {u : Nat} (h : u ≤ b.length) : (numR b u).2.1 ≤ b.length := by
  have := rdS_le (b.drop u)
  rw [List.length_drop] at this
  unfold numR
  simp only
  omega
/-- Bytes as a number, the greatest first. -/
def be8 (l : List UInt8) : Nat := l.foldl (fun m x => 256 * m + x.toNat) 0
theorem be8_snoc (l : List UInt8) (x : UInt8) : be8 (l ++ [x]) = 256 * be8 l + x.toNat := by simp [be8]
theorem be8_lt (l : List UInt8) : be8 l < 256 ^ l.length := by
  have key : ∀ (r : List UInt8) (m j : Nat), m < 256 ^ j → r.foldl (fun m x => 256 * m + x.toNat) m < 256 ^ (j + r.length) := by
    intro r
    induction r with
    | nil => intro m j h; simpa using h
    | cons x r ih =>
      intro m j h
      have hx := x.toNat_lt
      have := ih (256 * m + x.toNat) (j + 1) (by rw [Nat.pow_succ]; omega)
      rw [List.foldl_cons, List.length_cons]
      rw [show j + (r.length + 1) = j + 1 + r.length from by omega]
      exact this
  have := key l 0 0 (by simp)
  simpa [be8] using this
theorem be8_take {L : List UInt8} {i : Nat} (h : i < L.length) : be8 (L.take (i + 1)) = 256 * be8 (L.take i) + L[i].toNat := by
  rw [List.take_add_one, List.getElem?_eq_getElem h]
  exact be8_snoc _ _
theorem be8_bound {L : List UInt8} {i : Nat} (h : L.length = 8) (hi : i ≤ 8) : be8 (L.take i) < 18446744073709551616 ∧ (i < 8 → be8 (L.take i) < 72057594037927936) := by
  have h1 := be8_lt (L.take i)
  rw [List.length_take, Nat.min_eq_left (by omega)] at h1
  have h2 : 256 ^ i ≤ 256 ^ 8 := Nat.pow_le_pow_right (by decide) hi
  refine ⟨by omega, fun h3 => ?_⟩
  have h4 : 256 ^ i ≤ 256 ^ 7 := Nat.pow_le_pow_right (by decide) (by omega)
  omega
end Go.Proofs.YtemmlldpmgfblaaGreatDoor

/- Predicates: readers, as specified. -/
namespace Go.Proofs.YtemmlldpmgfblaaGreatDoor
open Go.Ab
attribute [local irreducible] Go.Ab.tyAV Go.Ab.aw Go.Ab.aops Go.Ab.kReg Go.Ab.aThen Go.Ab.aBlk Go.Ab.acond Go.Ab.aguard Go.Ab.astep Go.Ab.AStepX Go.Ab.aRet

theorem rnum_off (b : List UInt8) (u e : Nat) (he : e ≠ 0) (d k : Nat) :
    ACall Tryz.prog 221 [.ptr d [] 0] k [(d, rdBox b u e)] (.lit (.int .i64 0)) [(d, rdBox b u e)] := by
  have he' : ((e : Int) == 0) = false := by rw [beq_eq_false_iff_ne]; omega
  simp only [rdBox]
  refine Bd Tryz.func221 Tryz.ntmps221 fun σ N hp hpn hk hkn hfree => ?_
  obtain ⟨hd, hdn⟩ := HD0 hp hpn; clear hp hpn
  refine Wk ?_
  exact RW (d) (.box 273 (.agg [.slice none (b.map byteAV), .lit (.int .i64 (u : Int)), .lit (.int .i64 (e : Int))]))
theorem rname_spec (b : List UInt8) (u : Nat) (hu : u ≤ b.length) (hb : b.length ≤ 1000000) (d k : Nat) :
    ACall Tryz.prog 223 [.ptr d [] 0] k [(d, rdBox b u 0)] (.lit (.string ⟨(fldR b u).1.toArray⟩)) [(d, rdBox b (fldR b u).2.1 (fldR b u).2.2)] := by
  have c1 := fieldRead_spec (b.drop u) (by rw [List.length_drop]; omega)
  have hl := rdF_le (b.drop u)
  rw [List.length_drop] at hl
  have hd1 : (b.map byteAV).drop u = (b.drop u).map byteAV := by rw [List.map_drop]
  unfold fldR
  generalize rdF (b.drop u) = R at *
  obtain ⟨n, q, e⟩ := R
  simp only [rdFAV] at *
  generalize b.drop u = t at *
  simp only [rdBox]
  refine Bd Tryz.func223 Tryz.ntmps223 fun σ N hp hpn hk hkn hfree => ?_
  obtain ⟨hd, hdn⟩ := HD0 hp hpn; clear hp hpn
  have hcs := And.intro c1 True.intro
  clear c1
  refine Wk ?_
  exact RW (d) (.box 273 (.agg [.slice none (b.map byteAV), .lit (.int .i64 ((u : Int) + (q : Int))), .lit (.int .i64 (e : Int))]))

theorem RFail0 (b : List UInt8) (u : Nat) (e : Int) (d k : Nat) :
    ACall Tryz.prog 95 [.ptr d [] 0, .lit (.int .i64 e)] k [(d, RdBox b u 0)] (.tup []) [(d, .box 169 (.agg [.slice none (b.map byteAV), .lit (.int .i64 u), .lit (.int .i64 e)]))] := by
  simp only [RdBox]
  refine Bd Tryz.func95 Tryz.ntmps95 fun σ N hp hpn hk hkn hfree => ?_
  obtain ⟨hd, hdn⟩ := HD0 hp hpn; clear hp hpn
  refine Wk ?_
  refine go_fall ?_
  exact RW (d) (.box 169 (.agg [.slice none (b.map byteAV), .lit (.int .i64 (u : Int)), .lit (.int .i64 e)]))
theorem RNum_spec (b : List UInt8) (u : Nat) (hu : u ≤ b.length) (hb : b.length ≤ 1000000) (d k : Nat) :
    ACall Tryz.prog 94 [.ptr d [] 0] k [(d, RdBox b u 0)] (.lit (.int .i64 (numR b u).1)) [(d, RdBox b (numR b u).2.1 (numR b u).2.2)] := by
  have c1 := refRead_spec (b.drop u) (by rw [List.length_drop]; omega)
  have hl := rdS_le (b.drop u)
  rw [List.length_drop] at hl
  have hd1 : (b.map byteAV).drop u = (b.drop u).map byteAV := by rw [List.map_drop]
  unfold numR
  generalize rdS (b.drop u) = R at *
  obtain ⟨n, q, e⟩ := R
  simp only [rdAV] at *
  generalize b.drop u = t at *
  have c2 := RFail0 b u e d
  simp only [RdBox] at *
  refine Bd Tryz.func94 Tryz.ntmps94 fun σ N hp hpn hk hkn hfree => ?_
  obtain ⟨hd, hdn⟩ := HD0 hp hpn; clear hp hpn
  have hcs := And.intro c1 (And.intro c2 True.intro)
  clear c1 c2
  refine Wk ?_
  exact RW (d) (.box 169 (.agg [.slice none (b.map byteAV), .lit (.int .i64 ((u : Int) + (q : Int))), .lit (.int .i64 (e : Int))]))
theorem RNum_off (b : List UInt8) (u e : Nat) (he : e ≠ 0) (d k : Nat) :
    ACall Tryz.prog 94 [.ptr d [] 0] k [(d, RdBox b u e)] (.lit (.int .i64 0)) [(d, RdBox b u e)] := by
  have he' : ((e : Int) == 0) = false := by rw [beq_eq_false_iff_ne]; omega
  simp only [RdBox]
  refine Bd Tryz.func94 Tryz.ntmps94 fun σ N hp hpn hk hkn hfree => ?_
  obtain ⟨hd, hdn⟩ := HD0 hp hpn; clear hp hpn
  refine Wk ?_
  exact RW (d) (.box 169 (.agg [.slice none (b.map byteAV), .lit (.int .i64 (u : Int)), .lit (.int .i64 (e : Int))]))
end Go.Proofs.YtemmlldpmgfblaaGreatDoor

/- Predicates: Decode. -/
namespace Go.Proofs.YtemmlldpmgfblaaGreatDoor
open Go.Ab
attribute [local irreducible] Go.Ab.tyAV Go.Ab.aw Go.Ab.aops Go.Ab.kReg Go.Ab.aThen Go.Ab.aBlk Go.Ab.acond Go.Ab.aguard Go.Ab.astep Go.Ab.AStepX Go.Ab.aRet

attribute [go_sem] rdBox RdBox
end Go.Proofs.YtemmlldpmgfblaaGreatDoor

/- Predicates: the specified Decode. -/
namespace Go.Proofs.YtemmlldpmgfblaaGreatDoor
open Go.Ab
attribute [local irreducible] Go.Ab.tyAV Go.Ab.aw Go.Ab.aops Go.Ab.kReg Go.Ab.aThen Go.Ab.aBlk Go.Ab.acond Go.Ab.aguard Go.Ab.astep Go.Ab.AStepX Go.Ab.aRet

end Go.Proofs.YtemmlldpmgfblaaGreatDoor

/- Caveats: Decode, as specified. -/
namespace Go.Proofs.YtemmlldpmgfblaaGreatDoor
open Go.Ab
attribute [local irreducible] Go.Ab.tyAV Go.Ab.aw Go.Ab.aops Go.Ab.kReg Go.Ab.aThen Go.Ab.aBlk Go.Ab.acond Go.Ab.aguard Go.Ab.astep Go.Ab.AStepX Go.Ab.aRet

def crBox (b : List UInt8) (u e : Nat) : Ent := .box 270 (.agg [.agg [.slice none (b.map byteAV), .lit (.int .i64 u)], .lit (.int .i64 e)])
@[simp, go_sem] theorem crBox_ne (b : List UInt8) (u e : Nat) : (crBox b u e = .none) = False := by simp [crBox]
@[go_sem] theorem crBox_ren (b : List UInt8) (u e : Nat) (f : Nat → Option Nat) : (crBox b u e).ren f = crBox b u e := by
  simp only [crBox, ent_ren_box, AV.ren, AV.renl, renl_bytes, Option.bind_none]
attribute [go_sem high] crBox
end Go.Proofs.YtemmlldpmgfblaaGreatDoor

/- Caveats: the specified Decode. -/
namespace Go.Proofs.YtemmlldpmgfblaaGreatDoor
open Go.Ab
attribute [local irreducible] Go.Ab.tyAV Go.Ab.aw Go.Ab.aops Go.Ab.kReg Go.Ab.aThen Go.Ab.aBlk Go.Ab.acond Go.Ab.aguard Go.Ab.astep Go.Ab.AStepX Go.Ab.aRet

end Go.Proofs.YtemmlldpmgfblaaGreatDoor

/- The deck's mask, Upto; what exists. -/
namespace Go.Proofs.YtemmlldpmgfblaaGreatDoor
open Go.Ab
attribute [local irreducible] Go.Ab.tyAV Go.Ab.aw Go.Ab.aops Go.Ab.kReg Go.Ab.aThen Go.Ab.aBlk Go.Ab.acond Go.Ab.aguard Go.Ab.astep Go.Ab.AStepX Go.Ab.aRet

theorem u64_wrap_range (x : Int) : 0 ≤ IntKind.u64.wrap x ∧ IntKind.u64.wrap x < 18446744073709551616 := by
  have : IntKind.u64.wrap x = x % 18446744073709551616 := by simp [IntKind.wrap, IntKind.bits, IntKind.signed]
  rw [this]; omega
theorem u64_bits_range (op : BinOp) (a b : Int) : 0 ≤ bits op .u64 a b ∧ bits op .u64 a b < 18446744073709551616 := by
  unfold bits
  split <;> exact u64_wrap_range _
theorem u64_and32 (x : Int) (h0 : 0 ≤ x) (h1 : x < 18446744073709551616) : bits .and .u64 x 4294967295 = x % 4294967296 := bits_mask .u64 64 (by decide) (fun n a b => wrap_u64r a (by omega)) 32 (by decide) x h0 h1
theorem u64_and7 (x : Int) (h0 : 0 ≤ x) (h1 : x < 18446744073709551616) : bits .and .u64 x 127 = x % 128 := bits_mask .u64 64 (by decide) (fun n a b => wrap_u64r a (by omega)) 7 (by decide) x h0 h1

theorem Next_at (l : List Int) (i : Nat) (n : Nat) (h : Dk l i) (h0 : 0 < n) (hn : n ≤ 1000000000000000000) :
    ∃ x j : Nat, x < n ∧ Dk l j ∧ ∀ d k, ACall Tryz.prog 29 [.ptr d [] 0, .lit (.int .i64 n)] k [(d, deckBox l i)] (.lit (.int .i64 x)) [(d, deckBox l j)] := Next_ex l i n h h0 hn
theorem pow_lt (y n : Nat) (h : y < n) (hn : n ≤ 64) : ∃ p : Int, (2 : Int) ^ y = p ∧ 0 < p ∧ p < 2 ^ n := by
  refine ⟨_, rfl, Int.pow_pos (by omega), ?_⟩
  exact_mod_cast Nat.pow_lt_pow_right (by omega) h

set_option maxHeartbeats 4000000 in
theorem mask64_ex (l : List Int) (i : Nat) (h : Dk l i) :
    ∃ (m : Int) (j : Nat), 0 < m ∧ m < 2 ^ 64 ∧ Dk l j ∧ ∀ d k, ACall Tryz.prog 116 [.ptr d [] 0, .lit (.int .i64 64)] k [(d, deckBox l i)] (.lit (.int .u64 m)) [(d, deckBox l j)] := by
  obtain ⟨x, j1, x1, d1, c1⟩ := Next_at l i 3 h (by omega) (by omega)
  have hx : x = 0 ∨ x = 1 ∨ x = 2 := by omega
  rcases hx with rfl | rfl | rfl
  · obtain ⟨a, j2, a1, d2, c2⟩ := Next_at l j1 16 d1 (by omega) (by omega)
    obtain ⟨v, hv⟩ : ∃ v : Int, (a : Int) = v := ⟨_, rfl⟩
    have v0 : 0 ≤ v := by omega
    have v1 : v < 18446744073709551616 := by omega
    have hvw : IntKind.u64.wrap v = v := wrap_u64r v0 (by omega)
    by_cases hz : v = 0
    · obtain ⟨y, j9, y1, d9, c9⟩ := Next_at l j2 64 d2 (by omega) (by omega)
      obtain ⟨p, hp1, hp2, hp3⟩ := pow_lt y 64 y1 (by omega)
      have hmn : min y 64 = y := by omega
      refine ⟨p, j9, hp2, hp3, d9, fun d k => ?_⟩
      have hpw : IntKind.u64.wrap p = p := wrap_u64r (by omega) (by simp at hp3; omega)
      have hyw : IntKind.u64.wrap (y : Int) = y := wrap_u64r (by omega) (by omega)
      have hzb : (v == 0) = true := by simp [hz]
      refine Bd Tryz.func116 Tryz.ntmps116 fun σ N hp hpn hk hkn hfree => ?_
      obtain ⟨hd, hdn⟩ := HD0 hp hpn; clear hp hpn
      have hcs := And.intro (c1 d) (And.intro (c2 d) (And.intro (c9 d) True.intro))
      clear c1 c2 c9
      refine Wk ?_
      exact RW (d) (deckBox l j9)
    · have hzb : (v == 0) = false := by simp [hz]
      refine ⟨v, j2, by omega, by simp; omega, d2, fun d k => ?_⟩
      refine Bd Tryz.func116 Tryz.ntmps116 fun σ N hp hpn hk hkn hfree => ?_
      obtain ⟨hd, hdn⟩ := HD0 hp hpn; clear hp hpn
      have hcs := And.intro (c1 d) (And.intro (c2 d) True.intro)
      clear c1 c2
      refine Wk ?_
      exact RW (d) (deckBox l j2)
  · obtain ⟨a, j2, a1, d2, c2⟩ := Next_at l j1 65536 d1 (by omega) (by omega)
    obtain ⟨b, j3, b1, d3, c3⟩ := Next_at l j2 65536 d2 (by omega) (by omega)
    obtain ⟨v, hv⟩ : ∃ v : Int, bits .or .u64 (a : Int) ((b : Int) * 281474976710656) = v := ⟨_, rfl⟩
    obtain ⟨v0, v1⟩ := u64_bits_range .or (a : Int) ((b : Int) * 281474976710656)
    rw [hv] at v0 v1
    have haw : IntKind.u64.wrap (a : Int) = a := wrap_u64r (by omega) (by omega)
    have hbw : IntKind.u64.wrap (b : Int) = b := wrap_u64r (by omega) (by omega)
    have hbs : IntKind.u64.wrap ((b : Int) * 281474976710656) = (b : Int) * 281474976710656 := wrap_u64r (by omega) (by omega)
    by_cases hz : v = 0
    · obtain ⟨y, j9, y1, d9, c9⟩ := Next_at l j3 64 d3 (by omega) (by omega)
      obtain ⟨p, hp1, hp2, hp3⟩ := pow_lt y 64 y1 (by omega)
      have hmn : min y 64 = y := by omega
      refine ⟨p, j9, hp2, hp3, d9, fun d k => ?_⟩
      have hpw : IntKind.u64.wrap p = p := wrap_u64r (by omega) (by simp at hp3; omega)
      have hyw : IntKind.u64.wrap (y : Int) = y := wrap_u64r (by omega) (by omega)
      have hzb : (v == 0) = true := by simp [hz]
      refine Bd Tryz.func116 Tryz.ntmps116 fun σ N hp hpn hk hkn hfree => ?_
      obtain ⟨hd, hdn⟩ := HD0 hp hpn; clear hp hpn
      have hcs := And.intro (c1 d) (And.intro (c2 d) (And.intro (c3 d) (And.intro (c9 d) True.intro)))
      clear c1 c2 c3 c9
      refine Wk ?_
      exact RW (d) (deckBox l j9)
    · have hzb : (v == 0) = false := by simp [hz]
      refine ⟨v, j3, by omega, by simp; omega, d3, fun d k => ?_⟩
      refine Bd Tryz.func116 Tryz.ntmps116 fun σ N hp hpn hk hkn hfree => ?_
      obtain ⟨hd, hdn⟩ := HD0 hp hpn; clear hp hpn
      have hcs := And.intro (c1 d) (And.intro (c2 d) (And.intro (c3 d) True.intro))
      clear c1 c2 c3
      refine Wk ?_
      exact RW (d) (deckBox l j3)
  · obtain ⟨a, j2, a1, d2, c2⟩ := Next_at l j1 65536 d1 (by omega) (by omega)
    obtain ⟨v, hv⟩ : ∃ v : Int, bits .xor .u64 18446744073709551615 (a : Int) = v := ⟨_, rfl⟩
    obtain ⟨v0, v1⟩ := u64_bits_range .xor 18446744073709551615 (a : Int)
    rw [hv] at v0 v1
    have haw : IntKind.u64.wrap (a : Int) = a := wrap_u64r (by omega) (by omega)
    have hsx : (if IntKind.u64.signed = true then (-1 : Int) else IntKind.u64.max) = 18446744073709551615 := by decide
    by_cases hz : v = 0
    · obtain ⟨y, j9, y1, d9, c9⟩ := Next_at l j2 64 d2 (by omega) (by omega)
      obtain ⟨p, hp1, hp2, hp3⟩ := pow_lt y 64 y1 (by omega)
      have hmn : min y 64 = y := by omega
      refine ⟨p, j9, hp2, hp3, d9, fun d k => ?_⟩
      have hpw : IntKind.u64.wrap p = p := wrap_u64r (by omega) (by simp at hp3; omega)
      have hyw : IntKind.u64.wrap (y : Int) = y := wrap_u64r (by omega) (by omega)
      have hzb : (v == 0) = true := by simp [hz]
      refine Bd Tryz.func116 Tryz.ntmps116 fun σ N hp hpn hk hkn hfree => ?_
      obtain ⟨hd, hdn⟩ := HD0 hp hpn; clear hp hpn
      have hcs := And.intro (c1 d) (And.intro (c2 d) (And.intro (c9 d) True.intro))
      clear c1 c2 c9
      refine Wk ?_
      exact RW (d) (deckBox l j9)
    · have hzb : (v == 0) = false := by simp [hz]
      refine ⟨v, j2, by omega, by simp; omega, d2, fun d k => ?_⟩
      refine Bd Tryz.func116 Tryz.ntmps116 fun σ N hp hpn hk hkn hfree => ?_
      obtain ⟨hd, hdn⟩ := HD0 hp hpn; clear hp hpn
      have hcs := And.intro (c1 d) (And.intro (c2 d) True.intro)
      clear c1 c2
      refine Wk ?_
      exact RW (d) (deckBox l j2)

set_option maxHeartbeats 4000000 in
theorem mask32_ex (l : List Int) (i : Nat) (h : Dk l i) :
    ∃ (m : Int) (j : Nat), 0 < m ∧ m < 2 ^ 32 ∧ Dk l j ∧ ∀ d k, ACall Tryz.prog 116 [.ptr d [] 0, .lit (.int .i64 32)] k [(d, deckBox l i)] (.lit (.int .u64 m)) [(d, deckBox l j)] := by
  obtain ⟨x, j1, x1, d1, c1⟩ := Next_at l i 3 h (by omega) (by omega)
  have hx : x = 0 ∨ x = 1 ∨ x = 2 := by omega
  rcases hx with rfl | rfl | rfl
  · obtain ⟨a, j2, a1, d2, c2⟩ := Next_at l j1 16 d1 (by omega) (by omega)
    obtain ⟨v, hv⟩ : ∃ v : Int, (a : Int) = v := ⟨_, rfl⟩
    have v0 : 0 ≤ v := by omega
    have v1 : v < 18446744073709551616 := by omega
    have hvw : IntKind.u64.wrap v = v := wrap_u64r v0 (by omega)
    have ha := u64_and32 v v0 v1
    obtain ⟨w, hw⟩ : ∃ w, v % 4294967296 = w := ⟨_, rfl⟩
    have w0 : 0 ≤ w := by omega
    have w1 : w < 4294967296 := by omega
    rw [hw] at ha
    by_cases hz : w = 0
    · obtain ⟨y, j9, y1, d9, c9⟩ := Next_at l j2 32 d2 (by omega) (by omega)
      obtain ⟨p, hp1, hp2, hp3⟩ := pow_lt y 32 y1 (by omega)
      have hmn : min y 64 = y := by omega
      refine ⟨p, j9, hp2, hp3, d9, fun d k => ?_⟩
      have hpw : IntKind.u64.wrap p = p := wrap_u64r (by omega) (by simp at hp3; omega)
      have hyw : IntKind.u64.wrap (y : Int) = y := wrap_u64r (by omega) (by omega)
      have hzb : (w == 0) = true := by simp [hz]
      refine Bd Tryz.func116 Tryz.ntmps116 fun σ N hp hpn hk hkn hfree => ?_
      obtain ⟨hd, hdn⟩ := HD0 hp hpn; clear hp hpn
      have hcs := And.intro (c1 d) (And.intro (c2 d) (And.intro (c9 d) True.intro))
      clear c1 c2 c9
      refine Wk ?_
      exact RW (d) (deckBox l j9)
    · have hzb : (w == 0) = false := by simp [hz]
      refine ⟨w, j2, by omega, by simp; omega, d2, fun d k => ?_⟩
      refine Bd Tryz.func116 Tryz.ntmps116 fun σ N hp hpn hk hkn hfree => ?_
      obtain ⟨hd, hdn⟩ := HD0 hp hpn; clear hp hpn
      have hcs := And.intro (c1 d) (And.intro (c2 d) True.intro)
      clear c1 c2
      refine Wk ?_
      exact RW (d) (deckBox l j2)
  · obtain ⟨a, j2, a1, d2, c2⟩ := Next_at l j1 65536 d1 (by omega) (by omega)
    obtain ⟨b, j3, b1, d3, c3⟩ := Next_at l j2 65536 d2 (by omega) (by omega)
    obtain ⟨v, hv⟩ : ∃ v : Int, bits .or .u64 (a : Int) ((b : Int) * 281474976710656) = v := ⟨_, rfl⟩
    obtain ⟨v0, v1⟩ := u64_bits_range .or (a : Int) ((b : Int) * 281474976710656)
    rw [hv] at v0 v1
    have haw : IntKind.u64.wrap (a : Int) = a := wrap_u64r (by omega) (by omega)
    have hbw : IntKind.u64.wrap (b : Int) = b := wrap_u64r (by omega) (by omega)
    have hbs : IntKind.u64.wrap ((b : Int) * 281474976710656) = (b : Int) * 281474976710656 := wrap_u64r (by omega) (by omega)
    have ha := u64_and32 v v0 v1
    obtain ⟨w, hw⟩ : ∃ w, v % 4294967296 = w := ⟨_, rfl⟩
    have w0 : 0 ≤ w := by omega
    have w1 : w < 4294967296 := by omega
    rw [hw] at ha
    by_cases hz : w = 0
    · obtain ⟨y, j9, y1, d9, c9⟩ := Next_at l j3 32 d3 (by omega) (by omega)
      obtain ⟨p, hp1, hp2, hp3⟩ := pow_lt y 32 y1 (by omega)
      have hmn : min y 64 = y := by omega
      refine ⟨p, j9, hp2, hp3, d9, fun d k => ?_⟩
      have hpw : IntKind.u64.wrap p = p := wrap_u64r (by omega) (by simp at hp3; omega)
      have hyw : IntKind.u64.wrap (y : Int) = y := wrap_u64r (by omega) (by omega)
      have hzb : (w == 0) = true := by simp [hz]
      refine Bd Tryz.func116 Tryz.ntmps116 fun σ N hp hpn hk hkn hfree => ?_
      obtain ⟨hd, hdn⟩ := HD0 hp hpn; clear hp hpn
      have hcs := And.intro (c1 d) (And.intro (c2 d) (And.intro (c3 d) (And.intro (c9 d) True.intro)))
      clear c1 c2 c3 c9
      refine Wk ?_
      exact RW (d) (deckBox l j9)
    · have hzb : (w == 0) = false := by simp [hz]
      refine ⟨w, j3, by omega, by simp; omega, d3, fun d k => ?_⟩
      refine Bd Tryz.func116 Tryz.ntmps116 fun σ N hp hpn hk hkn hfree => ?_
      obtain ⟨hd, hdn⟩ := HD0 hp hpn; clear hp hpn
      have hcs := And.intro (c1 d) (And.intro (c2 d) (And.intro (c3 d) True.intro))
      clear c1 c2 c3
      refine Wk ?_
      exact RW (d) (deckBox l j3)
  · obtain ⟨a, j2, a1, d2, c2⟩ := Next_at l j1 65536 d1 (by omega) (by omega)
    obtain ⟨v, hv⟩ : ∃ v : Int, bits .xor .u64 18446744073709551615 (a : Int) = v := ⟨_, rfl⟩
    obtain ⟨v0, v1⟩ := u64_bits_range .xor 18446744073709551615 (a : Int)
    rw [hv] at v0 v1
    have haw : IntKind.u64.wrap (a : Int) = a := wrap_u64r (by omega) (by omega)
    have hsx : (if IntKind.u64.signed = true then (-1 : Int) else IntKind.u64.max) = 18446744073709551615 := by decide
    have ha := u64_and32 v v0 v1
    obtain ⟨w, hw⟩ : ∃ w, v % 4294967296 = w := ⟨_, rfl⟩
    have w0 : 0 ≤ w := by omega
    have w1 : w < 4294967296 := by omega
    rw [hw] at ha
    by_cases hz : w = 0
    · obtain ⟨y, j9, y1, d9, c9⟩ := Next_at l j2 32 d2 (by omega) (by omega)
      obtain ⟨p, hp1, hp2, hp3⟩ := pow_lt y 32 y1 (by omega)
      have hmn : min y 64 = y := by omega
      refine ⟨p, j9, hp2, hp3, d9, fun d k => ?_⟩
      have hpw : IntKind.u64.wrap p = p := wrap_u64r (by omega) (by simp at hp3; omega)
      have hyw : IntKind.u64.wrap (y : Int) = y := wrap_u64r (by omega) (by omega)
      have hzb : (w == 0) = true := by simp [hz]
      refine Bd Tryz.func116 Tryz.ntmps116 fun σ N hp hpn hk hkn hfree => ?_
      obtain ⟨hd, hdn⟩ := HD0 hp hpn; clear hp hpn
      have hcs := And.intro (c1 d) (And.intro (c2 d) (And.intro (c9 d) True.intro))
      clear c1 c2 c9
      refine Wk ?_
      exact RW (d) (deckBox l j9)
    · have hzb : (w == 0) = false := by simp [hz]
      refine ⟨w, j2, by omega, by simp; omega, d2, fun d k => ?_⟩
      refine Bd Tryz.func116 Tryz.ntmps116 fun σ N hp hpn hk hkn hfree => ?_
      obtain ⟨hd, hdn⟩ := HD0 hp hpn; clear hp hpn
      have hcs := And.intro (c1 d) (And.intro (c2 d) True.intro)
      clear c1 c2
      refine Wk ?_
      exact RW (d) (deckBox l j2)

set_option maxHeartbeats 4000000 in
theorem mask7_ex (l : List Int) (i : Nat) (h : Dk l i) :
    ∃ (m : Int) (j : Nat), 0 < m ∧ m < 2 ^ 7 ∧ Dk l j ∧ ∀ d k, ACall Tryz.prog 116 [.ptr d [] 0, .lit (.int .i64 7)] k [(d, deckBox l i)] (.lit (.int .u64 m)) [(d, deckBox l j)] := by
  obtain ⟨x, j1, x1, d1, c1⟩ := Next_at l i 3 h (by omega) (by omega)
  have hx : x = 0 ∨ x = 1 ∨ x = 2 := by omega
  rcases hx with rfl | rfl | rfl
  · obtain ⟨a, j2, a1, d2, c2⟩ := Next_at l j1 16 d1 (by omega) (by omega)
    obtain ⟨v, hv⟩ : ∃ v : Int, (a : Int) = v := ⟨_, rfl⟩
    have v0 : 0 ≤ v := by omega
    have v1 : v < 18446744073709551616 := by omega
    have hvw : IntKind.u64.wrap v = v := wrap_u64r v0 (by omega)
    have ha := u64_and7 v v0 v1
    obtain ⟨w, hw⟩ : ∃ w, v % 128 = w := ⟨_, rfl⟩
    have w0 : 0 ≤ w := by omega
    have w1 : w < 128 := by omega
    rw [hw] at ha
    by_cases hz : w = 0
    · obtain ⟨y, j9, y1, d9, c9⟩ := Next_at l j2 7 d2 (by omega) (by omega)
      obtain ⟨p, hp1, hp2, hp3⟩ := pow_lt y 7 y1 (by omega)
      have hmn : min y 64 = y := by omega
      refine ⟨p, j9, hp2, hp3, d9, fun d k => ?_⟩
      have hpw : IntKind.u64.wrap p = p := wrap_u64r (by omega) (by simp at hp3; omega)
      have hyw : IntKind.u64.wrap (y : Int) = y := wrap_u64r (by omega) (by omega)
      have hzb : (w == 0) = true := by simp [hz]
      refine Bd Tryz.func116 Tryz.ntmps116 fun σ N hp hpn hk hkn hfree => ?_
      obtain ⟨hd, hdn⟩ := HD0 hp hpn; clear hp hpn
      have hcs := And.intro (c1 d) (And.intro (c2 d) (And.intro (c9 d) True.intro))
      clear c1 c2 c9
      refine Wk ?_
      exact RW (d) (deckBox l j9)
    · have hzb : (w == 0) = false := by simp [hz]
      refine ⟨w, j2, by omega, by simp; omega, d2, fun d k => ?_⟩
      refine Bd Tryz.func116 Tryz.ntmps116 fun σ N hp hpn hk hkn hfree => ?_
      obtain ⟨hd, hdn⟩ := HD0 hp hpn; clear hp hpn
      have hcs := And.intro (c1 d) (And.intro (c2 d) True.intro)
      clear c1 c2
      refine Wk ?_
      exact RW (d) (deckBox l j2)
  · obtain ⟨a, j2, a1, d2, c2⟩ := Next_at l j1 65536 d1 (by omega) (by omega)
    obtain ⟨b, j3, b1, d3, c3⟩ := Next_at l j2 65536 d2 (by omega) (by omega)
    obtain ⟨v, hv⟩ : ∃ v : Int, bits .or .u64 (a : Int) ((b : Int) * 281474976710656) = v := ⟨_, rfl⟩
    obtain ⟨v0, v1⟩ := u64_bits_range .or (a : Int) ((b : Int) * 281474976710656)
    rw [hv] at v0 v1
    have haw : IntKind.u64.wrap (a : Int) = a := wrap_u64r (by omega) (by omega)
    have hbw : IntKind.u64.wrap (b : Int) = b := wrap_u64r (by omega) (by omega)
    have hbs : IntKind.u64.wrap ((b : Int) * 281474976710656) = (b : Int) * 281474976710656 := wrap_u64r (by omega) (by omega)
    have ha := u64_and7 v v0 v1
    obtain ⟨w, hw⟩ : ∃ w, v % 128 = w := ⟨_, rfl⟩
    have w0 : 0 ≤ w := by omega
    have w1 : w < 128 := by omega
    rw [hw] at ha
    by_cases hz : w = 0
    · obtain ⟨y, j9, y1, d9, c9⟩ := Next_at l j3 7 d3 (by omega) (by omega)
      obtain ⟨p, hp1, hp2, hp3⟩ := pow_lt y 7 y1 (by omega)
      have hmn : min y 64 = y := by omega
      refine ⟨p, j9, hp2, hp3, d9, fun d k => ?_⟩
      have hpw : IntKind.u64.wrap p = p := wrap_u64r (by omega) (by simp at hp3; omega)
      have hyw : IntKind.u64.wrap (y : Int) = y := wrap_u64r (by omega) (by omega)
      have hzb : (w == 0) = true := by simp [hz]
      refine Bd Tryz.func116 Tryz.ntmps116 fun σ N hp hpn hk hkn hfree => ?_
      obtain ⟨hd, hdn⟩ := HD0 hp hpn; clear hp hpn
      have hcs := And.intro (c1 d) (And.intro (c2 d) (And.intro (c3 d) (And.intro (c9 d) True.intro)))
      clear c1 c2 c3 c9
      refine Wk ?_
      exact RW (d) (deckBox l j9)
    · have hzb : (w == 0) = false := by simp [hz]
      refine ⟨w, j3, by omega, by simp; omega, d3, fun d k => ?_⟩
      refine Bd Tryz.func116 Tryz.ntmps116 fun σ N hp hpn hk hkn hfree => ?_
      obtain ⟨hd, hdn⟩ := HD0 hp hpn; clear hp hpn
      have hcs := And.intro (c1 d) (And.intro (c2 d) (And.intro (c3 d) True.intro))
      clear c1 c2 c3
      refine Wk ?_
      exact RW (d) (deckBox l j3)
  · obtain ⟨a, j2, a1, d2, c2⟩ := Next_at l j1 65536 d1 (by omega) (by omega)
    obtain ⟨v, hv⟩ : ∃ v : Int, bits .xor .u64 18446744073709551615 (a : Int) = v := ⟨_, rfl⟩
    obtain ⟨v0, v1⟩ := u64_bits_range .xor 18446744073709551615 (a : Int)
    rw [hv] at v0 v1
    have haw : IntKind.u64.wrap (a : Int) = a := wrap_u64r (by omega) (by omega)
    have hsx : (if IntKind.u64.signed = true then (-1 : Int) else IntKind.u64.max) = 18446744073709551615 := by decide
    have ha := u64_and7 v v0 v1
    obtain ⟨w, hw⟩ : ∃ w, v % 128 = w := ⟨_, rfl⟩
    have w0 : 0 ≤ w := by omega
    have w1 : w < 128 := by omega
    rw [hw] at ha
    by_cases hz : w = 0
    · obtain ⟨y, j9, y1, d9, c9⟩ := Next_at l j2 7 d2 (by omega) (by omega)
      obtain ⟨p, hp1, hp2, hp3⟩ := pow_lt y 7 y1 (by omega)
      have hmn : min y 64 = y := by omega
      refine ⟨p, j9, hp2, hp3, d9, fun d k => ?_⟩
      have hpw : IntKind.u64.wrap p = p := wrap_u64r (by omega) (by simp at hp3; omega)
      have hyw : IntKind.u64.wrap (y : Int) = y := wrap_u64r (by omega) (by omega)
      have hzb : (w == 0) = true := by simp [hz]
      refine Bd Tryz.func116 Tryz.ntmps116 fun σ N hp hpn hk hkn hfree => ?_
      obtain ⟨hd, hdn⟩ := HD0 hp hpn; clear hp hpn
      have hcs := And.intro (c1 d) (And.intro (c2 d) (And.intro (c9 d) True.intro))
      clear c1 c2 c9
      refine Wk ?_
      exact RW (d) (deckBox l j9)
    · have hzb : (w == 0) = false := by simp [hz]
      refine ⟨w, j2, by omega, by simp; omega, d2, fun d k => ?_⟩
      refine Bd Tryz.func116 Tryz.ntmps116 fun σ N hp hpn hk hkn hfree => ?_
      obtain ⟨hd, hdn⟩ := HD0 hp hpn; clear hp hpn
      have hcs := And.intro (c1 d) (And.intro (c2 d) True.intro)
      clear c1 c2
      refine Wk ?_
      exact RW (d) (deckBox l j2)
end Go.Proofs.YtemmlldpmgfblaaGreatDoor
