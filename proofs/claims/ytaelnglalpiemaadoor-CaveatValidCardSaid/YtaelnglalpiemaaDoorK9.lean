/- Caveats: Encode, as specified. -/
import Derived.Test.YtaelnglalpiemaaDoorK8
namespace Go.Proofs.YtaelnglalpiemaaDoor
open Go.Ab
attribute [local irreducible] Go.Ab.tyAV Go.Ab.aw Go.Ab.aops Go.Ab.kReg Go.Ab.aThen Go.Ab.aBlk Go.Ab.acond Go.Ab.aguard Go.Ab.astep Go.Ab.AStepX Go.Ab.aRet

def encC (c : Ca) : List UInt8 := if c.third = false then 1 :: encP c.first else 2 :: (leb c.party.toNat ++ (fieldB c.ticket ++ fieldB c.box))
/-- The valid caveats. -/
inductive CV : Ca → Prop where
  | first (p : Pr) (hp : predB p = true) : CV ⟨false, p, 0, [], []⟩
  | third (n : Nat) (hn : n ≤ 7) (t b : List UInt8) (ht : 1 ≤ t.length ∧ t.length ≤ 1024) (hb : 1 ≤ b.length ∧ b.length ≤ 1024) : CV ⟨true, zeroPr, n, t, b⟩
theorem sizedB_iff {b : List UInt8} : sizedB b = true ↔ 1 ≤ b.length ∧ b.length ≤ 1024 := by unfold sizedB; simp
theorem CV.of {c : Ca} (h : cavB c = true) : CV c := by
  obtain ⟨th, p, n, t, b⟩ := c
  unfold cavB at h
  simp only at h
  split at h
  · rename_i e; subst e
    simp only [Bool.and_eq_true, decide_eq_true_eq, List.length_eq_zero_iff] at h
    obtain ⟨h1, h2, h3, h4⟩ := h
    subst h2 h3 h4
    exact .first p h1
  · rename_i e
    obtain rfl : th = true := by cases th <;> simp_all
    simp only [Bool.and_eq_true, decide_eq_true_eq, sizedB_iff] at h
    obtain ⟨h1, h2, h3, h4, h5⟩ := h
    subst h1
    obtain ⟨m, rfl⟩ := Int.eq_ofNat_of_zero_le h2
    exact .third m (by omega) t b h4 h5
theorem CV.ok {c : Ca} (h : CV c) : cavB c = true := by
  cases h with
  | first p hp => simp [cavB, hp]
  | third n hn t b ht hb =>
    simp [cavB, sizedB_iff.2 ht, sizedB_iff.2 hb, hn]
    omega
theorem encP_len (p : Pr) (h : predB p = true) : 1 ≤ (encP p).length ∧ (encP p).length ≤ 40 := by
  cases PV.of h with
  | mask kn m hk hm =>
    rw [encP_mask (by omega), List.length_append, eightB_len]
    have := leb_len kn 1 (by omega)
    omega
  | span kn f t hk =>
    rw [encP_span (by omega), List.length_append, List.length_append]
    have := leb_len kn 1 (by omega)
    have := leb_len f 5 (by omega)
    have := leb_len t 5 (by omega)
    have := leb_pos kn
    omega
  | holder n hn =>
    have := leb_len n.length 1 (by have := nameB_len hn; omega)
    have := leb_len 6 1 (by omega)
    have := nameB_len hn
    have := leb_pos 6
    rw [encP_holder, List.length_append, fieldB, List.length_append]
    omega
  | rides x hx =>
    have := leb_len x 5 (by omega)
    have := leb_len 7 1 (by omega)
    have := leb_pos 7
    rw [encP_rides, List.length_append]
    omega
theorem encC_len (c : Ca) (h : cavB c = true) : 1 ≤ (encC c).length ∧ (encC c).length ≤ 3000 := by
  cases CV.of h with
  | first p hp =>
    have := encP_len p hp
    simp only [encC, if_true, List.length_cons]
    omega
  | third n hn t b ht hb =>
    have := leb_len n 7 (by omega)
    have := leb_len t.length 7 (by omega)
    have := leb_len b.length 7 (by omega)
    simp only [encC, Bool.true_eq_false, if_false, List.length_cons, List.length_append, fieldB, Int.toNat_natCast]
    omega

theorem cEnc_bad (c : Ca) (hp0 : PrOk c.first) (h : cavB c = false) (d k : Nat) :
    ACall Tryd.prog 46 [caAV c] k [(d, bitsG)] (.tup [.nils, .lit (.int .i64 5)]) [] := by
  have c1 := cavValid_spec c hp0 d
  rw [h] at c1
  refine ACall.of_body mixed Tryd.func46 rfl (by kernel_rfl) Tryd.ntmps46 (by kernel_rfl) rfl (by simp) (by simp) (by simp) fun σ N hp hpn hk hkn hfree => ?_
  have hd := hp _ (List.mem_singleton.2 rfl); have hdn := hpn _ (List.mem_singleton.2 rfl); simp only at hd hdn; clear hp hpn
  have hcs := And.intro c1 True.intro
  clear c1
  exact W0
theorem rEnc_bad (c : Ca) (hp0 : PrOk c.first) (h : cavB c = false) (k : Nat) :
    ACall Tryd.prog 47 [caAV c] k [] (.tup [.nils, .lit (.int .i64 5)]) [] := by
  have c1 := refCav_spec c hp0
  rw [h] at c1
  refine ACall.of_body mixed Tryd.func47 rfl (by kernel_rfl) Tryd.ntmps47 (by kernel_rfl) rfl (by simp) (by simp) (by simp) fun σ N hp hpn hk hkn hfree => ?_
  have hcs := And.intro c1 True.intro
  clear c1
  exact W0
theorem cEnc_first (p : Pr) (hp0 : PrOk p) (h : predB p = true) (d k : Nat) :
    ACall Tryd.prog 46 [caAV ⟨false, p, 0, [], []⟩] k [(d, bitsG)] (.tup [.slice none ((1 :: encP p).map byteAV), .lit (.int .i64 0)]) [] := by
  have c1 := cavValid_spec ⟨false, p, 0, [], []⟩ hp0 d
  rw [(CV.first p h).ok] at c1
  have c2 := Enc_spec p hp0 h d
  have hl := encP_len p h
  generalize encP p = R at *
  have hb1 : byteAV 1 = .lit (.int .u8 1) := rfl
  refine ACall.of_body mixed Tryd.func46 rfl (by kernel_rfl) Tryd.ntmps46 (by kernel_rfl) rfl (by simp) (by simp) (by simp) fun σ N hp hpn hk hkn hfree => ?_
  have hd := hp _ (List.mem_singleton.2 rfl); have hdn := hpn _ (List.mem_singleton.2 rfl); simp only at hd hdn; clear hp hpn
  have hcs := And.intro c1 (And.intro c2 True.intro)
  clear c1 c2
  exact WL
theorem rEnc_first (p : Pr) (hp0 : PrOk p) (h : predB p = true) (k : Nat) :
    ACall Tryd.prog 47 [caAV ⟨false, p, 0, [], []⟩] k [] (.tup [.slice none ((1 :: encP p).map byteAV), .lit (.int .i64 0)]) [] := by
  have c1 := refCav_spec ⟨false, p, 0, [], []⟩ hp0
  rw [(CV.first p h).ok] at c1
  have c2 := refEnc_spec p hp0 h
  have hl := encP_len p h
  generalize encP p = R at *
  have hb1 : byteAV 1 = .lit (.int .u8 1) := rfl
  refine ACall.of_body mixed Tryd.func47 rfl (by kernel_rfl) Tryd.ntmps47 (by kernel_rfl) rfl (by simp) (by simp) (by simp) fun σ N hp hpn hk hkn hfree => ?_
  have hcs := And.intro c1 (And.intro c2 True.intro)
  clear c1 c2
  exact WL
theorem zeroPr_ok : PrOk zeroPr := ⟨by decide, by decide, by decide⟩
set_option maxHeartbeats 4000000 in
theorem cEnc_third (n : Nat) (hn : n ≤ 7) (t b : List UInt8) (ht : 1 ≤ t.length ∧ t.length ≤ 1024) (hb : 1 ≤ b.length ∧ b.length ≤ 1024) (d k : Nat) :
    ACall Tryd.prog 46 [caAV ⟨true, zeroPr, n, t, b⟩] k [(d, bitsG)] (.tup [.slice none ((2 :: (leb n ++ (fieldB t ++ fieldB b))).map byteAV), .lit (.int .i64 0)]) [] := by
  have c1 := cavValid_spec ⟨true, zeroPr, n, t, b⟩ zeroPr_ok d
  rw [(CV.third n hn t b ht hb).ok] at c1
  have hl := leb_len n 7 (by omega)
  have hl1 := leb_len t.length 7 (by omega)
  have hl2 := leb_len b.length 7 (by omega)
  have hf1 : (fieldB t).length ≤ 2000 := by simp only [fieldB, List.length_append]; omega
  have c2 := Append_ok [2] (by simp) n (by omega)
  have c3 := field_ok ([2] ++ leb n) t (by simp; omega) ht.2
  have c4 := field_ok ([2] ++ leb n ++ fieldB t) b (by simp; omega) hb.2
  have hR : 2 :: (leb n ++ (fieldB t ++ fieldB b)) = [2] ++ leb n ++ fieldB t ++ fieldB b := by simp
  have h2l : [(2 : UInt8)].length + (leb n).length = ([2] ++ leb n).length := by simp; omega
  rw [hR]
  rw [h2l] at c2
  clear hR h2l
  generalize [2] ++ leb n ++ fieldB t ++ fieldB b = R3 at *
  generalize [2] ++ leb n ++ fieldB t = R2 at *
  generalize [2] ++ leb n = R1 at *
  have hb1 : byteAV 2 = .lit (.int .u8 2) := rfl
  simp only [caAV, List.map_cons, List.map_nil, hb1] at *
  refine ACall.of_body mixed Tryd.func46 rfl (by kernel_rfl) Tryd.ntmps46 (by kernel_rfl) rfl (by simp) (by simp) (by simp) fun σ N hp hpn hk hkn hfree => ?_
  have hd := hp _ (List.mem_singleton.2 rfl); have hdn := hpn _ (List.mem_singleton.2 rfl); simp only at hd hdn; clear hp hpn
  have hcs := And.intro c1 (And.intro c2 True.intro)
  clear c1 c2
  refine Wk ?_
  refine go_loopB (N + 1) mixed (by kernel_rfl) [6, 7, 9, 38, 39, 40, 41, 42, 43, 44, 45, 46, 47, 48, 49] [] (fun m_ s_ σ_ n_ => ∃ (u : Nat) (q : Nat) (acc : List UInt8), m_ = 2 - u ∧ s_ 38 = .lit (.int .i64 u) ∧ s_ 6 = .slice (some q) (acc.map byteAV) ∧ s_ 7 = .lit (.int .i64 0) ∧ σ_ (q) = .row 5 1 acc.length ∧ (u = 0 ∧ acc = R1 ∨ u = 1 ∧ acc = R2 ∨ u = 2 ∧ acc = R3) ∧ (N + 1 ≤ q) ∧ (q < n_)) ⟨_, 0, _, R1, rfl, WF, WF, WF, WF, WC, WC, WC⟩ ?_
  intro m_1 s_1 σ_1 n_1 hs_1 hf_1 hn_1 hI_1
  obtain ⟨u, q, acc, hm_1, h1_38, h1_6, h1_7, e1_0, hu, hq, hqn⟩ := hI_1
  have h1_2 := (hs_1.at 2 (by decide)).trans WE
  have h1_3 := (hs_1.at 3 (by decide)).trans WE
  have h1_37 := (hs_1.at 37 (by decide)).trans WE
  have k1_0 := (hf_1.at (N) (by omega) WQ).trans WE
  have hlow : ∀ id, id < N → σ_1 id = σ id := fun id hid => (hf_1.at id (by omega) WQ).trans WH
  rcases hu with ⟨rfl, rfl⟩ | ⟨rfl, rfl⟩ | ⟨rfl, rfl⟩
  · have hcs := And.intro c3 True.intro
    clear c3 c4
    refine Wk ?_
    exact ⟨WS, WG, WN, _, (show 2 - (1) < m_1 by omega), 1, _, R2, rfl, WF, WF, WF, WF, WC, WC, WC⟩
  · have hcs := And.intro c4 True.intro
    clear c3 c4
    refine Wk ?_
    exact ⟨WS, WG, WN, _, (show 2 - (2) < m_1 by omega), 2, _, R3, rfl, WF, WF, WF, WF, WC, WC, WC⟩
  · clear c3 c4
    exact WL
set_option maxHeartbeats 4000000 in
theorem rEnc_third (n : Nat) (hn : n ≤ 7) (t b : List UInt8) (ht : 1 ≤ t.length ∧ t.length ≤ 1024) (hb : 1 ≤ b.length ∧ b.length ≤ 1024) (k : Nat) :
    ACall Tryd.prog 47 [caAV ⟨true, zeroPr, n, t, b⟩] k [] (.tup [.slice none ((2 :: (leb n ++ (fieldB t ++ fieldB b))).map byteAV), .lit (.int .i64 0)]) [] := by
  have c1 := refCav_spec ⟨true, zeroPr, n, t, b⟩ zeroPr_ok
  rw [(CV.third n hn t b ht hb).ok] at c1
  have hl := leb_len n 7 (by omega)
  have hl1 := leb_len t.length 7 (by omega)
  have hl2 := leb_len b.length 7 (by omega)
  have hf1 : (fieldB t).length ≤ 2000 := by simp only [fieldB, List.length_append]; omega
  have hf2 : (fieldB b).length ≤ 2000 := by simp only [fieldB, List.length_append]; omega
  have hn9 : n < 128 ^ 9 := by omega
  have c2 := Number_spec_f n
  have c3 := Field_spec_f t (by omega)
  have c4 := Field_spec_f b (by omega)
  generalize leb n = L1 at *
  generalize fieldB t = L2 at *
  generalize fieldB b = L3 at *
  have hb1 : byteAV 2 = .lit (.int .u8 2) := rfl
  simp only [caAV] at *
  refine ACall.of_body mixed Tryd.func47 rfl (by kernel_rfl) Tryd.ntmps47 (by kernel_rfl) rfl (by simp) (by simp) (by simp) fun σ N hp hpn hk hkn hfree => ?_
  have hcs := And.intro c1 (And.intro (fun k => c2 k hn9) (And.intro c3 (And.intro c4 True.intro)))
  clear c1 c2 c3 c4
  exact WL
theorem cEnc_ok (c : Ca) (hp0 : PrOk c.first) (h : cavB c = true) (d k : Nat) :
    ACall Tryd.prog 46 [caAV c] k [(d, bitsG)] (.tup [.slice none ((encC c).map byteAV), .lit (.int .i64 0)]) [] := by
  cases CV.of h with
  | first p hp => exact cEnc_first p hp0 hp d k
  | third n hn t b ht hb => exact cEnc_third n hn t b ht hb d k
theorem rEnc_ok (c : Ca) (hp0 : PrOk c.first) (h : cavB c = true) (k : Nat) :
    ACall Tryd.prog 47 [caAV c] k [] (.tup [.slice none ((encC c).map byteAV), .lit (.int .i64 0)]) [] := by
  cases CV.of h with
  | first p hp => exact rEnc_first p hp0 hp k
  | third n hn t b ht hb => exact rEnc_third n hn t b ht hb k
/-- What Encode returns. -/
def encS (c : Ca) : List UInt8 × Nat := if cavB c = true then (encC c, 0) else ([], 5)
def encAV (x : List UInt8 × Nat) : AV := .tup [.slice none (x.1.map byteAV), .lit (.int .i64 x.2)]
theorem cEnc_spec (c : Ca) (hp0 : PrOk c.first) (d k : Nat) : ACall Tryd.prog 46 [caAV c] k [(d, bitsG)] (encAV (encS c)) [] := by
  unfold encS
  split
  · rename_i h; exact cEnc_ok c hp0 h d k
  · rename_i h
    exact (cEnc_bad c hp0 (by simpa using h) d k).result (AV.sub_tup (.cons AV.le_nils0 (.cons (AV.le_refl _) .nil)))
theorem rEnc_spec (c : Ca) (hp0 : PrOk c.first) (k : Nat) : ACall Tryd.prog 47 [caAV c] k [] (encAV (encS c)) [] := by
  unfold encS
  split
  · rename_i h; exact rEnc_ok c hp0 h k
  · rename_i h
    exact (rEnc_bad c hp0 (by simpa using h) k).result (AV.sub_tup (.cons AV.le_nils0 (.cons (AV.le_refl _) .nil)))
theorem encS_len (c : Ca) : (encS c).1.length ≤ 3000 := by
  unfold encS
  split
  · rename_i h; exact (encC_len c h).2
  · simp
theorem awake12_spec (d k : Nat) : ACall Tryd.prog 22 [] k [(d, bitsG)] (.lit (.bool true)) [] := by
  have c1 := cEnc_first ⟨7, 0, 0, 0, [], 5⟩ ⟨by decide, by decide, by decide⟩ (by decide) d
  have hR : 1 :: encP ⟨7, 0, 0, 0, [], 5⟩ = [1, 7, 5] := by
    rw [show encP ⟨7, 0, 0, 0, [], 5⟩ = leb 7 ++ leb 5 from rfl, leb_small (by decide), leb_small (by decide)]
    rfl
  rw [hR] at c1
  have c2 := Same_spec [1, 7, 5] [1, 7, 5] (by decide)
  clear hR
  rw [decide_eq_true rfl] at c2
  simp only [caAV, prAV, List.map_cons, List.map_nil] at *
  refine ACall.of_body mixed Tryd.func22 rfl (by kernel_rfl) Tryd.ntmps22 (by kernel_rfl) rfl (by simp) (by simp) (by simp) fun σ N hp hpn hk hkn hfree => ?_
  have hd := hp _ (List.mem_singleton.2 rfl); have hdn := hpn _ (List.mem_singleton.2 rfl); simp only at hd hdn; clear hp hpn
  have hcs := And.intro c1 (And.intro c2 True.intro)
  clear c1 c2
  exact W0
end Go.Proofs.YtaelnglalpiemaaDoor
