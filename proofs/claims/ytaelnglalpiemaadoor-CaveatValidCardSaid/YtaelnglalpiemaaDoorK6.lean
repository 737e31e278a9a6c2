/- Predicates: numbers, eight bytes. -/
import Derived.Test.YtaelnglalpiemaaDoorK5
import Derived.Test.YtaelnglalpiemaaDoorN3
import Derived.Test.YtaelnglalpiemaaDoorC9
namespace Go.Proofs.YtaelnglalpiemaaDoor
open Go.Ab
attribute [local irreducible] Go.Ab.tyAV Go.Ab.aw Go.Ab.aops Go.Ab.kReg Go.Ab.aThen Go.Ab.aBlk Go.Ab.acond Go.Ab.aguard Go.Ab.astep Go.Ab.AStepX Go.Ab.aRet

def sh8 (m : Int) (s : Nat) : UInt8 := UInt8.ofNat ((m / (2 : Int) ^ s) % 256).toNat
theorem sh8_toNat (m : Int) (s : Nat) : ((sh8 m s).toNat : Int) = (m / (2 : Int) ^ s) % 256 := by
  unfold sh8
  rw [UInt8.toNat_ofNat']
  omega
theorem sh8_wrap (m : Int) (s : Nat) : IntKind.u8.wrap (m.fdiv ((2 : Int) ^ s)) = ((sh8 m s).toNat : Int) := by
  have hp : (0 : Int) ≤ 2 ^ s := Int.le_of_lt (Int.pow_pos (by decide))
  rw [sh8_toNat, IntKind.wrap_u8, Int.fdiv_eq_ediv, if_pos (.inl hp), Int.sub_zero]
def eightB (m : Int) : List UInt8 := [sh8 m 56, sh8 m 48, sh8 m 40, sh8 m 32, sh8 m 24, sh8 m 16, sh8 m 8, sh8 m 0]
theorem eightB_len (m : Int) : (eightB m).length = 8 := rfl

attribute [go_sem] ren_byteAV
abbrev natsAV (ns : List Nat) : AV := .slice none (ns.map fun (n : Nat) => AV.lit (.int .i64 (n : Int)))
theorem numbers_spec (ns : List Nat) (bs : List UInt8) (h0 : 0 < ns.length) (hb : bs.length + 8 * ns.length ≤ 1000000) (hn : ∀ n ∈ ns, n ≤ 281474976710656) (R : List UInt8) (hR : bs ++ ns.flatMap leb = R) (k : Nat) :
    ACall Tryd.prog 96 [.slice none (bs.map byteAV), natsAV ns] k [] (.slice (some k) (R.map byteAV)) [(k, .row 5 1 R.length)] := by
  refine ACall.of_body mixed Tryd.func96 rfl (by kernel_rfl) Tryd.ntmps96 (by kernel_rfl) rfl (by simp) (by simp) (by simp) fun σ N hp hpn hk hkn hfree => ?_
  refine Wk ?_
  refine go_loopP (ns.length) (N) mixed (by kernel_rfl) [0, 6, 9, 10, 11, 12, 13, 14, 15, 16, 17, 18, 19] [] (fun s_ σ_ n_ => s_ 9 = .lit (.int .i64 0) ∧ s_ 0 = .slice none (bs.map byteAV) ∧ True) (fun m_ s_ σ_ n_ => ∃ (u : Nat) (q : Nat) (acc : List UInt8), m_ = ns.length - u ∧ s_ 9 = .lit (.int .i64 u) ∧ s_ 0 = .slice (some q) (acc.map byteAV) ∧ σ_ (q) = .row 5 1 acc.length ∧ (u ≤ ns.length) ∧ (acc.length ≤ bs.length + 8 * u) ∧ (acc = bs ++ (ns.take u).flatMap leb) ∧ (N ≤ q) ∧ (q < n_)) ⟨WF, WF, trivial⟩ ?_ ?_
  · intro s_1 σ_1 n_1 hs_1 hf_1 hn_1 hI_1
    obtain ⟨h1_9, h1_0, -⟩ := hI_1
    have h1_4 := (hs_1.at 4 (by decide)).trans WE
    have h1_7 := (hs_1.at 7 (by decide)).trans WE
    have h1_8 := (hs_1.at 8 (by decide)).trans WE
    have hlow : ∀ id, id < N → σ_1 id = σ id := fun id hid => (hf_1.at id (by omega) WQ).trans WH
    obtain ⟨c, hc⟩ : ∃ c, ns[0] = c := ⟨_, rfl⟩
    have hcn : c ≤ 281474976710656 := hn c (by rw [← hc]; exact List.getElem_mem h0)
    have hcl := leb_len c 7 (by omega)
    have c1 := Append_ok bs (by omega) c hcn
    have hacc2 : bs ++ leb c = bs ++ (ns.take (0 + 1)).flatMap leb := by
      rw [List.take_add_one, List.getElem?_eq_getElem h0, hc]
      simp
    have hal2 : (bs ++ leb c).length ≤ bs.length + 8 * (0 + 1) := by rw [List.length_append]; omega
    have hll : bs.length + (leb c).length = (bs ++ leb c).length := by simp
    rw [hll] at c1
    generalize bs ++ leb c = acc2 at *
    have hcs := And.intro c1 True.intro
    clear c1 hll hR
    refine Wk ?_
    exact ⟨WS, WG, WN, _, (show ns.length - (1) < (ns.length) by omega), 1, _, acc2, rfl, WF, WF, WF, WC, WC, WC, WC, WC⟩
  intro m_1 s_1 σ_1 n_1 hs_1 hf_1 hn_1 hI_1
  obtain ⟨u, q, acc, hm_1, h1_9, h1_0, e1_0, hu, hal, hacc, hq, hqn⟩ := hI_1
  have h1_4 := (hs_1.at 4 (by decide)).trans WE
  have h1_7 := (hs_1.at 7 (by decide)).trans WE
  have h1_8 := (hs_1.at 8 (by decide)).trans WE
  have hlow : ∀ id, id < N → σ_1 id = σ id := fun id hid => (hf_1.at id (by omega) WQ).trans WH
  by_cases hul : u = ns.length
  · rw [hul, List.take_length, hR] at hacc
    subst hul hacc
    clear hR
    refine Wk ?_
    refine go_result1 (r0 := q) (by simp (disch := omega) [go_sem, *, -List.reduceReplicate]; rfl) (by omega) (by simp (disch := omega) [go_sem]; try rfl) (fun id hid => by simp (disch := omega) only [upd_ne, wr_cons, wr_nil]; try exact hlow id hid) (by simp (disch := omega) [go_sem, *, -List.reduceReplicate]; rfl) (by simp (disch := omega) [go_sem])
  · have hui : u < ns.length := by omega
    obtain ⟨c, hc⟩ : ∃ c, ns[u] = c := ⟨_, rfl⟩
    have hcn : c ≤ 281474976710656 := hn c (by rw [← hc]; exact List.getElem_mem hui)
    have hcl := leb_len c 7 (by omega)
    have c1 := Append_ok acc (by omega) c hcn
    have hacc2 : acc ++ leb c = bs ++ (ns.take (u + 1)).flatMap leb := by
      rw [List.take_add_one, List.getElem?_eq_getElem hui, hc, hacc]
      simp
    have hal2 : (acc ++ leb c).length ≤ bs.length + 8 * (u + 1) := by rw [List.length_append]; omega
    have hll : acc.length + (leb c).length = (acc ++ leb c).length := by simp
    rw [hll] at c1
    clear hacc hll hR
    generalize acc ++ leb c = acc2 at *
    have hcs := And.intro c1 True.intro
    clear c1
    refine Wk ?_
    exact ⟨WS, WG, WN, _, (show ns.length - (u + 1) < m_1 by omega), u + 1, _, acc2, rfl, WF, WF, WF, WC, WC, WC, WC, WC⟩
theorem Eight_spec (m : Int) (m0 : 0 ≤ m) (m1 : m < 18446744073709551616) (k : Nat) :
    ACall Tryd.prog 92 [.lit (.int .u64 m)] k [] (.slice none ((eightB m).map byteAV)) [] := by
  have e7 := sh8_wrap m 56
  have e6 := sh8_wrap m 48
  have e5 := sh8_wrap m 40
  have e4 := sh8_wrap m 32
  have e3 := sh8_wrap m 24
  have e2 := sh8_wrap m 16
  have e1 := sh8_wrap m 8
  have e0 := sh8_wrap m 0
  simp only [Int.reducePow, Int.pow_zero, Int.fdiv_one] at e7 e6 e5 e4 e3 e2 e1 e0
  unfold eightB
  generalize sh8 m 56 = b7 at *
  generalize sh8 m 48 = b6 at *
  generalize sh8 m 40 = b5 at *
  generalize sh8 m 32 = b4 at *
  generalize sh8 m 24 = b3 at *
  generalize sh8 m 16 = b2 at *
  generalize sh8 m 8 = b1 at *
  generalize sh8 m 0 = b0 at *
  refine ACall.of_body mixed Tryd.func92 rfl (by kernel_rfl) Tryd.ntmps92 (by kernel_rfl) rfl (by simp) (by simp) (by simp) fun σ N hp hpn hk hkn hfree => ?_
  refine Wk ?_
  refine ALoop.nilrow 3 5 1 (by simp (disch := omega) [go_sem, *, -List.reduceReplicate]) ?_
  refine go_loopB (N) mixed (by kernel_rfl) [3, 4, 5, 6, 7, 8, 9, 10, 11, 12, 13, 14, 15, 16] [] (fun m_ s_ σ_ n_ => ∃ (u : Nat) (q : Nat) (acc : List UInt8), m_ = 8 - u ∧ s_ 4 = .lit (.int .i64 (56 - 8 * (u : Int))) ∧ s_ 3 = .slice (some q) (acc.map byteAV) ∧ σ_ (q) = .row 5 1 acc.length ∧ (u ≤ 8) ∧ (N ≤ q) ∧ (q < n_) ∧ (acc = [b7, b6, b5, b4, b3, b2, b1, b0].take u)) ⟨_, 0, _, [], rfl, WF, WF, WF, WC, WC, WC, WC⟩ ?_
  intro m_2 s_2 σ_2 n_2 hs_2 hf_2 hn_2 hI_2
  obtain ⟨u, q, acc, hm_2, h2_4, h2_3, e2_0, hu, hq, hqn, hacc⟩ := hI_2
  have h2_0 := (hs_2.at 0 (by decide)).trans WE
  have h2_2 := (hs_2.at 2 (by decide)).trans WE
  have hlow : ∀ id, id < N → σ_2 id = σ id := fun id hid => (hf_2.at id (by omega) WQ).trans WH
  have hb7 : byteAV b7 = .lit (.int .u8 b7.toNat) := rfl
  have hb6 : byteAV b6 = .lit (.int .u8 b6.toNat) := rfl
  have hb5 : byteAV b5 = .lit (.int .u8 b5.toNat) := rfl
  have hb4 : byteAV b4 = .lit (.int .u8 b4.toNat) := rfl
  have hb3 : byteAV b3 = .lit (.int .u8 b3.toNat) := rfl
  have hb2 : byteAV b2 = .lit (.int .u8 b2.toNat) := rfl
  have hb1 : byteAV b1 = .lit (.int .u8 b1.toNat) := rfl
  have hb0 : byteAV b0 = .lit (.int .u8 b0.toNat) := rfl
  have hcase : u = 0 ∨ u = 1 ∨ u = 2 ∨ u = 3 ∨ u = 4 ∨ u = 5 ∨ u = 6 ∨ u = 7 ∨ u = 8 := by omega
  rcases hcase with rfl | hcase
  · simp only [List.take_succ_cons, List.take_zero] at hacc
    subst hacc
    refine Wk ?_
    exact ⟨WS, WG, WN, _, (show 8 - (1) < m_2 by omega), 1, q, [b7], rfl, WF, WF, WF, WC, WC, WC, WC⟩
  rcases hcase with rfl | hcase
  · simp only [List.take_succ_cons, List.take_zero] at hacc
    subst hacc
    refine Wk ?_
    exact ⟨WS, WG, WN, _, (show 8 - (2) < m_2 by omega), 2, q, [b7, b6], rfl, WF, WF, WF, WC, WC, WC, WC⟩
  rcases hcase with rfl | hcase
  · simp only [List.take_succ_cons, List.take_zero] at hacc
    subst hacc
    refine Wk ?_
    exact ⟨WS, WG, WN, _, (show 8 - (3) < m_2 by omega), 3, q, [b7, b6, b5], rfl, WF, WF, WF, WC, WC, WC, WC⟩
  rcases hcase with rfl | hcase
  · simp only [List.take_succ_cons, List.take_zero] at hacc
    subst hacc
    refine Wk ?_
    exact ⟨WS, WG, WN, _, (show 8 - (4) < m_2 by omega), 4, q, [b7, b6, b5, b4], rfl, WF, WF, WF, WC, WC, WC, WC⟩
  rcases hcase with rfl | hcase
  · simp only [List.take_succ_cons, List.take_zero] at hacc
    subst hacc
    refine Wk ?_
    exact ⟨WS, WG, WN, _, (show 8 - (5) < m_2 by omega), 5, q, [b7, b6, b5, b4, b3], rfl, WF, WF, WF, WC, WC, WC, WC⟩
  rcases hcase with rfl | hcase
  · simp only [List.take_succ_cons, List.take_zero] at hacc
    subst hacc
    refine Wk ?_
    exact ⟨WS, WG, WN, _, (show 8 - (6) < m_2 by omega), 6, q, [b7, b6, b5, b4, b3, b2], rfl, WF, WF, WF, WC, WC, WC, WC⟩
  rcases hcase with rfl | hcase
  · simp only [List.take_succ_cons, List.take_zero] at hacc
    subst hacc
    refine Wk ?_
    exact ⟨WS, WG, WN, _, (show 8 - (7) < m_2 by omega), 7, q, [b7, b6, b5, b4, b3, b2, b1], rfl, WF, WF, WF, WC, WC, WC, WC⟩
  rcases hcase with rfl | hcase
  · simp only [List.take_succ_cons, List.take_zero] at hacc
    subst hacc
    refine Wk ?_
    exact ⟨WS, WG, WN, _, (show 8 - (8) < m_2 by omega), 8, q, [b7, b6, b5, b4, b3, b2, b1, b0], rfl, WF, WF, WF, WC, WC, WC, WC⟩
  subst hcase
  simp only [List.take_succ_cons, List.take_zero] at hacc
  subst hacc
  exact WM
end Go.Proofs.YtaelnglalpiemaaDoor
