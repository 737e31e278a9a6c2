/- Shared: comparing bytes, arguments cut at a length. -/
import Derived.Test.YtaelnglalpiemaaDoorC9
import Derived.Test.YtaelnglalpiemaaDoorC5
import Derived.Test.YtaelnglalpiemaaDoorF
namespace Go.Proofs.YtaelnglalpiemaaDoor
open Go.Ab
attribute [local irreducible] Go.Ab.tyAV Go.Ab.aw Go.Ab.aops Go.Ab.kReg Go.Ab.aThen Go.Ab.aBlk Go.Ab.acond Go.Ab.aguard Go.Ab.astep Go.Ab.AStepX Go.Ab.aRet

theorem Same_spec (cs bs : List UInt8) (ha : cs.length ≤ 100000000) (k : Nat) : ACall Tryd.prog 25 [.slice none (cs.map byteAV), .slice none (bs.map byteAV)] k [] (.lit (.bool (decide (cs = bs)))) [] := by
  by_cases hl : cs.length = bs.length
  · refine ACall.of_body mixed Tryd.func25 rfl (by kernel_rfl) Tryd.ntmps25 (by kernel_rfl) rfl (by simp) (by simp) (by simp) fun σ N hp hpn hk hkn hfree => ?_
    refine Wk ?_
    refine go_loop (aloop mixed (by kernel_rfl) (fun c => ∃ (u : Nat), c.s 0 = .slice none (cs.map byteAV) ∧ c.s 1 = .slice none (bs.map byteAV) ∧ c.s 5 = .lit (.int .i64 u) ∧ (∀ id, id < N → c.σ id = σ id) ∧ N ≤ c.n ∧ u ≤ cs.length ∧ cs.take u = bs.take u)
      (fun c => match c.s 5 with | .lit (.int _ m) => cs.length - m.toNat | _ => 0) ⟨0, by simp (disch := omega) [go_sem, *, -List.reduceReplicate], by simp (disch := omega) [go_sem, *, -List.reduceReplicate], by simp (disch := omega) [go_sem, *, -List.reduceReplicate], (fun id hid => by simp (disch := omega) only [upd_ne, wr_cons, wr_nil]; try exact hlow id hid), by simp only; omega, by omega, by simp⟩ ?_)
    rintro ⟨s, σ', n'⟩ ⟨u, h0, h1, h5, hlow, hn', hu, heq⟩
    simp only at h0 h1 h5 hlow hn'
    by_cases hul : u = cs.length
    · have hr : decide (cs = bs) = true := by
        rw [hul, List.take_length, hl, List.take_length] at heq
        simp [heq]
      rw [hr]
      exact W0
    · have hua : u < cs.length := by omega
      have hub : u < bs.length := by omega
      obtain ⟨x, hx⟩ : ∃ x, cs[u] = x := ⟨_, rfl⟩
      obtain ⟨y, hy⟩ : ∃ y, bs[u] = y := ⟨_, rfl⟩
      have hxx : byteAV x = .lit (.int .u8 x.toNat) := rfl
      have hyy : byteAV y = .lit (.int .u8 y.toNat) := rfl
      refine Wk ?_
      by_cases hxy : x = y
      · subst hxy
        refine Wk ?_
        refine ⟨⟨u + 1, by simp (disch := omega) [go_sem, *, -List.reduceReplicate], by simp (disch := omega) [go_sem, *, -List.reduceReplicate], by simp (disch := omega) [go_sem, *, -List.reduceReplicate], (fun id hid => by simp (disch := omega) only [upd_ne, wr_cons, wr_nil]; try exact hlow id hid), by simp only; omega, by omega, ?_⟩, ?_⟩
        · rw [List.take_add_one, List.take_add_one, heq, List.getElem?_eq_getElem hua, List.getElem?_eq_getElem hub, hx, hy]
        · simp (disch := omega) [go_sem, *, -List.reduceReplicate]
          omega
      · have hne : ¬ x.toNat = y.toNat := fun h => hxy (UInt8.toNat_inj.1 h)
        have hr : decide (cs = bs) = false := by
          have : cs ≠ bs := fun h => by subst h; rw [hx] at hy; exact hxy hy
          simp [this]
        rw [hr]
        exact W0
  · have hr : decide (cs = bs) = false := by
      have : cs ≠ bs := fun h => hl (by rw [h])
      simp [this]
    rw [hr]
    refine ACall.of_body mixed Tryd.func25 rfl (by kernel_rfl) Tryd.ntmps25 (by kernel_rfl) rfl (by simp) (by simp) (by simp) fun σ N hp hpn hk hkn hfree => ?_
    exact W0

theorem cutAt (c : Nat) (b : List UInt8) : ∃ (m : Nat) (t : List UInt8), (if (c : Int) < (b.length : Int) then (c : Int) else (b.length : Int)) = (m : Int) ∧ m ≤ b.length ∧ m ≤ c ∧ t.length = m ∧ (b.map byteAV).take m = t.map byteAV := by
  refine ⟨min c b.length, b.take c, ?_, Nat.min_le_right .., Nat.min_le_left .., by simp, ?_⟩
  · split <;> omega
  · rw [← List.map_take]
    congr 1
    by_cases h : c ≤ b.length
    · rw [Nat.min_eq_left h]
    · rw [Nat.min_eq_right (by omega), List.take_length, List.take_of_length_le (by omega)]

theorem cutStr (n : Nat) (b : List UInt8) : ∃ (m : Nat) (t : List UInt8), (if (n : Int) < (b.length : Int) then (n : Int) else (b.length : Int)) = (m : Int) ∧ m ≤ b.length ∧ m ≤ n ∧ t.length = m ∧ b.take m = t := by
  refine ⟨min n b.length, b.take (min n b.length), ?_, by omega, by omega, by simp, rfl⟩
  split <;> omega

theorem str_of {x : AV} (h : tyAV Tryd.prog 8 9 x) : ∃ l : List UInt8, l.length ≤ 9223372036854775807 ∧ x = strAV l := ty_str st9 h
end Go.Proofs.YtaelnglalpiemaaDoor
