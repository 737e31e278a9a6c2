/- The law CaveatValid. -/
import Derived.Test.YtaelnglalpiemaaDoorR5
import Derived.Test.YtaelnglalpiemaaDoorC4
namespace Go.Proofs.YtaelnglalpiemaaDoor
open Go.Ab
attribute [local irreducible] Go.Ab.tyAV Go.Ab.aw Go.Ab.aops Go.Ab.kReg Go.Ab.aThen Go.Ab.aBlk Go.Ab.acond Go.Ab.aguard Go.Ab.astep Go.Ab.AStepX Go.Ab.aRet

/-- The bytes of a caveat that came in. -/
structure CaIn (c : Ca) : Prop where
  pr : PrOk c.first
  t0 : c.ticket.length ≤ 9223372036854775807
  b0 : c.box.length ≤ 9223372036854775807
theorem few_ex (c : Ca) (h : CaIn c) : ∃ c' : Ca, c'.first = c.first ∧ c'.ticket.length ≤ 1100 ∧ c'.box.length ≤ 1100 ∧ ∀ k, ACall Tryd.prog 11 [caAV c] k [] (caAV c') [] := by
  obtain ⟨th, f, p, t, b⟩ := c
  obtain ⟨_, t0, b0⟩ := h
  simp only at t0 b0
  obtain ⟨m1, t', q1, q2, q3, q4, q5⟩ := cutAt 1100 t
  obtain ⟨m2, b', r1, r2, r3, r4, r5⟩ := cutAt 1100 b
  replace q1 : (if (1100 : Int) < (t.length : Int) then (1100 : Int) else (t.length : Int)) = (m1 : Int) := q1
  replace r1 : (if (1100 : Int) < (b.length : Int) then (1100 : Int) else (b.length : Int)) = (m2 : Int) := r1
  refine ⟨⟨th, f, p, t', b'⟩, rfl, by simp only; omega, by simp only; omega, fun k => ?_⟩
  simp only [caAV]
  refine ACall.of_body mixed Tryd.func11 rfl (by kernel_rfl) Tryd.ntmps11 (by kernel_rfl) rfl (by simp) (by simp) (by simp) fun σ N hp hpn hk hkn hfree => ?_
  exact WA
@[go_sem] theorem renl_replicate (f : Nat → Option Nat) (n : Nat) (a : AV) : AV.renl f (List.replicate n a) = List.replicate n (a.ren f) := by rw [AV.renl_map, List.map_replicate]
theorem zeros_map (n : Nat) : List.replicate n (AV.lit (.int .u8 0)) = (List.replicate n (0 : UInt8)).map byteAV := by rw [List.map_replicate]; rfl
set_option maxHeartbeats 4000000 in
theorem spoilt_ex (c : Ca) (h : PrOk c.first) (hs : CaSm c) (hw n : Int) (hw0 : 0 ≤ hw) (hw1 : hw < 256) : ∃ c' : Ca, PrOk c'.first ∧ CaSm c' ∧ ∀ k, ACall Tryd.prog 14 [caAV c, .lit (.int .u8 hw), .lit (.int .i64 n)] k [] (caAV c') [] := by
  obtain ⟨th, f, p, t, b⟩ := c
  obtain ⟨s1, s2⟩ := hs
  simp only at s1 s2 h
  have ht : hw.tmod 5 = hw % 5 := Int.tmod_eq_emod_of_nonneg hw0
  have c1 := Within_spec n 4 (by omega) (by omega)
  have hq : n % 4 = 0 ∨ n % 4 = 1 ∨ n % 4 = 2 ∨ n % 4 = 3 := by omega
  have hm : hw % 5 = 0 ∨ hw % 5 = 1 ∨ hw % 5 = 2 ∨ hw % 5 = 3 ∨ hw % 5 = 4 := by omega
  rcases hm with hm | hm | hm | hm | hm
  all_goals (rw [hm] at ht; clear hm)
  · refine ⟨⟨!th, f, p, t, b⟩, h, ⟨s1, s2⟩, fun k => ?_⟩
    simp only [caAV]
    refine ACall.of_body mixed Tryd.func14 rfl (by kernel_rfl) Tryd.ntmps14 (by kernel_rfl) rfl (by simp) (by simp) (by simp) fun σ N hp hpn hk hkn hfree => ?_
    clear c1
    exact WA
  · refine ⟨⟨th, f, n, t, b⟩, h, ⟨s1, s2⟩, fun k => ?_⟩
    simp only [caAV]
    refine ACall.of_body mixed Tryd.func14 rfl (by kernel_rfl) Tryd.ntmps14 (by kernel_rfl) rfl (by simp) (by simp) (by simp) fun σ N hp hpn hk hkn hfree => ?_
    clear c1
    exact WA
  · refine ⟨⟨th, ⟨f.kind, f.mask, f.frm, f.to, f.name, n⟩, p, t, b⟩, ⟨h.m0, h.m1, h.nl⟩, ⟨s1, s2⟩, fun k => ?_⟩
    obtain ⟨f1, f2, f3, f4, f5, f6⟩ := f
    simp only [caAV, prAV]
    refine ACall.of_body mixed Tryd.func14 rfl (by kernel_rfl) Tryd.ntmps14 (by kernel_rfl) rfl (by simp) (by simp) (by simp) fun σ N hp hpn hk hkn hfree => ?_
    clear c1
    exact WA
  · rcases hq with hq | hq | hq | hq
    · refine ⟨⟨th, f, p, List.replicate 0 (0 : UInt8), b⟩, h, ⟨by simp only [List.length_replicate]; omega, s2⟩, fun k => ?_⟩
      rw [hq] at c1
      simp only [caAV]
      rw [← zeros_map]
      refine ACall.of_body mixed Tryd.func14 rfl (by kernel_rfl) Tryd.ntmps14 (by kernel_rfl) rfl (by simp) (by simp) (by simp) fun σ N hp hpn hk hkn hfree => ?_
      have hcs := And.intro c1 True.intro
      clear c1
      exact WA
    · refine ⟨⟨th, f, p, List.replicate 1 (0 : UInt8), b⟩, h, ⟨by simp only [List.length_replicate]; omega, s2⟩, fun k => ?_⟩
      rw [hq] at c1
      simp only [caAV]
      rw [← zeros_map]
      refine ACall.of_body mixed Tryd.func14 rfl (by kernel_rfl) Tryd.ntmps14 (by kernel_rfl) rfl (by simp) (by simp) (by simp) fun σ N hp hpn hk hkn hfree => ?_
      have hcs := And.intro c1 True.intro
      clear c1
      exact WA
    · refine ⟨⟨th, f, p, List.replicate 1024 (0 : UInt8), b⟩, h, ⟨by simp only [List.length_replicate]; omega, s2⟩, fun k => ?_⟩
      rw [hq] at c1
      simp only [caAV]
      rw [← zeros_map]
      refine ACall.of_body mixed Tryd.func14 rfl (by kernel_rfl) Tryd.ntmps14 (by kernel_rfl) rfl (by simp) (by simp) (by simp) fun σ N hp hpn hk hkn hfree => ?_
      have hcs := And.intro c1 True.intro
      clear c1
      exact WA
    · refine ⟨⟨th, f, p, List.replicate 1025 (0 : UInt8), b⟩, h, ⟨by simp only [List.length_replicate]; omega, s2⟩, fun k => ?_⟩
      rw [hq] at c1
      simp only [caAV]
      rw [← zeros_map]
      refine ACall.of_body mixed Tryd.func14 rfl (by kernel_rfl) Tryd.ntmps14 (by kernel_rfl) rfl (by simp) (by simp) (by simp) fun σ N hp hpn hk hkn hfree => ?_
      have hcs := And.intro c1 True.intro
      clear c1
      exact WA
  · rcases hq with hq | hq | hq | hq
    · refine ⟨⟨th, f, p, t, List.replicate 0 (0 : UInt8)⟩, h, ⟨s1, by simp only [List.length_replicate]; omega⟩, fun k => ?_⟩
      rw [hq] at c1
      simp only [caAV]
      rw [← zeros_map]
      refine ACall.of_body mixed Tryd.func14 rfl (by kernel_rfl) Tryd.ntmps14 (by kernel_rfl) rfl (by simp) (by simp) (by simp) fun σ N hp hpn hk hkn hfree => ?_
      have hcs := And.intro c1 True.intro
      clear c1
      exact WA
    · refine ⟨⟨th, f, p, t, List.replicate 1 (0 : UInt8)⟩, h, ⟨s1, by simp only [List.length_replicate]; omega⟩, fun k => ?_⟩
      rw [hq] at c1
      simp only [caAV]
      rw [← zeros_map]
      refine ACall.of_body mixed Tryd.func14 rfl (by kernel_rfl) Tryd.ntmps14 (by kernel_rfl) rfl (by simp) (by simp) (by simp) fun σ N hp hpn hk hkn hfree => ?_
      have hcs := And.intro c1 True.intro
      clear c1
      exact WA
    · refine ⟨⟨th, f, p, t, List.replicate 1024 (0 : UInt8)⟩, h, ⟨s1, by simp only [List.length_replicate]; omega⟩, fun k => ?_⟩
      rw [hq] at c1
      simp only [caAV]
      rw [← zeros_map]
      refine ACall.of_body mixed Tryd.func14 rfl (by kernel_rfl) Tryd.ntmps14 (by kernel_rfl) rfl (by simp) (by simp) (by simp) fun σ N hp hpn hk hkn hfree => ?_
      have hcs := And.intro c1 True.intro
      clear c1
      exact WA
    · refine ⟨⟨th, f, p, t, List.replicate 1025 (0 : UInt8)⟩, h, ⟨s1, by simp only [List.length_replicate]; omega⟩, fun k => ?_⟩
      rw [hq] at c1
      simp only [caAV]
      rw [← zeros_map]
      refine ACall.of_body mixed Tryd.func14 rfl (by kernel_rfl) Tryd.ntmps14 (by kernel_rfl) rfl (by simp) (by simp) (by simp) fun σ N hp hpn hk hkn hfree => ?_
      have hcs := And.intro c1 True.intro
      clear c1
      exact WA
end Go.Proofs.YtaelnglalpiemaaDoor
