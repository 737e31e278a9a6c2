/- Caveats: Valid, Firsts, Same. -/
import Derived.Test.YtaelnglalpiemaaDoorK2
namespace Go.Proofs.YtaelnglalpiemaaDoor
open Go.Ab
attribute [local irreducible] Go.Ab.tyAV Go.Ab.aw Go.Ab.aops Go.Ab.kReg Go.Ab.aThen Go.Ab.aBlk Go.Ab.acond Go.Ab.aguard Go.Ab.astep Go.Ab.AStepX Go.Ab.aRet

structure Ca where
  third : Bool
  first : Pr
  party : Int
  ticket : List UInt8
  box : List UInt8
deriving DecidableEq
def caAV (c : Ca) : AV := .agg [.lit (.bool c.third), prAV c.first, .lit (.int .i64 c.party), .slice none (c.ticket.map byteAV), .slice none (c.box.map byteAV)]
@[go_sem] theorem caAV_sz (c : Ca) : (caAV c).sz = 10 := rfl
@[go_sem] theorem caAV_isAgg (c : Ca) : (caAV c).isAgg = true := rfl
@[go_sem] theorem caAV_cell (c : Ca) : (caAV c).cell = true := rfl
@[go_sem] theorem caAV_ren (f : Nat → Option Nat) (c : Ca) : (caAV c).ren f = caAV c := by
  simp only [caAV, AV.ren, AV.renl, prAV_ren, renl_bytes, Option.bind_none]
@[go_sem] theorem renl_cas (f : Nat → Option Nat) (l : List Ca) : AV.renl f (l.map caAV) = l.map caAV := by
  rw [AV.renl_map, List.map_map]; exact List.map_congr_left fun t _ => caAV_ren f t
@[go_sem] theorem all_cas1 (l : List Ca) : (l.map caAV).all (fun x => x.sz == 10) = true := by
  rw [List.all_eq_true]; intro x hx; obtain ⟨b, _, rfl⟩ := List.mem_map.1 hx; rfl
@[go_sem] theorem all_cas2 (l : List Ca) : (l.map caAV).all (fun x => x.sz == 10 && x.cell) = true := by
  rw [List.all_eq_true]; intro x hx; obtain ⟨b, _, rfl⟩ := List.mem_map.1 hx; rfl
@[go_sem] theorem renl_prs (f : Nat → Option Nat) (l : List Pr) : AV.renl f (l.map prAV) = l.map prAV := by
  rw [AV.renl_map, List.map_map]; exact List.map_congr_left fun t _ => prAV_ren f t
@[go_sem] theorem all_prs1 (l : List Pr) : (l.map prAV).all (fun x => x.sz == 6) = true := by
  rw [List.all_eq_true]; intro x hx; obtain ⟨b, _, rfl⟩ := List.mem_map.1 hx; rfl
@[go_sem] theorem all_prs2 (l : List Pr) : (l.map prAV).all (fun x => x.sz == 6 && x.cell) = true := by
  rw [List.all_eq_true]; intro x hx; obtain ⟨b, _, rfl⟩ := List.mem_map.1 hx; rfl
@[go_sem] theorem caAV_get0 (c : Ca) : (caAV c).get [0] = some (.lit (.bool c.third)) := rfl
@[go_sem] theorem caAV_get1 (c : Ca) : (caAV c).get [1] = some (prAV c.first) := rfl
@[go_sem] theorem caAV_get2 (c : Ca) : (caAV c).get [2] = some (.lit (.int .i64 c.party)) := rfl
@[go_sem] theorem caAV_get3 (c : Ca) : (caAV c).get [3] = some (.slice none (c.ticket.map byteAV)) := rfl
@[go_sem] theorem caAV_get4 (c : Ca) : (caAV c).get [4] = some (.slice none (c.box.map byteAV)) := rfl
@[go_sem] theorem caAV_offs0 (c : Ca) : (caAV c).offs [0] = 0 := rfl
@[go_sem] theorem caAV_offs1 (c : Ca) : (caAV c).offs [1] = 1 := rfl
@[go_sem] theorem caAV_offs2 (c : Ca) : (caAV c).offs [2] = 7 := rfl
@[go_sem] theorem caAV_offs3 (c : Ca) : (caAV c).offs [3] = 8 := rfl
@[go_sem] theorem caAV_offs4 (c : Ca) : (caAV c).offs [4] = 9 := rfl

def firstsS (l : List Ca) : List Pr := (l.filter fun c => !c.third).map (·.first)
theorem firsts_at {l : List Ca} {u : Nat} {c : Ca} (h : u < l.length) (hc : l[u] = c) : firstsS (l.take (u + 1)) = firstsS (l.take u) ++ (if c.third = true then [] else [c.first]) := by
  have : l.take (u + 1) = l.take u ++ [c] := by rw [List.take_add_one, List.getElem?_eq_getElem h, hc]; rfl
  unfold firstsS
  rw [this, List.filter_append, List.map_append]
  cases hb : c.third <;> simp [hb]
theorem firsts_len (l : List Ca) : (firstsS l).length ≤ l.length := by
  unfold firstsS; rw [List.length_map]; exact List.length_filter_le _ _

theorem firsts_gen (l : List Ca) (R : List Pr) (hR : firstsS l = R) (hl : l.length ≤ 10000) (k : Nat) :
    ACall Tryd.prog 18 [.slice none (l.map caAV)] k [] (.slice none (R.map prAV)) [] := by
  have hf0 : firstsS ([] : List Ca) = [] := rfl
  refine ACall.of_body mixed Tryd.func18 rfl (by kernel_rfl) Tryd.ntmps18 (by kernel_rfl) rfl (by simp) (by simp) (by simp) fun σ N hp hpn hk hkn hfree => ?_
  refine Wk ?_
  refine ALoop.nilrow 3 24 6 (by simp (disch := omega) [go_sem, *, -List.reduceReplicate]) ?_
  refine go_loopB (N) mixed (by kernel_rfl) [3, 5, 8, 9, 10, 11, 12, 13, 14, 15, 16, 17, 18, 19, 20] [] (fun m_ s_ σ_ n_ => ∃ (u : Nat) (q : Nat) (acc : List Pr), m_ = l.length - u ∧ s_ 8 = .lit (.int .i64 u) ∧ s_ 3 = .slice (some q) (acc.map prAV) ∧ σ_ (q) = .row 24 6 acc.length ∧ (u ≤ l.length) ∧ (N ≤ q) ∧ (q < n_) ∧ (acc.length ≤ u) ∧ (firstsS (l.take u) = acc)) ⟨_, 0, _, [], rfl, WF, WF, WF, WC, WC, WC, WC, WC⟩ ?_
  intro m_1 s_1 σ_1 n_1 hs_1 hf_1 hn_1 hI_1
  obtain ⟨u, q, acc, hm_1, h1_8, h1_3, e1_0, hu, hq, hqn, hal, hacc⟩ := hI_1
  have h1_2 := (hs_1.at 2 (by decide)).trans WE
  have h1_6 := (hs_1.at 6 (by decide)).trans WE
  have h1_7 := (hs_1.at 7 (by decide)).trans WE
  have hlow : ∀ id, id < N → σ_1 id = σ id := fun id hid => (hf_1.at id (by omega) WQ).trans WH
  by_cases hul : u = l.length
  · rw [hul, List.take_length, hR] at hacc
    subst hacc hul
    clear hR
    exact WM
  · have hui : u < l.length := by omega
    obtain ⟨c, hc⟩ : ∃ c, l[u] = c := ⟨_, rfl⟩
    have hf := firsts_at hui hc
    rw [hacc] at hf
    clear hacc hR
    cases hb : c.third with
    | true =>
      rw [hb, if_pos rfl, List.append_nil] at hf
      refine Wk ?_
      exact ⟨WS, WG, WN, _, (show l.length - (u + 1) < m_1 by omega), u + 1, q, acc, rfl, WF, WF, WF, WC, WC, WC, WC, WC⟩
    | false =>
      rw [hb, if_neg (by simp)] at hf
      refine Wk ?_
      exact ⟨WS, WG, WN, _, (show l.length - (u + 1) < m_1 by omega), u + 1, q, acc ++ [c.first], rfl, WF, WF, WF, WC, WC, WC, WC, WC⟩
theorem refFirsts_gen (l : List Ca) (R : List Pr) (hR : firstsS l = R) (hl : l.length ≤ 10000) (k : Nat) :
    ACall Tryd.prog 19 [.slice none (l.map caAV)] k [] (.slice none (R.map prAV)) [] := by
  have hf0 : firstsS ([] : List Ca) = [] := rfl
  refine ACall.of_body mixed Tryd.func19 rfl (by kernel_rfl) Tryd.ntmps19 (by kernel_rfl) rfl (by simp) (by simp) (by simp) fun σ N hp hpn hk hkn hfree => ?_
  refine Wk ?_
  refine ALoop.nilrow 3 24 6 (by simp (disch := omega) [go_sem, *, -List.reduceReplicate]) ?_
  refine go_loopB (N) mixed (by kernel_rfl) [3, 4, 5, 6, 7, 8, 9, 10, 11, 12, 13, 14, 15, 16, 17, 18, 19, 20, 21, 22, 23, 24] [] (fun m_ s_ σ_ n_ => ∃ (u : Nat) (q : Nat) (acc : List Pr), m_ = l.length - u ∧ s_ 4 = .lit (.int .i64 u) ∧ s_ 3 = .slice (some q) (acc.map prAV) ∧ σ_ (q) = .row 24 6 acc.length ∧ (u ≤ l.length) ∧ (N ≤ q) ∧ (q < n_) ∧ (acc.length ≤ u) ∧ (firstsS (l.take u) = acc)) ⟨_, 0, _, [], rfl, WF, WF, WF, WC, WC, WC, WC, WC⟩ ?_
  intro m_2 s_2 σ_2 n_2 hs_2 hf_2 hn_2 hI_2
  obtain ⟨u, q, acc, hm_2, h2_4, h2_3, e2_0, hu, hq, hqn, hal, hacc⟩ := hI_2
  have h2_0 := (hs_2.at 0 (by decide)).trans WE
  have h2_2 := (hs_2.at 2 (by decide)).trans WE
  have hlow : ∀ id, id < N → σ_2 id = σ id := fun id hid => (hf_2.at id (by omega) WQ).trans WH
  by_cases hul : u = l.length
  · rw [hul, List.take_length, hR] at hacc
    subst hacc hul
    clear hR
    exact WM
  · have hui : u < l.length := by omega
    obtain ⟨c, hc⟩ : ∃ c, l[u] = c := ⟨_, rfl⟩
    have hf := firsts_at hui hc
    rw [hacc] at hf
    clear hacc hR
    cases hb : c.third with
    | true =>
      rw [hb, if_pos rfl, List.append_nil] at hf
      refine Wk ?_
      exact ⟨WS, WG, WN, _, (show l.length - (u + 1) < m_2 by omega), u + 1, q, acc, rfl, WF, WF, WF, WC, WC, WC, WC, WC⟩
    | false =>
      rw [hb, if_neg (by simp)] at hf
      refine Wk ?_
      exact ⟨WS, WG, WN, _, (show l.length - (u + 1) < m_2 by omega), u + 1, q, acc ++ [c.first], rfl, WF, WF, WF, WC, WC, WC, WC, WC⟩
theorem SamePredicates_refl (l : List Pr) (hl : l.length ≤ 100000) (k : Nat) :
    ACall Tryd.prog 17 [.slice none (l.map prAV), .slice none (l.map prAV)] k [] (.lit (.bool true)) [] := by
  refine ACall.of_body mixed Tryd.func17 rfl (by kernel_rfl) Tryd.ntmps17 (by kernel_rfl) rfl (by simp) (by simp) (by simp) fun σ N hp hpn hk hkn hfree => ?_
  refine Wk ?_
  refine go_loopF mixed (by kernel_rfl) [4, 5, 11, 12, 13, 14, 15, 16, 17, 18, 19, 20, 21, 22, 23, 24, 25] [] (fun m_ s_ σ_ n_ => ∃ (u : Nat), m_ = l.length - u ∧ s_ 5 = .lit (.int .i64 u) ∧ (u ≤ l.length)) ⟨_, 0, rfl, WF, WC⟩ ?_
  intro m_3 s_3 σ_3 n_3 hs_3 hf_3 hn_3 hI_3
  obtain ⟨u, hm_3, h3_5, hu⟩ := hI_3
  have h3_0 := (hs_3.at 0 (by decide)).trans WE
  have h3_1 := (hs_3.at 1 (by decide)).trans WE
  have hlow : ∀ id, id < N → σ_3 id = σ id := fun id hid => (hf_3.at id (by omega) WQ).trans WH
  by_cases hul : u = l.length
  · subst hul
    exact W0
  · have hui : u < l.length := by omega
    obtain ⟨c, hc⟩ : ∃ c, l[u] = c := ⟨_, rfl⟩
    refine Wk ?_
    exact ⟨WS, WG, WN, _, (show l.length - (u + 1) < m_3 by omega), u + 1, rfl, WF, WC⟩

theorem Equal_spec (a b : List UInt8) (ha : a.length ≤ 1000000) (hb : b.length ≤ 1000000) (k : Nat) :
    ACall Tryd.prog 58 [.slice none (a.map byteAV), .slice none (b.map byteAV)] k [] (.lit (.bool (decide (a = b)))) [] := by
  by_cases h : a = b
  · subst h
    simp only [decide_true]
    refine ACall.of_body mixed Tryd.func58 rfl (by kernel_rfl) Tryd.ntmps58 (by kernel_rfl) rfl (by simp) (by simp) (by simp) fun σ N hp hpn hk hkn hfree => ?_
    exact W0
  · rw [decide_eq_false h]
    have h1 : ((ByteArray.mk a.toArray) == (ByteArray.mk b.toArray)) = false := by rw [barr_eq]; simp [h]
    have h2 : (a == b) = false := by simp [h]
    have h3 : (a.toArray == b.toArray) = false := by simp [h]
    refine ACall.of_body mixed Tryd.func58 rfl (by kernel_rfl) Tryd.ntmps58 (by kernel_rfl) rfl (by simp) (by simp) (by simp) fun σ N hp hpn hk hkn hfree => ?_
    exact W0
end Go.Proofs.YtaelnglalpiemaaDoor
