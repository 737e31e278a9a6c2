/- Texts O0, O4, O5, O7, O8, C13, U15, U17, U18, U24, joined. -/
import Derived.Test.YtemmlldpmgfblaaGreatDoorMS1

namespace Go.Proofs.YtemmlldpmgfblaaGreatDoor
open Go.Ab
attribute [local irreducible] Go.Ab.tyAV Go.Ab.aw Go.Ab.aops Go.Ab.kReg Go.Ab.aThen Go.Ab.aBlk Go.Ab.acond Go.Ab.aguard Go.Ab.astep Go.Ab.AStepX Go.Ab.aRet
theorem ACall.addPre {P : Program} {f : FuncId} {args : List AV} {k : Nat} {r : AV} (h : ACall P f args k [] r []) (a : Nat) (E : Ent) (hE : E ≠ .none) : ACall P f args k [(a, E)] r [] :=
 ⟨h.1, fun p hp => by simp at hp; subst hp; exact hE, fun q hq => absurd hq List.not_mem_nil, fun W0 g σ n w vals hS hl hv hk hn _ => h.2.2.2 W0 g σ n w vals hS hl hv hk hn (fun p hp => absurd hp List.not_mem_nil)⟩
def ixF {α : Type} (q : α → Bool) : List α → Nat → Int
 | [], _ => -1
 | e :: r, u => if q e = true then u else ixF q r (u + 1)
theorem ixF_any {α : Type} (q : α → Bool) : ∀ (l : List α) (u : Nat), decide (0 ≤ ixF q l u) = l.any q
 | [], _ => rfl
 | e :: r, u => by
  rw [ixF, List.any_cons]
  cases h : q e with
  | true => simp
  | false => simp only [Bool.false_eq_true, if_false, Bool.false_or]; exact ixF_any q r (u + 1)
theorem ixF_le {α : Type} (q : α → Bool) : ∀ (l : List α) (u : Nat), -1 ≤ ixF q l u
 | [], _ => by simp [ixF]
 | e :: r, u => by
  rw [ixF]
  split
  ·omega
  ·exact ixF_le q r (u + 1)
theorem IxBo_spec (l : List Bo) (q : Bo → Bool) (f : FuncId) (a : Nat) (E : Ent) (hE : E ≠ .none) (hf : ∀ x ∈ l, ∀ k, ACall Tryz.prog f [boAV x] k [(a, E)] (.lit (.bool (q x))) []) (hl : l.length ≤ 9223372036854775807) (k : Nat) :
  ACall Tryz.prog 182 [.slice none (l.map boAV), .fn f []] k [(a, E)] (.lit (.int .i64 (ixF q l 0))) [] := by
 obtain ⟨R, hR⟩ : ∃ R, ixF q l 0 = R := ⟨_, rfl⟩
 rw [hR]
 have hdr : l.drop 0 = l := rfl
 refine Bd (hpre := by simp [hE]) Tryz.func182 Tryz.ntmps182 fun σ N hp hpn hk hkn hfree => ?_
 obtain ⟨hd, hdn⟩ := HD0 hp hpn; clear hp hpn
 refine Wk ?_
 refine go_loopF mixed (by kernel_rfl) [4, 5, 8, 9, 10, 11, 12, 13, 14, 15, 16, 17, 18] [] (fun m_ s_ σ_ n_ => ∃ (u : Nat), m_ = l.length - u ∧ s_ 8 = .lit (.int .i64 u) ∧ (u ≤ l.length) ∧ (ixF q (l.drop u) u = R)) ⟨_, 0, rfl, WF, WC, WC⟩ ?_
 intro m_1 s_1 σ_1 n_1 hs_1 hf_1 hn_1 hI_1
 obtain ⟨u, hm_1, h1_8, hu, hno⟩ := hI_1
 have h1_0 := KS hs_1 0
 have h1_1 := KS hs_1 1
 have h1_7 := KS hs_1 7
 have k1_0 := KE hf_1 (a)
 have hlow := KL (N := N) (σ := σ) hf_1
 clear hR hdr
 by_cases hul : u = l.length
 ·subst hul
  rw [List.drop_length] at hno
  simp only [ixF] at hno
  subst hno
  clear hf
  exact W0
 ·have hu1 : u < l.length := by omega
  rw [List.drop_eq_getElem_cons hu1, ixF] at hno
  have c1 := hf _ (List.getElem_mem hu1)
  obtain ⟨z, hz⟩ : ∃ z, l[u] = z := ⟨_, rfl⟩
  rw [hz] at hno c1
  cases hc : q z with
  | true =>
   rw [if_pos hc] at hno
   subst hno
   rw [hc] at c1
   have hcs := And.intro c1 True.intro
   clear c1 hf hc
   exact W0
  | false =>
   rw [if_neg (by rw [hc]; simp)] at hno
   rw [hc] at c1
   have hcs := And.intro c1 True.intro
   clear c1 hf hc
   refine Wk ?_
   exact ⟨WS, WG, WN, _, (show l.length - (u + 1) < m_1 by omega), u + 1, rfl, WF, WC, WC⟩
theorem HasBo_spec (l : List Bo) (q : Bo → Bool) (f : FuncId) (a : Nat) (E : Ent) (hE : E ≠ .none) (hf : ∀ x ∈ l, ∀ k, ACall Tryz.prog f [boAV x] k [(a, E)] (.lit (.bool (q x))) []) (hl : l.length ≤ 9223372036854775807) (k : Nat) :
  ACall Tryz.prog 124 [.slice none (l.map boAV), .fn f []] k [(a, E)] (.lit (.bool (l.any q))) [] := by
 have c1 := IxBo_spec l q f a E hE hf hl
 have h1 := ixF_any q l 0
 have h2 := ixF_le q l 0
 rw [← h1]
 generalize ixF q l 0 = R at *
 clear h1 hf
 refine Bd (hpre := by simp [hE]) Tryz.func124 Tryz.ntmps124 fun σ N hp hpn hk hkn hfree => ?_
 obtain ⟨hd, hdn⟩ := HD0 hp hpn; clear hp hpn
 have hcs := And.intro c1 True.intro
 clear c1
 exact W0
theorem IxBo1_spec (l : List Bo) (q : Bo → Bool) (f : FuncId) (a : Nat) (E : Ent) (hE : E ≠ .none) (hf : ∀ x ∈ l, ∀ k, ACall Tryz.prog f [boAV x, .ptr a [] 0] k [(a, E)] (.lit (.bool (q x))) []) (hl : l.length ≤ 9223372036854775807) (k : Nat) :
  ACall Tryz.prog 182 [.slice none (l.map boAV), .fn f [.ptr a [] 0]] k [(a, E)] (.lit (.int .i64 (ixF q l 0))) [] := by
 obtain ⟨R, hR⟩ : ∃ R, ixF q l 0 = R := ⟨_, rfl⟩
 rw [hR]
 have hdr : l.drop 0 = l := rfl
 refine Bd (hpre := by simp [hE]) Tryz.func182 Tryz.ntmps182 fun σ N hp hpn hk hkn hfree => ?_
 obtain ⟨hd, hdn⟩ := HD0 hp hpn; clear hp hpn
 refine Wk ?_
 refine go_loopF mixed (by kernel_rfl) [4, 5, 8, 9, 10, 11, 12, 13, 14, 15, 16, 17, 18] [] (fun m_ s_ σ_ n_ => ∃ (u : Nat), m_ = l.length - u ∧ s_ 8 = .lit (.int .i64 u) ∧ (u ≤ l.length) ∧ (ixF q (l.drop u) u = R)) ⟨_, 0, rfl, WF, WC, WC⟩ ?_
 intro m_2 s_2 σ_2 n_2 hs_2 hf_2 hn_2 hI_2
 obtain ⟨u, hm_2, h2_8, hu, hno⟩ := hI_2
 have h2_0 := KS hs_2 0
 have h2_1 := KS hs_2 1
 have h2_7 := KS hs_2 7
 have k2_0 := KE hf_2 (a)
 have hlow := KL (N := N) (σ := σ) hf_2
 clear hR hdr
 by_cases hul : u = l.length
 ·subst hul
  rw [List.drop_length] at hno
  simp only [ixF] at hno
  subst hno
  clear hf
  exact W0
 ·have hu1 : u < l.length := by omega
  rw [List.drop_eq_getElem_cons hu1, ixF] at hno
  have c1 := hf _ (List.getElem_mem hu1)
  obtain ⟨z, hz⟩ : ∃ z, l[u] = z := ⟨_, rfl⟩
  rw [hz] at hno c1
  cases hc : q z with
  | true =>
   rw [if_pos hc] at hno
   subst hno
   rw [hc] at c1
   have hcs := And.intro c1 True.intro
   clear c1 hf hc
   exact W0
  | false =>
   rw [if_neg (by rw [hc]; simp)] at hno
   rw [hc] at c1
   have hcs := And.intro c1 True.intro
   clear c1 hf hc
   refine Wk ?_
   exact ⟨WS, WG, WN, _, (show l.length - (u + 1) < m_2 by omega), u + 1, rfl, WF, WC, WC⟩
theorem HasBo1_spec (l : List Bo) (q : Bo → Bool) (f : FuncId) (a : Nat) (E : Ent) (hE : E ≠ .none) (hf : ∀ x ∈ l, ∀ k, ACall Tryz.prog f [boAV x, .ptr a [] 0] k [(a, E)] (.lit (.bool (q x))) []) (hl : l.length ≤ 9223372036854775807) (k : Nat) :
  ACall Tryz.prog 124 [.slice none (l.map boAV), .fn f [.ptr a [] 0]] k [(a, E)] (.lit (.bool (l.any q))) [] := by
 have c1 := IxBo1_spec l q f a E hE hf hl
 have h1 := ixF_any q l 0
 have h2 := ixF_le q l 0
 rw [← h1]
 generalize ixF q l 0 = R at *
 clear h1 hf
 refine Bd (hpre := by simp [hE]) Tryz.func124 Tryz.ntmps124 fun σ N hp hpn hk hkn hfree => ?_
 obtain ⟨hd, hdn⟩ := HD0 hp hpn; clear hp hpn
 have hcs := And.intro c1 True.intro
 clear c1
 exact W0
theorem IxPr_spec (l : List Pr) (q : Pr → Bool) (f : FuncId) (a : Nat) (E : Ent) (hE : E ≠ .none) (hf : ∀ x ∈ l, ∀ k, ACall Tryz.prog f [prAV x] k [(a, E)] (.lit (.bool (q x))) []) (hl : l.length ≤ 9223372036854775807) (k : Nat) :
  ACall Tryz.prog 212 [.slice none (l.map prAV), .fn f []] k [(a, E)] (.lit (.int .i64 (ixF q l 0))) [] := by
 obtain ⟨R, hR⟩ : ∃ R, ixF q l 0 = R := ⟨_, rfl⟩
 rw [hR]
 have hdr : l.drop 0 = l := rfl
 refine Bd (hpre := by simp [hE]) Tryz.func212 Tryz.ntmps212 fun σ N hp hpn hk hkn hfree => ?_
 obtain ⟨hd, hdn⟩ := HD0 hp hpn; clear hp hpn
 refine Wk ?_
 refine go_loopF mixed (by kernel_rfl) [4, 5, 8, 9, 10, 11, 12, 13, 14, 15, 16, 17, 18] [] (fun m_ s_ σ_ n_ => ∃ (u : Nat), m_ = l.length - u ∧ s_ 8 = .lit (.int .i64 u) ∧ (u ≤ l.length) ∧ (ixF q (l.drop u) u = R)) ⟨_, 0, rfl, WF, WC, WC⟩ ?_
 intro m_3 s_3 σ_3 n_3 hs_3 hf_3 hn_3 hI_3
 obtain ⟨u, hm_3, h3_8, hu, hno⟩ := hI_3
 have h3_0 := KS hs_3 0
 have h3_1 := KS hs_3 1
 have h3_7 := KS hs_3 7
 have k3_0 := KE hf_3 (a)
 have hlow := KL (N := N) (σ := σ) hf_3
 clear hR hdr
 by_cases hul : u = l.length
 ·subst hul
  rw [List.drop_length] at hno
  simp only [ixF] at hno
  subst hno
  clear hf
  exact W0
 ·have hu1 : u < l.length := by omega
  rw [List.drop_eq_getElem_cons hu1, ixF] at hno
  have c1 := hf _ (List.getElem_mem hu1)
  obtain ⟨z, hz⟩ : ∃ z, l[u] = z := ⟨_, rfl⟩
  rw [hz] at hno c1
  cases hc : q z with
  | true =>
   rw [if_pos hc] at hno
   subst hno
   rw [hc] at c1
   have hcs := And.intro c1 True.intro
   clear c1 hf hc
   exact W0
  | false =>
   rw [if_neg (by rw [hc]; simp)] at hno
   rw [hc] at c1
   have hcs := And.intro c1 True.intro
   clear c1 hf hc
   refine Wk ?_
   exact ⟨WS, WG, WN, _, (show l.length - (u + 1) < m_3 by omega), u + 1, rfl, WF, WC, WC⟩
theorem HasPr_spec (l : List Pr) (q : Pr → Bool) (f : FuncId) (a : Nat) (E : Ent) (hE : E ≠ .none) (hf : ∀ x ∈ l, ∀ k, ACall Tryz.prog f [prAV x] k [(a, E)] (.lit (.bool (q x))) []) (hl : l.length ≤ 9223372036854775807) (k : Nat) :
  ACall Tryz.prog 183 [.slice none (l.map prAV), .fn f []] k [(a, E)] (.lit (.bool (l.any q))) [] := by
 have c1 := IxPr_spec l q f a E hE hf hl
 have h1 := ixF_any q l 0
 have h2 := ixF_le q l 0
 rw [← h1]
 generalize ixF q l 0 = R at *
 clear h1 hf
 refine Bd (hpre := by simp [hE]) Tryz.func183 Tryz.ntmps183 fun σ N hp hpn hk hkn hfree => ?_
 obtain ⟨hd, hdn⟩ := HD0 hp hpn; clear hp hpn
 have hcs := And.intro c1 True.intro
 clear c1
 exact W0
theorem IxCa_spec (l : List Ca) (q : Ca → Bool) (f : FuncId) (a : Nat) (E : Ent) (hE : E ≠ .none) (hf : ∀ x ∈ l, ∀ k, ACall Tryz.prog f [caAV x] k [(a, E)] (.lit (.bool (q x))) []) (hl : l.length ≤ 9223372036854775807) (k : Nat) :
  ACall Tryz.prog 180 [.slice none (l.map caAV), .fn f []] k [(a, E)] (.lit (.int .i64 (ixF q l 0))) [] := by
 obtain ⟨R, hR⟩ : ∃ R, ixF q l 0 = R := ⟨_, rfl⟩
 rw [hR]
 have hdr : l.drop 0 = l := rfl
 refine Bd (hpre := by simp [hE]) Tryz.func180 Tryz.ntmps180 fun σ N hp hpn hk hkn hfree => ?_
 obtain ⟨hd, hdn⟩ := HD0 hp hpn; clear hp hpn
 refine Wk ?_
 refine go_loopF mixed (by kernel_rfl) [4, 5, 8, 9, 10, 11, 12, 13, 14, 15, 16, 17, 18] [] (fun m_ s_ σ_ n_ => ∃ (u : Nat), m_ = l.length - u ∧ s_ 8 = .lit (.int .i64 u) ∧ (u ≤ l.length) ∧ (ixF q (l.drop u) u = R)) ⟨_, 0, rfl, WF, WC, WC⟩ ?_
 intro m_4 s_4 σ_4 n_4 hs_4 hf_4 hn_4 hI_4
 obtain ⟨u, hm_4, h4_8, hu, hno⟩ := hI_4
 have h4_0 := KS hs_4 0
 have h4_1 := KS hs_4 1
 have h4_7 := KS hs_4 7
 have k4_0 := KE hf_4 (a)
 have hlow := KL (N := N) (σ := σ) hf_4
 clear hR hdr
 by_cases hul : u = l.length
 ·subst hul
  rw [List.drop_length] at hno
  simp only [ixF] at hno
  subst hno
  clear hf
  exact W0
 ·have hu1 : u < l.length := by omega
  rw [List.drop_eq_getElem_cons hu1, ixF] at hno
  have c1 := hf _ (List.getElem_mem hu1)
  obtain ⟨z, hz⟩ : ∃ z, l[u] = z := ⟨_, rfl⟩
  rw [hz] at hno c1
  cases hc : q z with
  | true =>
   rw [if_pos hc] at hno
   subst hno
   rw [hc] at c1
   have hcs := And.intro c1 True.intro
   clear c1 hf hc
   exact W0
  | false =>
   rw [if_neg (by rw [hc]; simp)] at hno
   rw [hc] at c1
   have hcs := And.intro c1 True.intro
   clear c1 hf hc
   refine Wk ?_
   exact ⟨WS, WG, WN, _, (show l.length - (u + 1) < m_4 by omega), u + 1, rfl, WF, WC, WC⟩
theorem HasCa_spec (l : List Ca) (q : Ca → Bool) (f : FuncId) (a : Nat) (E : Ent) (hE : E ≠ .none) (hf : ∀ x ∈ l, ∀ k, ACall Tryz.prog f [caAV x] k [(a, E)] (.lit (.bool (q x))) []) (hl : l.length ≤ 9223372036854775807) (k : Nat) :
  ACall Tryz.prog 121 [.slice none (l.map caAV), .fn f []] k [(a, E)] (.lit (.bool (l.any q))) [] := by
 have c1 := IxCa_spec l q f a E hE hf hl
 have h1 := ixF_any q l 0
 have h2 := ixF_le q l 0
 rw [← h1]
 generalize ixF q l 0 = R at *
 clear h1 hf
 refine Bd (hpre := by simp [hE]) Tryz.func121 Tryz.ntmps121 fun σ N hp hpn hk hkn hfree => ?_
 obtain ⟨hd, hdn⟩ := HD0 hp hpn; clear hp hpn
 have hcs := And.intro c1 True.intro
 clear c1
 exact W0

theorem Req_spec (r : Rq) (k : Nat) : ACall Tryz.prog 110 [rqAV r] k [] (.lit (.bool (rqB r))) [] := by
 obtain ⟨x, y⟩ := r
 unfold rqAV
 by_cases h1 : 0 ≤ x
 ·by_cases h2 : x < 8
  ·by_cases h3 : 1 ≤ y
   ·by_cases h4 : y ≤ 281474976710656
    ·have hr : rqB ⟨x, y⟩ = true := by simp [rqB, *]
     rw [hr]
     refine Bd Tryz.func110 Tryz.ntmps110 fun σ N hp hpn hk hkn hfree => ?_
     exact W0
    ·have hr : rqB ⟨x, y⟩ = false := by simp [rqB, *]
     rw [hr]
     refine Bd Tryz.func110 Tryz.ntmps110 fun σ N hp hpn hk hkn hfree => ?_
     exact W0
   ·have hr : rqB ⟨x, y⟩ = false := by simp [rqB, *]
    rw [hr]
    refine Bd Tryz.func110 Tryz.ntmps110 fun σ N hp hpn hk hkn hfree => ?_
    exact W0
  ·have hr : rqB ⟨x, y⟩ = false := by simp [rqB, *]
   rw [hr]
   refine Bd Tryz.func110 Tryz.ntmps110 fun σ N hp hpn hk hkn hfree => ?_
   exact W0
 ·have hr : rqB ⟨x, y⟩ = false := by simp [rqB, *]
  rw [hr]
  refine Bd Tryz.func110 Tryz.ntmps110 fun σ N hp hpn hk hkn hfree => ?_
  exact W0
def longB (d : Bo) : Bool := decide (8 < d.conds.length)
def badBo (d : Bo) : Bool := decide (d.ticket.length < 1) || decide (1024 < d.ticket.length) || d.conds.any fun p => !predB p
def ridB (d : Bo) : Bool := d.conds.any fun p => decide (p.kind = 7)
structure BoIn (d : Bo) : Prop where
 tl : d.ticket.length ≤ 9223372036854775807
 cl : d.conds.length ≤ 9223372036854775807
 ok : ∀ p ∈ d.conds, PrOk p
structure BuIn (b : Bu) : Prop where
 cl : b.cavs.length ≤ 1000
 dl : b.dis.length ≤ 1000
 ok : ∀ c ∈ b.cavs, PrOk c.first
 di : ∀ d ∈ b.dis, BoIn d
theorem counts1_spec (x : Bo) (k : Nat) : ACall Tryz.prog 179 [boAV x] k [] (.lit (.bool (longB x))) [] := by
 obtain ⟨ti, L, pf⟩ := x
 unfold longB boAV
 simp only
 by_cases h : 8 < L.length
 ·have hi : (8 : Int) < (L.length : Int) := by omega
  rw [decide_eq_true h]
  refine Bd Tryz.func179 Tryz.ntmps179 fun σ N hp hpn hk hkn hfree => ?_
  exact W0
 ·have hi : ¬ (8 : Int) < (L.length : Int) := by omega
  rw [decide_eq_false h]
  refine Bd Tryz.func179 Tryz.ntmps179 fun σ N hp hpn hk hkn hfree => ?_
  exact W0
theorem malf1_spec (p : Pr) (hp : PrOk p) (d k : Nat) : ACall Tryz.prog 184 [prAV p] k [(d, bitsG)] (.lit (.bool (!predB p))) [] := by
 have c1 := predValid_spec p hp d
 generalize predB p = q at *
 refine Bd Tryz.func184 Tryz.ntmps184 fun σ N hp hpn hk hkn hfree => ?_
 obtain ⟨hd, hdn⟩ := HD0 hp hpn; clear hp hpn
 have hcs := And.intro c1 True.intro
 clear c1
 exact W0
theorem rides1_spec (p : Pr) (k : Nat) : ACall Tryz.prog 185 [prAV p] k [] (.lit (.bool (decide (p.kind = 7)))) [] := by
 obtain ⟨kd, ms, fr, to, nm, nu⟩ := p
 unfold prAV
 simp only
 by_cases h : kd = 7
 ·subst h
  rw [decide_eq_true rfl]
  refine Bd Tryz.func185 Tryz.ntmps185 fun σ N hp hpn hk hkn hfree => ?_
  exact W0
 ·have hb : (kd == 7) = false := by rw [beq_eq_false_iff_ne]; exact h
  rw [decide_eq_false h]
  refine Bd Tryz.func185 Tryz.ntmps185 fun σ N hp hpn hk hkn hfree => ?_
  exact W0
theorem parts1_spec (c : Ca) (hp : PrOk c.first) (d k : Nat) : ACall Tryz.prog 122 [caAV c] k [(d, bitsG)] (.lit (.bool (!cavB c))) [] := by
 have c1 := cavValid_spec c hp d
 generalize cavB c = q at *
 refine Bd Tryz.func122 Tryz.ntmps122 fun σ N hp hpn hk hkn hfree => ?_
 obtain ⟨hd, hdn⟩ := HD0 hp hpn; clear hp hpn
 have hcs := And.intro c1 True.intro
 clear c1
 exact W0
theorem twice1_spec (x z : Bo) (hx : x.ticket.length ≤ 1024) (hz : z.ticket.length ≤ 1024) (a k : Nat) : ACall Tryz.prog 186 [boAV x, .ptr a [] 0] k [(a, .box 70 (boAV z))] (.lit (.bool (decide (x.ticket = z.ticket)))) [] := by
 obtain ⟨xt, xc, xp⟩ := x
 obtain ⟨zt, zc, zp⟩ := z
 unfold boAV
 simp only at hx hz ⊢
 have c1 := Equal_spec xt zt (by omega) (by omega)
 generalize decide (xt = zt) = q at *
 refine Bd Tryz.func186 Tryz.ntmps186 fun σ N hp hpn hk hkn hfree => ?_
 obtain ⟨hd, hdn⟩ := HD0 hp hpn; clear hp hpn
 have hcs := And.intro c1 True.intro
 clear c1
 exact W0
theorem malf_spec (x : Bo) (hx : BoIn x) (d k : Nat) : ACall Tryz.prog 125 [boAV x] k [(d, bitsG)] (.lit (.bool (badBo x))) [] := by
 have c1 := HasPr_spec x.conds (fun p => !predB p) 184 d bitsG (by simp) (fun p hp k => malf1_spec p (hx.ok p hp) d k) hx.cl
 obtain ⟨ti, L, pf⟩ := x
 unfold badBo boAV
 simp only at c1 ⊢
 clear hx
 generalize (L.any fun p => !predB p) = q at *
 by_cases h1 : ti.length < 1
 ·rw [decide_eq_true h1]
  have h1i : (ti.length : Int) < 1 := by omega
  simp only [Bool.true_or]
  clear c1
  refine Bd Tryz.func125 Tryz.ntmps125 fun σ N hp hpn hk hkn hfree => ?_
  obtain ⟨hd, hdn⟩ := HD0 hp hpn; clear hp hpn
  exact W0
 ·have h1i : ¬ (ti.length : Int) < 1 := by omega
  rw [decide_eq_false h1]
  by_cases h2 : 1024 < ti.length
  ·rw [decide_eq_true h2]
   have h2i : (1024 : Int) < (ti.length : Int) := by omega
   simp only [Bool.true_or, Bool.or_true]
   clear c1
   refine Bd Tryz.func125 Tryz.ntmps125 fun σ N hp hpn hk hkn hfree => ?_
   obtain ⟨hd, hdn⟩ := HD0 hp hpn; clear hp hpn
   exact W0
  ·have h2i : ¬ (1024 : Int) < (ti.length : Int) := by omega
   rw [decide_eq_false h2]
   simp only [Bool.false_or]
   refine Bd Tryz.func125 Tryz.ntmps125 fun σ N hp hpn hk hkn hfree => ?_
   obtain ⟨hd, hdn⟩ := HD0 hp hpn; clear hp hpn
   have hcs := And.intro c1 True.intro
   clear c1
   exact W0
theorem rides_spec (x : Bo) (hx : BoIn x) (a : Nat) (E : Ent) (hE : E ≠ .none) (k : Nat) : ACall Tryz.prog 126 [boAV x] k [(a, E)] (.lit (.bool (ridB x))) [] := by
 have c1 := HasPr_spec x.conds (fun p => decide (p.kind = 7)) 185 a E hE (fun p hp k => ACall.addPre (rides1_spec p k) a E hE) hx.cl
 obtain ⟨ti, L, pf⟩ := x
 unfold ridB boAV
 simp only at c1 ⊢
 clear hx
 generalize (L.any fun p => decide (p.kind = 7)) = q at *
 refine Bd (hpre := by simp [hE]) Tryz.func126 Tryz.ntmps126 fun σ N hp hpn hk hkn hfree => ?_
 obtain ⟨hd, hdn⟩ := HD0 hp hpn; clear hp hpn
 have hcs := And.intro c1 True.intro
 clear c1
 exact W0
def twU (l : List Bo) (u : Nat) : Bool := (List.range u).any fun i => (l.take i).any fun x => decide (x.ticket = (l.getD i bo0).ticket)
theorem twU_succ (l : List Bo) (u : Nat) : twU l (u + 1) = (twU l u || (l.take u).any fun x => decide (x.ticket = (l.getD u bo0).ticket)) := by
 unfold twU; rw [List.range_succ, List.any_append]; simp
theorem twU_le (l : List Bo) {u n : Nat} (h : u ≤ n) (ht : twU l u = true) : twU l n = true := by
 obtain ⟨m, rfl⟩ := Nat.exists_eq_add_of_le h
 clear h
 induction m with
 | zero => exact ht
 | succ m ih => rw [← Nat.add_assoc, twU_succ, ih]; rfl
theorem twice_spec (l : List Bo) (hl : l.length ≤ 1000) (ht : ∀ x ∈ l, x.ticket.length ≤ 1024) (k : Nat) : ACall Tryz.prog 127 [.slice none (l.map boAV)] k [] (.lit (.bool (twU l l.length))) [] := by
 obtain ⟨R, hR⟩ : ∃ R, twU l l.length = R := ⟨_, rfl⟩
 rw [hR]
 have h0 : twU l 0 = false := rfl
 refine Bd Tryz.func127 Tryz.ntmps127 fun σ N hp hpn hk hkn hfree => ?_
 refine Wk ?_
 refine go_loopF mixed (by kernel_rfl) [2, 3, 4, 7, 8, 9, 10, 11, 12, 13, 14, 15, 16, 17] [] (fun m_ s_ σ_ n_ => ∃ (u : Nat), m_ = l.length - u ∧ s_ 7 = .lit (.int .i64 u) ∧ (u ≤ l.length) ∧ (twU l u = false)) ⟨_, 0, rfl, WF, WC, WC⟩ ?_
 intro m_1 s_1 σ_1 n_1 hs_1 hf_1 hn_1 hI_1
 obtain ⟨u, hm_1, h1_7, hu, htw⟩ := hI_1
 have h1_0 := KS hs_1 0
 have h1_5 := KS hs_1 5
 have h1_6 := KS hs_1 6
 have hlow := KL (N := N) (σ := σ) hf_1
 clear h0
 by_cases hul : u = l.length
 ·subst hul
  rw [hR] at htw
  subst htw
  clear hR ht
  exact W0
 ·have hu1 : u < l.length := by omega
  have hs := twU_succ l u
  rw [htw, Bool.false_or, List.getD_eq_getElem?_getD, List.getElem?_eq_getElem hu1, Option.getD_some] at hs
  have hz1 := ht _ (List.getElem_mem hu1)
  obtain ⟨z, hz⟩ : ∃ z, l[u] = z := ⟨_, rfl⟩
  rw [hz] at hs hz1
  have c1 := HasBo1_spec (l.take u) (fun x => decide (x.ticket = z.ticket)) 186 (n_1 + 1 + 3) (.box 70 (boAV z)) (by simp) (fun x hx k => twice1_spec x z (ht x (List.mem_of_mem_take hx)) hz1 _ k) (by rw [List.length_take]; omega)
  have hta : (l.map boAV).take u = (l.take u).map boAV := by rw [List.map_take]
  generalize l.take u = T at *
  cases hc : twU l (u + 1) with
  | true =>
   have hR1 := twU_le l (show u + 1 ≤ l.length by omega) hc
   rw [hR] at hR1
   subst hR1
   rw [← hs, hc] at c1
   have hcs := And.intro c1 True.intro
   clear c1 ht hR htw hs
   exact W0
  | false =>
   rw [← hs, hc] at c1
   have hcs := And.intro c1 True.intro
   clear c1 ht hR htw hs
   refine Wk ?_
   exact ⟨WS, WG, WN, _, (show l.length - (u + 1) < m_1 by omega), u + 1, rfl, WF, WC, WC⟩
def cntB (b : Bu) : Bool := decide (64 < b.cavs.length) || (decide (8 < thirdsS b.cavs) || (decide (8 < b.dis.length) || b.dis.any longB))
theorem counts_spec (b : Bu) (hb : BuIn b) (a : Nat) (E : Ent) (hE : E ≠ .none) (k : Nat) : ACall Tryz.prog 120 [buAV b] k [(a, E)] (.lit (.bool (cntB b))) [] := by
 have c1 := firsts_gen b.cavs _ rfl (by have := hb.cl; omega)
 have h1 := firsts_len b.cavs
 have c2 := HasBo_spec b.dis longB 179 a E hE (fun x _ k => ACall.addPre (counts1_spec x k) a E hE) (by have := hb.dl; omega)
 have hcl := hb.cl
 have hdl := hb.dl
 clear hb
 obtain ⟨rq, ep, se, L, pf, ds⟩ := b
 unfold cntB buAV thirdsS
 simp only at c1 c2 h1 hcl hdl ⊢
 generalize firstsS L = F at *
 generalize ds.any longB = q at *
 by_cases g1 : 64 < L.length
 ·have g1i : (64 : Int) < (L.length : Int) := by omega
  rw [decide_eq_true g1]
  simp only [Bool.true_or]
  clear c2
  refine Bd (hpre := by simp [hE]) Tryz.func120 Tryz.ntmps120 fun σ N hp hpn hk hkn hfree => ?_
  obtain ⟨hd, hdn⟩ := HD0 hp hpn; clear hp hpn
  have hcs := And.intro c1 True.intro
  clear c1
  exact W0
 have g1i : ¬ (64 : Int) < (L.length : Int) := by omega
 rw [decide_eq_false g1]
 by_cases g2 : 8 < L.length - F.length
 ·have g2i : (8 : Int) < (L.length : Int) - (F.length : Int) := by omega
  rw [decide_eq_true g2]
  simp only [Bool.true_or, Bool.false_or]
  clear c2
  refine Bd (hpre := by simp [hE]) Tryz.func120 Tryz.ntmps120 fun σ N hp hpn hk hkn hfree => ?_
  obtain ⟨hd, hdn⟩ := HD0 hp hpn; clear hp hpn
  have hcs := And.intro c1 True.intro
  clear c1
  exact W0
 have g2i : ¬ (8 : Int) < (L.length : Int) - (F.length : Int) := by omega
 rw [decide_eq_false g2]
 by_cases g3 : 8 < ds.length
 ·have g3i : (8 : Int) < (ds.length : Int) := by omega
  rw [decide_eq_true g3]
  simp only [Bool.true_or, Bool.false_or]
  clear c2
  refine Bd (hpre := by simp [hE]) Tryz.func120 Tryz.ntmps120 fun σ N hp hpn hk hkn hfree => ?_
  obtain ⟨hd, hdn⟩ := HD0 hp hpn; clear hp hpn
  have hcs := And.intro c1 True.intro
  clear c1
  exact W0
 have g3i : ¬ (8 : Int) < (ds.length : Int) := by omega
 rw [decide_eq_false g3]
 simp only [Bool.false_or]
 refine Bd (hpre := by simp [hE]) Tryz.func120 Tryz.ntmps120 fun σ N hp hpn hk hkn hfree => ?_
 obtain ⟨hd, hdn⟩ := HD0 hp hpn; clear hp hpn
 have hcs := And.intro c1 (And.intro c2 True.intro)
 clear c1 c2
 exact W0

def rngB (b : Bu) : Bool := !rqB b.req || (decide (b.epoch < 1) || (decide (1000 < b.epoch) || (decide (b.serial < 1) || decide (1073741824 < b.serial))))
def partsS (b : Bu) : Nat := if rngB b = true then 1 else if cntB b = true then 2 else if b.cavs.any (fun c => !cavB c) = true ∨ b.dis.any badBo = true then 5 else if b.dis.any ridB = true then 6 else if twU b.dis b.dis.length = true then 10 else 0
theorem any_false {α : Type} {l : List α} {q : α → Bool} (h : l.any q = false) : ∀ x ∈ l, q x = false := fun x hx => by
 cases hq : q x with
 | false => rfl
 | true => rw [List.any_eq_true.2 ⟨x, hx, hq⟩] at h; cases h
theorem badBo_false {d : Bo} (h : badBo d = false) : 1 ≤ d.ticket.length ∧ d.ticket.length ≤ 1024 ∧ ∀ p ∈ d.conds, predB p = true := by
 unfold badBo at h
 simp only [Bool.or_eq_false_iff, decide_eq_false_iff_not] at h
 obtain ⟨⟨h1, h2⟩, h3⟩ := h
 exact ⟨by omega, by omega, fun p hp => by simpa using any_false h3 p hp⟩
theorem parts_valid {b : Bu} (hb : BuIn b) (h : partsS b = 0) : BuV b := by
 unfold partsS at h
 split at h
 ·cases h
 rename_i h1
 split at h
 ·cases h
 rename_i h2
 split at h
 ·cases h
 rename_i h3
 simp only [Bool.not_eq_true] at h1 h2
 unfold rngB at h1
 simp only [Bool.or_eq_false_iff, decide_eq_false_iff_not, Bool.not_eq_false'] at h1
 unfold cntB at h2
 simp only [Bool.or_eq_false_iff, decide_eq_false_iff_not] at h2
 simp only [not_or, Bool.not_eq_true] at h3
 obtain ⟨a1, a2, a3, a4, a5⟩ := h1
 obtain ⟨b1, b2, b3, b4⟩ := h2
 refine ⟨a1, by omega, by omega, by omega, by omega, by omega, fun c hc => ⟨by simpa using any_false h3.1 c hc, hb.ok c hc⟩, by omega, fun d hd => ?_⟩
 obtain ⟨c1, c2, c3⟩ := badBo_false (any_false h3.2 d hd)
 have c4 := any_false b4 d hd
 unfold longB at c4
 exact ⟨c1, c2, by simpa using c4, fun p hp => ⟨c3 p hp, (hb.di d hd).ok p hp⟩⟩
set_option maxHeartbeats 1000000 in
theorem parts_spec (b : Bu) (hb : BuIn b) (d k : Nat) : ACall Tryz.prog 56 [buAV b] k [(d, bitsG)] (.lit (.int .i64 (partsS b : Nat))) [] := by
 have c1 := Req_spec b.req
 have c2 := counts_spec b hb d bitsG (by simp)
 have c3 := HasCa_spec b.cavs (fun c => !cavB c) 122 d bitsG (by simp) (fun x hx k => parts1_spec x (hb.ok x hx) d k) (by have := hb.cl; omega)
 have c4 := HasBo_spec b.dis badBo 125 d bitsG (by simp) (fun x hx k => malf_spec x (hb.di x hx) d k) (by have := hb.dl; omega)
 have c5 := HasBo_spec b.dis ridB 126 d bitsG (by simp) (fun x hx k => rides_spec x (hb.di x hx) d bitsG (by simp) k) (by have := hb.dl; omega)
 have c6 : b.dis.any badBo = false → ∀ k, ACall Tryz.prog 127 [.slice none (b.dis.map boAV)] k [] (.lit (.bool (twU b.dis b.dis.length))) [] := fun h k => twice_spec b.dis hb.dl (fun x hx => (badBo_false (any_false h x hx)).2.1) k
 clear hb
 unfold partsS rngB
 generalize cntB b = vc at *
 obtain ⟨rq, ep, se, L, pf, ds⟩ := b
 have hbA : buAV ⟨rq, ep, se, L, pf, ds⟩ = .agg [rqAV rq, .lit (.int .i64 ep), .lit (.int .i64 se), .slice none (L.map caAV), tagAV pf, .slice none (ds.map boAV)] := rfl
 simp only at c1 c2 c3 c4 c5 c6 ⊢
 generalize ds.any badBo = vb at *
 generalize ds.any ridB = vr at *
 generalize twU ds ds.length = vt at *
 generalize (L.any fun c => !cavB c) = vl at *
 cases hr : rqB rq with
 | false =>
  rw [hr] at c1
  simp only [Bool.not_false, Bool.true_or, if_true]
  clear c2 c3 c4 c5 c6
  refine Bd Tryz.func56 Tryz.ntmps56 fun σ N hp hpn hk hkn hfree => ?_
  obtain ⟨hd, hdn⟩ := HD0 hp hpn; clear hp hpn
  have hcs := And.intro c1 True.intro
  clear c1
  exact W0
 | true =>
  rw [hr] at c1
  simp only [Bool.not_true, Bool.false_or]
  by_cases g1 : ep < 1
  ·rw [decide_eq_true g1]
   simp only [Bool.true_or, if_true]
   clear c2 c3 c4 c5 c6
   refine Bd Tryz.func56 Tryz.ntmps56 fun σ N hp hpn hk hkn hfree => ?_
   obtain ⟨hd, hdn⟩ := HD0 hp hpn; clear hp hpn
   have hcs := And.intro c1 True.intro
   clear c1
   exact W0
  rw [decide_eq_false g1]
  by_cases g2 : 1000 < ep
  ·rw [decide_eq_true g2]
   simp only [Bool.true_or, Bool.false_or, if_true]
   clear c2 c3 c4 c5 c6
   refine Bd Tryz.func56 Tryz.ntmps56 fun σ N hp hpn hk hkn hfree => ?_
   obtain ⟨hd, hdn⟩ := HD0 hp hpn; clear hp hpn
   have hcs := And.intro c1 True.intro
   clear c1
   exact W0
  rw [decide_eq_false g2]
  by_cases g3 : se < 1
  ·rw [decide_eq_true g3]
   simp only [Bool.true_or, Bool.false_or, if_true]
   clear c2 c3 c4 c5 c6
   refine Bd Tryz.func56 Tryz.ntmps56 fun σ N hp hpn hk hkn hfree => ?_
   obtain ⟨hd, hdn⟩ := HD0 hp hpn; clear hp hpn
   have hcs := And.intro c1 True.intro
   clear c1
   exact W0
  rw [decide_eq_false g3]
  by_cases g4 : 1073741824 < se
  ·rw [decide_eq_true g4]
   simp only [Bool.or_true, if_true]
   clear c2 c3 c4 c5 c6
   refine Bd Tryz.func56 Tryz.ntmps56 fun σ N hp hpn hk hkn hfree => ?_
   obtain ⟨hd, hdn⟩ := HD0 hp hpn; clear hp hpn
   have hcs := And.intro c1 True.intro
   clear c1
   exact W0
  rw [decide_eq_false g4]
  simp only [Bool.or_self, Bool.false_eq_true, if_false]
  cases vc with
  | true =>
   simp only [if_true]
   clear c3 c4 c5 c6
   refine Bd Tryz.func56 Tryz.ntmps56 fun σ N hp hpn hk hkn hfree => ?_
   obtain ⟨hd, hdn⟩ := HD0 hp hpn; clear hp hpn
   have hcs := And.intro c1 (And.intro c2 True.intro)
   clear c1 c2
   exact W0
  | false =>
   simp only [Bool.false_eq_true, if_false]
   cases vl with
   | true =>
    simp only [true_or, if_true]
    clear c4 c5 c6
    refine Bd Tryz.func56 Tryz.ntmps56 fun σ N hp hpn hk hkn hfree => ?_
    obtain ⟨hd, hdn⟩ := HD0 hp hpn; clear hp hpn
    have hcs := And.intro c1 (And.intro c2 (And.intro c3 True.intro))
    clear c1 c2 c3
    exact W0
   | false =>
    simp only [Bool.false_eq_true, false_or]
    cases vb with
    | true =>
     simp only [if_true]
     clear c5 c6
     refine Bd Tryz.func56 Tryz.ntmps56 fun σ N hp hpn hk hkn hfree => ?_
     obtain ⟨hd, hdn⟩ := HD0 hp hpn; clear hp hpn
     have hcs := And.intro c1 (And.intro c2 (And.intro c3 (And.intro c4 True.intro)))
     clear c1 c2 c3 c4
     exact W0
    | false =>
     simp only [Bool.false_eq_true, if_false]
     have c6 := c6 rfl
     cases vr with
     | true =>
      simp only [if_true]
      clear c6
      refine Bd Tryz.func56 Tryz.ntmps56 fun σ N hp hpn hk hkn hfree => ?_
      obtain ⟨hd, hdn⟩ := HD0 hp hpn; clear hp hpn
      have hcs := And.intro c1 (And.intro c2 (And.intro c3 (And.intro c4 (And.intro c5 True.intro))))
      clear c1 c2 c3 c4 c5
      exact W0
     | false =>
      simp only [Bool.false_eq_true, if_false]
      cases vt with
      | true =>
       simp only [if_true]
       refine Bd Tryz.func56 Tryz.ntmps56 fun σ N hp hpn hk hkn hfree => ?_
       obtain ⟨hd, hdn⟩ := HD0 hp hpn; clear hp hpn
       have hcs := And.intro c1 (And.intro c2 (And.intro c3 (And.intro c4 (And.intro c5 (And.intro c6 True.intro)))))
       clear c1 c2 c3 c4 c5 c6
       exact W0
      | false =>
       simp only [Bool.false_eq_true, if_false]
       refine Bd Tryz.func56 Tryz.ntmps56 fun σ N hp hpn hk hkn hfree => ?_
       obtain ⟨hd, hdn⟩ := HD0 hp hpn; clear hp hpn
       have hcs := And.intro c1 (And.intro c2 (And.intro c3 (And.intro c4 (And.intro c5 (And.intro c6 True.intro)))))
       clear c1 c2 c3 c4 c5 c6
       exact W0
def chkS (b : Bu) : Nat := if partsS b ≠ 0 then partsS b else if 4096 < (encBu b).length then 2 else 0
theorem chk_valid {b : Bu} (hb : BuIn b) (h : chkS b = 0) : BuV b ∧ (encBu b).length ≤ 4096 := by
 unfold chkS at h
 split at h
 ·rename_i h1; exact absurd h h1
 ·rename_i h1
  split at h
  ·cases h
  ·exact ⟨parts_valid hb (by simpa using h1), by omega⟩
theorem Check_spec (b : Bu) (hb : BuIn b) (d k : Nat) : ACall Tryz.prog 18 [buAV b] k [(d, bitsG)] (.lit (.int .i64 (chkS b : Nat))) [] := by
 have c1 := parts_spec b hb d
 have hv := parts_valid hb
 unfold chkS
 by_cases h : partsS b = 0
 ·have c2 := encoded_spec b (hv h) d
  rw [if_neg (by simpa using h)]
  rw [h] at c1
  clear hv hb h
  generalize encBu b = x at *
  by_cases h2 : 4096 < x.length
  ·have h2i : (4096 : Int) < (x.length : Int) := by omega
   rw [if_pos h2]
   refine Bd Tryz.func18 Tryz.ntmps18 fun σ N hp hpn hk hkn hfree => ?_
   obtain ⟨hd, hdn⟩ := HD0 hp hpn; clear hp hpn
   have hcs := And.intro c1 (And.intro c2 True.intro)
   clear c1 c2
   exact W0
  ·have h2i : ¬ (4096 : Int) < (x.length : Int) := by omega
   rw [if_neg h2]
   refine Bd Tryz.func18 Tryz.ntmps18 fun σ N hp hpn hk hkn hfree => ?_
   obtain ⟨hd, hdn⟩ := HD0 hp hpn; clear hp hpn
   have hcs := And.intro c1 (And.intro c2 True.intro)
   clear c1 c2
   exact W0
 ·rw [if_pos h]
  clear hv hb
  generalize partsS b = e at *
  have hei : ((e : Int) != 0) = true := by simp; omega
  refine Bd Tryz.func18 Tryz.ntmps18 fun σ N hp hpn hk hkn hfree => ?_
  obtain ⟨hd, hdn⟩ := HD0 hp hpn; clear hp hpn
  have hcs := And.intro c1 True.intro
  clear c1
  exact W0
def encBS (b : Bu) : List UInt8 × Nat := if chkS b = 0 then (encBu b, 0) else ([], chkS b)
theorem EncodeB_spec (b : Bu) (hb : BuIn b) (d k : Nat) : ACall Tryz.prog 20 [buAV b] k [(d, bitsG)] (encAV (encBS b)) [] := by
 have c1 := Check_spec b hb d
 have hv := fun h => (chk_valid hb h).1
 unfold encBS encAV
 by_cases h : chkS b = 0
 ·have c2 := encoded_spec b (hv h) d
  rw [if_pos h]
  rw [h] at c1
  clear hv hb h
  simp only
  generalize encBu b = x at *
  refine Bd Tryz.func20 Tryz.ntmps20 fun σ N hp hpn hk hkn hfree => ?_
  obtain ⟨hd, hdn⟩ := HD0 hp hpn; clear hp hpn
  have hcs := And.intro c1 (And.intro c2 True.intro)
  clear c1 c2
  exact WL
 ·rw [if_neg h]
  clear hv hb
  generalize chkS b = e at *
  have hei : ((e : Int) != 0) = true := by simp; omega
  simp only [List.map_nil]
  refine Bd Tryz.func20 Tryz.ntmps20 fun σ N hp hpn hk hkn hfree => ?_
  obtain ⟨hd, hdn⟩ := HD0 hp hpn; clear hp hpn
  have hcs := And.intro c1 True.intro
  clear c1
  exact WL

theorem SameX_spec (cs bs : List UInt8) (ha : cs.length ≤ 9223372036854775807) (k : Nat) : ACall Tryz.prog 24 [.slice none (cs.map byteAV), .slice none (bs.map byteAV)] k [] (.lit (.bool (decide (cs = bs)))) [] := by
 by_cases hl : cs.length = bs.length
 ·refine Bd Tryz.func24 Tryz.ntmps24 fun σ N hp hpn hk hkn hfree => ?_
  refine Wk ?_
  refine go_loopF mixed (by kernel_rfl) [4, 5, 11, 12, 13, 14, 15, 16, 17, 18, 19, 20, 21, 22, 23, 24, 25] [] (fun m_ s_ σ_ n_ => ∃ (u : Nat), m_ = cs.length - u ∧ s_ 5 = .lit (.int .i64 u) ∧ (u ≤ cs.length) ∧ (cs.take u = bs.take u)) ⟨_, 0, rfl, WF, WC, WC⟩ ?_
  intro m_1 s_1 σ_1 n_1 hs_1 hf_1 hn_1 hI_1
  obtain ⟨u, hm_1, h1_5, hu, heq⟩ := hI_1
  have h1_0 := KS hs_1 0
  have h1_1 := KS hs_1 1
  have hlow := KL (N := N) (σ := σ) hf_1
  by_cases hul : u = cs.length
  ·have hr : decide (cs = bs) = true := by
    rw [hul, List.take_length, hl, List.take_length] at heq
    simp [heq]
   subst hul
   rw [hr]
   clear heq hr
   exact W0
  ·have hua : u < cs.length := by omega
   have hub : u < bs.length := by omega
   obtain ⟨x, hx⟩ : ∃ x, cs[u] = x := ⟨_, rfl⟩
   obtain ⟨y, hy⟩ : ∃ y, bs[u] = y := ⟨_, rfl⟩
   have hxb : byteAV x = .lit (.int .u8 x.toNat) := rfl
   have hyb : byteAV y = .lit (.int .u8 y.toNat) := rfl
   by_cases hxy : x = y
   ·have heq2 : cs.take (u + 1) = bs.take (u + 1) := by
     rw [List.take_add_one, List.take_add_one, heq, List.getElem?_eq_getElem hua, List.getElem?_eq_getElem hub, hx, hy, hxy]
    subst hxy
    clear heq
    refine Wk ?_
    exact ⟨WS, WG, WN, _, (show cs.length - (u + 1) < m_1 by omega), u + 1, rfl, WF, WC, WC⟩
   ·have hr : decide (cs = bs) = false := by
     have : cs ≠ bs := fun h => by subst h; rw [hx] at hy; exact hxy hy
     simp [this]
    rw [hr]
    have hne : ((x.toNat : Int) != (y.toNat : Int)) = true := by
     simp only [bne_iff_ne, ne_eq]
     intro h
     exact hxy (UInt8.toNat_inj.1 (by omega))
    clear heq hr
    exact W0
 ·have hr : decide (cs = bs) = false := by
   have : cs ≠ bs := fun h => hl (by rw [h])
   simp [this]
  rw [hr]
  refine Bd Tryz.func24 Tryz.ntmps24 fun σ N hp hpn hk hkn hfree => ?_
  exact W0

theorem go_join {P : Program} {N : Nat} {b : Code} {Q : AExit → Cfg → Prop} {next : Cfg → Prop} {s : Slots} {σ : Nat → Ent} {n : Nat} (L : List Nat) (t : Tmp) (v : AV) (m : Nat)
  (h1 : SKeep L s s → aw P N b (aThen (fun c => SKeep L s c.s ∧ c.s t = v ∧ c.σ = σ ∧ c.n = m) Q) ⟨s, σ, n⟩) (h2 : ∀ s', SKeep L s s' → s' t = v → next ⟨s', σ, m⟩) : aw P N b (aThen next Q) ⟨s, σ, n⟩ :=
 go_after0 _ (h1 (SKeep.refl L s)) fun c ⟨a, b, c1, c2⟩ => by
  obtain ⟨s', σ', n'⟩ := c
  simp only at c1 c2
  subst c1 c2
  exact h2 s' a b
theorem any_take {α : Type} (q : α → Bool) {l : List α} {u : Nat} {z : α} (h : u < l.length) (hz : l[u] = z) : (l.take (u + 1)).any q = ((l.take u).any q || q z) := by
 rw [List.take_add_one, List.getElem?_eq_getElem h, hz]; simp
theorem chk_rng {b : Bu} (h : rngB b = true) : chkS b = 1 := by
 have : partsS b = 1 := by unfold partsS; rw [if_pos h]
 unfold chkS; rw [this]; rfl
theorem chk_cnt {b : Bu} (h : rngB b = false) (h2 : cntB b = true) : chkS b = 2 := by
 have : partsS b = 2 := by unfold partsS; rw [if_neg (by rw [h]; simp), if_pos h2]
 unfold chkS; rw [this]; rfl
theorem chk_frm {b : Bu} (h : rngB b = false) (h2 : cntB b = false) (h3 : (b.cavs.any (fun c => !cavB c) || b.dis.any badBo) = true) : chkS b = 5 := by
 have : partsS b = 5 := by unfold partsS; rw [if_neg (by rw [h]; simp), if_neg (by rw [h2]; simp), if_pos (by simpa using h3)]
 unfold chkS; rw [this]; rfl
theorem chk_rid {b : Bu} (h : rngB b = false) (h2 : cntB b = false) (h3 : (b.cavs.any (fun c => !cavB c) || b.dis.any badBo) = false) (h4 : b.dis.any ridB = true) : chkS b = 6 := by
 have : partsS b = 6 := by unfold partsS; rw [if_neg (by rw [h]; simp), if_neg (by rw [h2]; simp), if_neg (by simpa using h3), if_pos h4]
 unfold chkS; rw [this]; rfl
theorem chk_tw {b : Bu} (h : rngB b = false) (h2 : cntB b = false) (h3 : (b.cavs.any (fun c => !cavB c) || b.dis.any badBo) = false) (h4 : b.dis.any ridB = false) (h5 : twU b.dis b.dis.length = true) : chkS b = 10 := by
 have : partsS b = 10 := by unfold partsS; rw [if_neg (by rw [h]; simp), if_neg (by rw [h2]; simp), if_neg (by simpa using h3), if_neg (by rw [h4]; simp), if_pos h5]
 unfold chkS; rw [this]; rfl
theorem chk_len {b : Bu} (h : rngB b = false) (h2 : cntB b = false) (h3 : (b.cavs.any (fun c => !cavB c) || b.dis.any badBo) = false) (h4 : b.dis.any ridB = false) (h5 : twU b.dis b.dis.length = false) : partsS b = 0 := by
 unfold partsS; rw [if_neg (by rw [h]; simp), if_neg (by rw [h2]; simp), if_neg (by simpa using h3), if_neg (by rw [h4]; simp), if_neg (by rw [h5]; simp)]
set_option maxHeartbeats 1000000 in
theorem refChk_rng (b : Bu) (h : rngB b = true) (k : Nat) : ACall Tryz.prog 19 [buAV b] k [] (.lit (.int .i64 1)) [] := by
 have c1 := refRqOk_spec b.req
 unfold rngB at h
 obtain ⟨rq, ep, se, L, pf, ds⟩ := b
 have hbA : buAV ⟨rq, ep, se, L, pf, ds⟩ = .agg [rqAV rq, .lit (.int .i64 ep), .lit (.int .i64 se), .slice none (L.map caAV), tagAV pf, .slice none (ds.map boAV)] := rfl
 simp only at c1 h
 cases hr : rqB rq with
 | false =>
  rw [hr] at c1
  clear h
  refine Bd Tryz.func19 Tryz.ntmps19 fun σ N hp hpn hk hkn hfree => ?_
  have hcs := And.intro c1 True.intro
  clear c1
  exact W0
 | true =>
  rw [hr] at c1 h
  simp only [Bool.not_true, Bool.false_or, Bool.or_eq_true, decide_eq_true_eq] at h
  by_cases g1 : ep < 1
  ·clear h
   refine Bd Tryz.func19 Tryz.ntmps19 fun σ N hp hpn hk hkn hfree => ?_
   have hcs := And.intro c1 True.intro
   clear c1
   exact W0
  by_cases g2 : 1000 < ep
  ·clear h
   refine Bd Tryz.func19 Tryz.ntmps19 fun σ N hp hpn hk hkn hfree => ?_
   have hcs := And.intro c1 True.intro
   clear c1
   exact W0
  by_cases g3 : se < 1
  ·clear h
   refine Bd Tryz.func19 Tryz.ntmps19 fun σ N hp hpn hk hkn hfree => ?_
   have hcs := And.intro c1 True.intro
   clear c1
   exact W0
  have g4 : 1073741824 < se := by omega
  clear h
  refine Bd Tryz.func19 Tryz.ntmps19 fun σ N hp hpn hk hkn hfree => ?_
  have hcs := And.intro c1 True.intro
  clear c1
  exact W0
theorem rng_false {b : Bu} (h : rngB b = false) : rqB b.req = true ∧ ¬ b.epoch < 1 ∧ ¬ 1000 < b.epoch ∧ ¬ b.serial < 1 ∧ ¬ 1073741824 < b.serial := by
 unfold rngB at h
 simp only [Bool.or_eq_false_iff, decide_eq_false_iff_not, Bool.not_eq_false'] at h
 exact h
def cnt3B (b : Bu) : Bool := decide (64 < b.cavs.length) || (decide (8 < thirdsS b.cavs) || decide (8 < b.dis.length))
set_option maxHeartbeats 1000000 in
theorem refChk_cnt (b : Bu) (hb : BuIn b) (h : rngB b = false) (h2 : cnt3B b = true) (k : Nat) : ACall Tryz.prog 19 [buAV b] k [] (.lit (.int .i64 2)) [] := by
 have c1 := refRqOk_spec b.req
 have c2 := refThirds_spec b.cavs (by have := hb.cl; omega)
 obtain ⟨r1, r2, r3, r4, r5⟩ := rng_false h
 unfold cnt3B at h2
 rw [r1] at c1
 clear h hb
 obtain ⟨rq, ep, se, L, pf, ds⟩ := b
 have hbA : buAV ⟨rq, ep, se, L, pf, ds⟩ = .agg [rqAV rq, .lit (.int .i64 ep), .lit (.int .i64 se), .slice none (L.map caAV), tagAV pf, .slice none (ds.map boAV)] := rfl
 simp only at c1 c2 h2 r2 r3 r4 r5
 clear r1
 generalize thirdsS L = T at *
 simp only [Bool.or_eq_true, decide_eq_true_eq] at h2
 by_cases g1 : 64 < L.length
 ·have g1i : (64 : Int) < (L.length : Int) := by omega
  clear h2 c2
  refine Bd Tryz.func19 Tryz.ntmps19 fun σ N hp hpn hk hkn hfree => ?_
  have hcs := And.intro c1 True.intro
  clear c1
  exact W0
 have g1i : ¬ (64 : Int) < (L.length : Int) := by omega
 by_cases g2 : 8 < T
 ·have g2i : (8 : Int) < (T : Int) := by omega
  clear h2
  refine Bd Tryz.func19 Tryz.ntmps19 fun σ N hp hpn hk hkn hfree => ?_
  have hcs := And.intro c1 (And.intro c2 True.intro)
  clear c1 c2
  exact W0
 have g2i : ¬ (8 : Int) < (T : Int) := by omega
 have g3 : 8 < ds.length := by omega
 have g3i : (8 : Int) < (ds.length : Int) := by omega
 clear h2
 refine Bd Tryz.func19 Tryz.ntmps19 fun σ N hp hpn hk hkn hfree => ?_
 have hcs := And.intro c1 (And.intro c2 True.intro)
 clear c1 c2
 exact W0
set_option maxHeartbeats 8000000 in
theorem refChk_main (b : Bu) (hb : BuIn b) (h : rngB b = false) (h2 : cnt3B b = false) (k : Nat) : ACall Tryz.prog 19 [buAV b] k [] (.lit (.int .i64 (chkS b : Nat))) [] := by
 have c1 := refRqOk_spec b.req
 have c2 := refThirds_spec b.cavs (by have := hb.cl; omega)
 have c3 := AllValid_spec b.cavs (by have := hb.cl; omega) hb.ok
 have e2 : b.dis.any longB = true → chkS b = 2 := fun hl => chk_cnt h (by
  unfold cnt3B at h2; unfold cntB
  rw [hl]; simp)
 have hcn : b.dis.any longB = false → cntB b = false := fun hl => by
  unfold cnt3B at h2; unfold cntB
  rw [hl]; simpa using h2
 have e5 : b.dis.any longB = false → (b.cavs.any (fun c => !cavB c) || b.dis.any badBo) = true → chkS b = 5 := fun hl h3 => chk_frm h (hcn hl) h3
 have e6 : b.dis.any longB = false → (b.cavs.any (fun c => !cavB c) || b.dis.any badBo) = false → b.dis.any ridB = true → chkS b = 6 := fun hl h3 h4 => chk_rid h (hcn hl) h3 h4
 have e10 : b.dis.any longB = false → (b.cavs.any (fun c => !cavB c) || b.dis.any badBo) = false → b.dis.any ridB = false → twU b.dis b.dis.length = true → chkS b = 10 := fun hl h3 h4 h5 => chk_tw h (hcn hl) h3 h4 h5
 have e0 : b.dis.any longB = false → (b.cavs.any (fun c => !cavB c) || b.dis.any badBo) = false → b.dis.any ridB = false → twU b.dis b.dis.length = false → (chkS b = if 4096 < (encBu b).length then 2 else 0) ∧ ∀ k, ACall Tryz.prog 62 [buAV b] k [] (.slice none ((encBu b).map byteAV)) [] := fun hl h3 h4 h5 => by
  have hp := chk_len h (hcn hl) h3 h4 h5
  refine ⟨by unfold chkS; rw [if_neg (by rw [hp]; simp)], fun k => refBytes_spec b (parts_valid hb hp) k⟩
 obtain ⟨r1, r2, r3, r4, r5⟩ := rng_false h
 unfold cnt3B at h2
 rw [r1] at c1
 have hdi := hb.di
 have hdl := hb.dl
 clear h hb hcn
 generalize chkS b = R at *
 generalize encBu b = X at *
 obtain ⟨rq, ep, se, L, pf, ds⟩ := b
 have hbA : buAV ⟨rq, ep, se, L, pf, ds⟩ = .agg [rqAV rq, .lit (.int .i64 ep), .lit (.int .i64 se), .slice none (L.map caAV), tagAV pf, .slice none (ds.map boAV)] := rfl
 simp only at c1 c2 c3 h2 r2 r3 r4 r5 e2 e5 e6 e10 e0 hdi hdl
 clear r1
 generalize thirdsS L = T at *
 generalize (L.any fun c => !cavB c) = vl at *
 simp only [Bool.or_eq_false_iff, decide_eq_false_iff_not] at h2
 obtain ⟨g1, g2, g3⟩ := h2
 have g1i : ¬ (64 : Int) < (L.length : Int) := by omega
 have g2i : ¬ (8 : Int) < (T : Int) := by omega
 have g3i : ¬ (8 : Int) < (ds.length : Int) := by omega
 have z3 : (vl || (ds.take 0).any badBo) = vl := by simp
 have z4 : (ds.take 0).any ridB = false := by simp
 have z5 : twU ds 0 = false := rfl
 have z6 : (ds.take 0).any longB = false := by simp
 refine Bd Tryz.func19 Tryz.ntmps19 fun σ N hp hpn hk hkn hfree => ?_
 have hcs := And.intro c1 (And.intro c2 (And.intro c3 True.intro))
 clear c1 c2 c3
 refine Wk ?_
 clear hcs
 refine go_loopF mixed (by kernel_rfl) (2 :: 3 :: 4 :: 5 :: 6 :: 7 :: 8 :: 9 :: 54 :: 55 :: 56 :: 57 :: 58 :: 59 :: 60 :: 61 :: 62 :: 63 :: 64 :: 65 :: 66 :: 67 :: 68 :: 69 :: 70 :: 71 :: 72 :: 73 :: 74 :: 75 :: 76 :: 77 :: 78 :: 79 :: 80 :: 81 :: 82 :: 83 :: 84 :: 85 :: 86 :: 87 :: 88 :: 89 :: 90 :: 91 :: 92 :: 93 :: 94 :: 95 :: 96 :: 97 :: 98 :: 99 :: 100 :: 101 :: 102 :: 103 :: 104 :: 105 :: 106 :: 107 :: 108 :: 109 :: 110 :: 111 :: 112 :: 113 :: 114 :: 115 :: 116 :: 117 :: 118 :: 119 :: 120 :: 121 :: 122 :: 123 :: 124 :: 125 :: 126 :: []) [] (fun m_ s_ σ_ n_ => ∃ (u : Nat) (F3 : Bool) (F4 : Bool) (F5 : Bool), m_ = ds.length - u ∧ s_ 6 = .lit (.int .i64 u) ∧ s_ 3 = .lit (.bool F3) ∧ s_ 4 = .lit (.bool F4) ∧ s_ 5 = .lit (.bool F5) ∧ (u ≤ ds.length) ∧ ((ds.take u).any longB = false) ∧ ((vl || (ds.take u).any badBo) = F3) ∧ ((ds.take u).any ridB = F4) ∧ (twU ds u = F5)) ⟨_, 0, vl, false, false, rfl, WF, WF, WF, WF, WC, WC, WC, WC, WC⟩ ?_
 intro m_1 s_1 σ_1 n_1 hs_1 hf_1 hn_1 hI_1
 obtain ⟨u, F3, F4, F5, hm_1, h1_6, h1_3, h1_4, h1_5, hu, hfl, hf3, hf4, hf5⟩ := hI_1
 have h1_1 := KS hs_1 1
 have k1_0 := KE hf_1 (N)
 have hlow := KL (N := N) (σ := σ) hf_1
 clear z3 z4 z5 z6
 by_cases hul : u = ds.length
 ·subst hul
  rw [List.take_length] at hfl hf3 hf4
  clear e2
  by_cases a3 : F3 = true
  ·subst a3
   have hR := e5 hfl hf3
   clear e5 e6 e10 e0 hfl hf3 hf4 hf5 hdi
   subst hR
   exact W0
  ·have a3 : F3 = false := by simpa using a3
   subst a3
   by_cases a4 : F4 = true
   ·subst a4
    have hR := e6 hfl hf3 hf4
    clear e5 e6 e10 e0 hfl hf3 hf4 hf5 hdi
    subst hR
    exact W0
   ·have a4 : F4 = false := by simpa using a4
    subst a4
    by_cases a5 : F5 = true
    ·subst a5
     have hR := e10 hfl hf3 hf4 hf5
     clear e5 e6 e10 e0 hfl hf3 hf4 hf5 hdi
     subst hR
     exact W0
    ·have a5 : F5 = false := by simpa using a5
     subst a5
     obtain ⟨hR, c4⟩ := e0 hfl hf3 hf4 hf5
     rw [hbA] at c4
     clear e5 e6 e10 e0 hfl hf3 hf4 hf5 hdi
     by_cases hX : 4096 < X.length
     ·have hXi : (4096 : Int) < (X.length : Int) := by omega
      rw [if_pos hX] at hR
      subst hR
      have hcs := And.intro c4 True.intro
      clear c4
      exact W0
     ·have hXi : ¬ (4096 : Int) < (X.length : Int) := by omega
      rw [if_neg hX] at hR
      subst hR
      have hcs := And.intro c4 True.intro
      clear c4
      exact W0
 ·have hui : u < ds.length := by omega
  have hz1 := hdi _ (List.getElem_mem hui)
  obtain ⟨z, hz⟩ : ∃ z, ds[u] = z := ⟨_, rfl⟩
  rw [hz] at hz1
  have t6 := any_take longB hui hz
  have t3 := any_take badBo hui hz
  have t4 := any_take ridB hui hz
  have t5 := twU_succ ds u
  rw [List.getD_eq_getElem?_getD, List.getElem?_eq_getElem hui, Option.getD_some, hz] at t5
  rw [hfl, Bool.false_or] at t6
  rw [hf4] at t4
  rw [hf5] at t5
  have t3' : (vl || (ds.take (u + 1)).any badBo) = (F3 || badBo z) := by rw [t3, ← Bool.or_assoc, hf3]
  have hd1 := hz1.tl
  have hd2 := hz1.cl
  have hd3 := hz1.ok
  obtain ⟨ti, cs, pz⟩ := z
  have hbo : boAV ⟨ti, cs, pz⟩ = .agg [.slice none (ti.map byteAV), .slice none (cs.map prAV), tagAV pz] := rfl
  simp only at hd1 hd2 hd3
  clear hz1 t3 hf3 hf4 hf5 e5 e6 e10 e0
  by_cases hlg : 8 < cs.length
  ·have hlgi : (8 : Int) < (cs.length : Int) := by omega
   have hR : R = 2 := e2 (by
    rw [List.any_eq_true]
    refine ⟨_, List.getElem_mem hui, ?_⟩
    rw [hz]; unfold longB; simpa using hlg)
   subst hR
   clear e2 t3' t4 t5 t6 hdi hd3
   exact W0
  ·have hlgi : ¬ (8 : Int) < (cs.length : Int) := by omega
   have hlb : longB ⟨ti, cs, pz⟩ = false := by unfold longB; simpa using hlg
   rw [hlb] at t6
   have hbb : badBo ⟨ti, cs, pz⟩ = ((decide (ti.length < 1) || decide (1024 < ti.length)) || cs.any fun p => !predB p) := rfl
   have hrb : ridB ⟨ti, cs, pz⟩ = cs.any fun p => decide (p.kind = 7) := rfl
   rw [hbb, ← Bool.or_assoc] at t3'
   rw [hrb] at t4
   obtain ⟨G3, hG3⟩ : ∃ G, (F3 || (decide (ti.length < 1) || decide (1024 < ti.length))) = G := ⟨_, rfl⟩
   rw [hG3] at t3'
   clear hlb hbb hrb e2
   have y3 : (G3 || (cs.take 0).any fun p => !predB p) = G3 := by simp
   have y4 : (F4 || (cs.take 0).any fun p => decide (p.kind = 7)) = F4 := by simp
   have y5 : (F5 || (ds.take 0).any fun x => decide (x.ticket = ti)) = F5 := by simp
   refine Wm ?_
   iterate 3 refine Wz ?_
   refine go_join [3, 70, 71, 72, 73, 74, 75, 76, 77, 78, 79, 80, 81, 82] 3 (.lit (.bool G3)) (n_1 + 30) (fun hsr => ?_) (fun s9 hs9 h9_3 => ?_)
   ·by_cases a3 : F3 = true
    ·subst a3
     rw [Bool.true_or] at hG3
     subst hG3
     clear t3' t4 t5 t6 y3 y4 y5 hdi hd3
     refine Wk ?_
     exact ⟨WS, WF, rfl, by first | rfl | omega⟩
    ·have a3 : F3 = false := by simpa using a3
     subst a3
     rw [Bool.false_or] at hG3
     clear t3' t4 t5 t6 y3 y4 y5 hdi hd3
     by_cases b1 : ti.length < 1
     ·have b1i : (ti.length : Int) < 1 := by omega
      rw [decide_eq_true b1, Bool.true_or] at hG3
      subst hG3
      refine Wk ?_
      exact ⟨WS, WF, rfl, by first | rfl | omega⟩
     ·have b1i : ¬ (ti.length : Int) < 1 := by omega
      rw [decide_eq_false b1, Bool.false_or] at hG3
      by_cases b2 : 1024 < ti.length
      ·have b2i : (1024 : Int) < (ti.length : Int) := by omega
       rw [decide_eq_true b2] at hG3
       subst hG3
       refine Wk ?_
       exact ⟨WS, WF, rfl, by first | rfl | omega⟩
      ·have b2i : ¬ (1024 : Int) < (ti.length : Int) := by omega
       rw [decide_eq_false b2] at hG3
       subst hG3
       refine Wk ?_
       exact ⟨WS, WF, rfl, by first | rfl | omega⟩
   have j1 := (hs9.at 1 (by decide)).trans WE
   have j4 := (hs9.at 4 (by decide)).trans WE
   have j5 := (hs9.at 5 (by decide)).trans WE
   have j6 := (hs9.at 6 (by decide)).trans WE
   have j7 := (hs9.at 7 (by decide)).trans WE
   clear hG3
   refine Wk ?_
   refine go_loopF mixed (by kernel_rfl) [3, 4, 8, 83, 84, 85, 86, 87, 88, 89, 90, 91, 92, 93, 94, 95, 96, 97, 98, 99, 100, 101, 102, 103, 104, 105, 106, 107, 108, 109] [] (fun m_ s_ σ_ n_ => ∃ (v : Nat) (H3 : Bool) (H4 : Bool), m_ = cs.length - v ∧ s_ 8 = .lit (.int .i64 v) ∧ s_ 3 = .lit (.bool H3) ∧ s_ 4 = .lit (.bool H4) ∧ (v ≤ cs.length) ∧ ((G3 || (cs.take v).any fun p => !predB p) = H3) ∧ ((F4 || (cs.take v).any fun p => decide (p.kind = 7)) = H4)) ⟨_, 0, G3, F4, rfl, WF, WF, WF, WC, WC, WC⟩ ?_
   intro m_2 s_2 σ_2 n_2 hs_2 hf_2 hn_2 hI_2
   obtain ⟨v, H3, H4, hm_2, h2_8, h2_3, h2_4, hv, hh3, hh4⟩ := hI_2
   have h2_1 := KS hs_2 1
   have h2_2 := KS hs_2 2
   have h2_5 := KS hs_2 5
   have h2_6 := KS hs_2 6
   have h2_7 := KS hs_2 7
   have h2_54 := KS hs_2 54
   have h2_55 := KS hs_2 55
   have h2_56 := KS hs_2 56
   have h2_57 := KS hs_2 57
   have h2_58 := KS hs_2 58
   have h2_61 := KS hs_2 61
   have h2_62 := KS hs_2 62
   have h2_63 := KS hs_2 63
   have h2_64 := KS hs_2 64
   have h2_65 := KS hs_2 65
   have h2_66 := KS hs_2 66
   have h2_67 := KS hs_2 67
   have h2_68 := KS hs_2 68
   have h2_69 := KS hs_2 69
   have h2_70 := KS hs_2 70
   have h2_71 := KS hs_2 71
   have h2_72 := KS hs_2 72
   have h2_73 := KS hs_2 73
   have h2_74 := KS hs_2 74
   have h2_75 := KS hs_2 75
   have h2_76 := KS hs_2 76
   have h2_77 := KS hs_2 77
   have h2_78 := KS hs_2 78
   have h2_79 := KS hs_2 79
   have h2_80 := KS hs_2 80
   have h2_81 := KS hs_2 81
   have h2_82 := KS hs_2 82
   have k2_0 := KE hf_2 (N)
   have k2_1 := KE hf_2 (n_1 + 5 + 5)
   have hlow := KL (N := N) (σ := σ) hf_2
   clear y3 y4
   by_cases hvl : v = cs.length
   ·subst hvl
    rw [List.take_length] at hh3 hh4
    rw [hh3] at t3'
    rw [hh4] at t4
    clear hh3 hh4 hd3
    refine Wk ?_
    refine go_loopF mixed (by kernel_rfl) [5, 9, 110, 111, 112, 113, 114, 115, 116, 117, 118, 119, 120, 121, 122, 123, 124, 125, 126] [] (fun m_ s_ σ_ n_ => ∃ (w : Nat) (H5 : Bool), m_ = u - w ∧ s_ 9 = .lit (.int .i64 w) ∧ s_ 5 = .lit (.bool H5) ∧ (w ≤ u) ∧ ((F5 || (ds.take w).any fun x => decide (x.ticket = ti)) = H5)) ⟨_, 0, F5, rfl, WF, WF, WC, WC⟩ ?_
    intro m_3 s_3 σ_3 n_3 hs_3 hf_3 hn_3 hI_3
    obtain ⟨w, H5, hm_3, h3_9, h3_5, hw, hh5⟩ := hI_3
    have h3_1 := KS hs_3 1
    have h3_2 := KS hs_3 2
    have h3_3 := KS hs_3 3
    have h3_4 := KS hs_3 4
    have h3_6 := KS hs_3 6
    have h3_7 := KS hs_3 7
    have h3_8 := KS hs_3 8
    have h3_54 := KS hs_3 54
    have h3_55 := KS hs_3 55
    have h3_56 := KS hs_3 56
    have h3_57 := KS hs_3 57
    have h3_58 := KS hs_3 58
    have h3_61 := KS hs_3 61
    have h3_62 := KS hs_3 62
    have h3_63 := KS hs_3 63
    have h3_64 := KS hs_3 64
    have h3_65 := KS hs_3 65
    have h3_66 := KS hs_3 66
    have h3_67 := KS hs_3 67
    have h3_68 := KS hs_3 68
    have h3_69 := KS hs_3 69
    have h3_70 := KS hs_3 70
    have h3_71 := KS hs_3 71
    have h3_72 := KS hs_3 72
    have h3_73 := KS hs_3 73
    have h3_74 := KS hs_3 74
    have h3_75 := KS hs_3 75
    have h3_76 := KS hs_3 76
    have h3_77 := KS hs_3 77
    have h3_78 := KS hs_3 78
    have h3_79 := KS hs_3 79
    have h3_80 := KS hs_3 80
    have h3_81 := KS hs_3 81
    have h3_82 := KS hs_3 82
    have h3_83 := KS hs_3 83
    have h3_84 := KS hs_3 84
    have h3_85 := KS hs_3 85
    have h3_86 := KS hs_3 86
    have h3_87 := KS hs_3 87
    have h3_88 := KS hs_3 88
    have h3_89 := KS hs_3 89
    have h3_90 := KS hs_3 90
    have h3_91 := KS hs_3 91
    have h3_92 := KS hs_3 92
    have h3_93 := KS hs_3 93
    have h3_94 := KS hs_3 94
    have h3_95 := KS hs_3 95
    have h3_96 := KS hs_3 96
    have h3_97 := KS hs_3 97
    have h3_98 := KS hs_3 98
    have h3_99 := KS hs_3 99
    have h3_100 := KS hs_3 100
    have h3_101 := KS hs_3 101
    have h3_102 := KS hs_3 102
    have h3_103 := KS hs_3 103
    have h3_104 := KS hs_3 104
    have h3_105 := KS hs_3 105
    have h3_106 := KS hs_3 106
    have h3_107 := KS hs_3 107
    have h3_108 := KS hs_3 108
    have h3_109 := KS hs_3 109
    have k3_0 := KE hf_3 (N)
    have k3_1 := KE hf_3 (n_1 + 5 + 5)
    have hlow := KL (N := N) (σ := σ) hf_3
    clear y5
    by_cases hwl : w = u
    ·subst hwl
     rw [hh5] at t5
     clear hh5 hdi
     refine Wk ?_
     exact ⟨WS, WG, WN, _, (show ds.length - (w + 1) < m_1 by omega), w + 1, H3, H4, H5, rfl, WF, WF, WF, WF, WC, WC, WC, WC, WC⟩
    ·have hwi : w < ds.length := by omega
     have hwui : (w : Int) < (u : Int) := by omega
     obtain ⟨x, hx⟩ : ∃ x, ds[w] = x := ⟨_, rfl⟩
     have s5 := any_take (fun x => decide (x.ticket = ti)) hwi hx
     obtain ⟨xt, xc, xp⟩ := x
     have hxo : boAV ⟨xt, xc, xp⟩ = .agg [.slice none (xt.map byteAV), .slice none (xc.map prAV), tagAV xp] := rfl
     have c1 := SameX_spec ti xt hd1
     have hsym : decide (ti = xt) = decide (xt = ti) := by
      by_cases hq : ti = xt
      ·subst hq; rfl
      ·rw [decide_eq_false hq, decide_eq_false (fun h => hq h.symm)]
     rw [hsym] at c1
     simp only at s5
     have s5' : (F5 || (ds.take (w + 1)).any fun x => decide (x.ticket = ti)) = (H5 || decide (xt = ti)) := by rw [s5, ← Bool.or_assoc, hh5]
     clear hsym s5 hh5 t3' t4 t5 t6 hdi
     generalize decide (xt = ti) = q at *
     have hcs := And.intro c1 True.intro
     clear c1
     by_cases a5 : H5 = true
     ·subst a5
      rw [Bool.true_or] at s5'
      refine Wk ?_
      exact ⟨WS, WG, WN, _, (show u - (w + 1) < m_3 by omega), w + 1, true, rfl, WF, WF, WC, WC⟩
     ·have a5 : H5 = false := by simpa using a5
      subst a5
      rw [Bool.false_or] at s5'
      refine Wk ?_
      exact ⟨WS, WG, WN, _, (show u - (w + 1) < m_3 by omega), w + 1, q, rfl, WF, WF, WC, WC⟩
   ·have hvi : v < cs.length := by omega
    have hp1 := hd3 _ (List.getElem_mem hvi)
    obtain ⟨c, hcc⟩ : ∃ c, cs[v] = c := ⟨_, rfl⟩
    rw [hcc] at hp1
    have c1 := refPred_spec c hp1
    have s3 := any_take (fun p => !predB p) hvi hcc
    have s4 := any_take (fun p => decide (p.kind = 7)) hvi hcc
    have s3' : (G3 || (cs.take (v + 1)).any fun p => !predB p) = (H3 || !predB c) := by rw [s3, ← Bool.or_assoc, hh3]
    have s4' : (F4 || (cs.take (v + 1)).any fun p => decide (p.kind = 7)) = (H4 || decide (c.kind = 7)) := by rw [s4, ← Bool.or_assoc, hh4]
    generalize predB c = q at *
    obtain ⟨kd, ms, fr, to, nm, nu⟩ := c
    have hpr : prAV ⟨kd, ms, fr, to, nm, nu⟩ = .agg [.lit (.int .i64 kd), .lit (.int .u64 ms), .lit (.int .i64 fr), .lit (.int .i64 to), .lit (.string ⟨nm.toArray⟩), .lit (.int .i64 nu)] := rfl
    simp only at s4'
    clear s3 s4 hh3 hh4 t3' t4 t5 t6 hdi hd3 hp1
    have hcs := And.intro c1 True.intro
    clear c1
    obtain ⟨r7, hr7, hr7b⟩ : ∃ r, decide (kd = 7) = r ∧ (kd == 7) = r := ⟨_, rfl, by
     by_cases hk : kd = 7
     ·subst hk; rfl
     ·rw [decide_eq_false hk]; rw [beq_eq_false_iff_ne]; exact hk⟩
    rw [hr7] at s4'
    by_cases a3 : H3 = true
    ·subst a3
     rw [Bool.true_or] at s3'
     by_cases a4 : H4 = true
     ·subst a4
      rw [Bool.true_or] at s4'
      refine Wk ?_
      exact ⟨WS, WG, WN, _, (show cs.length - (v + 1) < m_2 by omega), v + 1, true, true, rfl, WF, WF, WF, WC, WC, WC⟩
     ·have a4 : H4 = false := by simpa using a4
      subst a4
      rw [Bool.false_or] at s4'
      refine Wk ?_
      exact ⟨WS, WG, WN, _, (show cs.length - (v + 1) < m_2 by omega), v + 1, true, r7, rfl, WF, WF, WF, WC, WC, WC⟩
    ·have a3 : H3 = false := by simpa using a3
     subst a3
     rw [Bool.false_or] at s3'
     by_cases a4 : H4 = true
     ·subst a4
      rw [Bool.true_or] at s4'
      refine Wk ?_
      exact ⟨WS, WG, WN, _, (show cs.length - (v + 1) < m_2 by omega), v + 1, !q, true, rfl, WF, WF, WF, WC, WC, WC⟩
     ·have a4 : H4 = false := by simpa using a4
      subst a4
      rw [Bool.false_or] at s4'
      refine Wk ?_
      exact ⟨WS, WG, WN, _, (show cs.length - (v + 1) < m_2 by omega), v + 1, !q, r7, rfl, WF, WF, WF, WC, WC, WC⟩
theorem refChk_spec (b : Bu) (hb : BuIn b) (k : Nat) : ACall Tryz.prog 19 [buAV b] k [] (.lit (.int .i64 (chkS b : Nat))) [] := by
 cases h : rngB b with
 | true => rw [chk_rng h]; exact refChk_rng b h k
 | false =>
  cases h2 : cnt3B b with
  | true =>
   rw [chk_cnt h (by
    unfold cnt3B at h2; unfold cntB
    simp only [Bool.or_eq_true, decide_eq_true_eq] at h2 ⊢
    rcases h2 with h2 | h2 | h2
    ·exact .inl h2
    ·exact .inr (.inl h2)
    ·exact .inr (.inr (.inl h2)))]
   exact refChk_cnt b hb h h2 k
  | false => exact refChk_main b hb h h2 k
theorem refEncB_spec (b : Bu) (hb : BuIn b) (k : Nat) : ACall Tryz.prog 21 [buAV b] k [] (encAV (encBS b)) [] := by
 have c1 := refChk_spec b hb
 have hv := fun h => (chk_valid hb h).1
 unfold encBS encAV
 by_cases h : chkS b = 0
 ·have c2 := refBytes_spec b (hv h)
  rw [if_pos h]
  rw [h] at c1
  clear hv hb h
  simp only
  generalize encBu b = x at *
  refine Bd Tryz.func21 Tryz.ntmps21 fun σ N hp hpn hk hkn hfree => ?_
  have hcs := And.intro c1 (And.intro c2 True.intro)
  clear c1 c2
  exact WL
 ·rw [if_neg h]
  clear hv hb
  generalize chkS b = e at *
  have hei : ((e : Int) != 0) = true := by simp; omega
  simp only [List.map_nil]
  refine Bd Tryz.func21 Tryz.ntmps21 fun σ N hp hpn hk hkn hfree => ?_
  have hcs := And.intro c1 True.intro
  clear c1
  exact WL
end Go.Proofs.YtemmlldpmgfblaaGreatDoor

namespace Go.Ab
open Go.RowKit
attribute [local irreducible] Go.Ab.tyAV Go.Ab.aw Go.Ab.aops Go.Ab.kReg Go.Ab.aThen Go.Ab.aBlk Go.Ab.acond Go.Ab.aguard Go.Ab.astep Go.Ab.AStepX Go.Ab.aRet
mutual
def AV.shut : AV → Bool
 | .any => true
 | .lit _ => true
 | .nils => true
 | .slice none xs => AV.shutl xs
 | .slice (some _) _ => false
 | .agg xs => AV.shutl xs
 | .ptr _ _ _ => false
 | .view x => AV.shut x
 | .fn _ xs => AV.shutl xs
 | .tup xs => AV.shutl xs
 | .clip xs => AV.shutl xs
 | .ms _ _ _ _ _ => false
 | .mp _ _ _ _ => false
 | .bs _ _ _ _ _ => false
 | .iface _ x => AV.shut x
def AV.shutl : List AV → Bool
 | [] => true
 | x :: r => AV.shut x && AV.shutl r
end
theorem AV.shutl_at {xs : List AV} (h : AV.shutl xs = true) : ∀ {i : Nat} {x : AV}, xs[i]? = some x → x.shut = true := by
 induction xs with
 | nil => intro i x hx; simp at hx
 | cons y r ih =>
  intro i x hx
  simp only [AV.shutl, Bool.and_eq_true] at h
  cases i with
  | zero => simp at hx; subst hx; exact h.1
  | succ i => exact ih h.2 (by simpa using hx)
theorem AV.shutl_map {α : Type} (f : α → AV) (hf : ∀ x, (f x).shut = true) : ∀ l : List α, AV.shutl (l.map f) = true
 | [] => rfl
 | x :: r => by simp only [List.map_cons, AV.shutl, hf x, AV.shutl_map f hf r, Bool.and_self]
theorem Rep.shut {g g' : Ghost} (hG : ∀ b o u, g.G b o = some u → g'.G b o = some u) {x : AV} {v : Value} (h : Rep g x v) : x.shut = true → Rep g' x v := by
 induction h with
 | any v h => exact fun _ => .any v h
 | lit v h => exact fun _ => .lit v h
 | nils => exact fun _ => .nils
 | slice own xs vs A c size hl hc hm h hs hcell hown ih =>
  intro hx
  cases own with
  | some o => simp [AV.shut] at hx
  | none =>
   simp only [AV.shut] at hx
   exact .slice none xs vs A c size hl hc hm (fun i x v h1 h2 => ih i x v h1 h2 (AV.shutl_at hx h1)) hs (hcell.imp (fun h => h) (fun ⟨b, o, h1, h2⟩ => ⟨b, o, h1, fun j u hu => hG _ _ _ (h2 j u hu)⟩)) (fun id hid => by cases hid)
 | agg xs vs hl h ih => exact fun hx => .agg xs vs hl fun i x v h1 h2 => ih i x v h1 h2 (AV.shutl_at (by simpa only [AV.shut] using hx) h1)
 | ptr id path off b h => intro hx; simp [AV.shut] at hx
 | view x v b o h hc ih => exact fun hx => .view x v b o (ih (by simpa only [AV.shut] using hx)) fun j u hu => hG _ _ _ (hc j u hu)
 | fn f xs vs hl h ih => exact fun hx => .fn f xs vs hl fun i x v h1 h2 => ih i x v h1 h2 (AV.shutl_at (by simpa only [AV.shut] using hx) h1)
 | tup xs vs hl h ih => exact fun hx => .tup xs vs hl fun i x v h1 h2 => ih i x v h1 h2 (AV.shutl_at (by simpa only [AV.shut] using hx) h1)
 | clip xs A n h ih => exact fun hx => .clip xs A n (ih (by simpa only [AV.shut] using hx))
 | ms id ver size lo len ver' u A c hm hv hl hc h => intro hx; simp [AV.shut] at hx
 | mp id ver path off ver' u a hm hv h => intro hx; simp [AV.shut] at hx
 | bs id path lo off len b c h hl hc => intro hx; simp [AV.shut] at hx
 | iface t x v h ih => exact fun hx => .iface t x v (ih (by simpa only [AV.shut] using hx))
theorem Sim.grown {W0 : World} {g : Ghost} {σ : Nat → Ent} {n : Nat} {w w' : World} (h : Sim W0 g σ n w) (hb : Below w.heap.size w w') : Sim W0 g σ n w' := by
 refine ⟨h.below.trans (hb.mono h.below.size), fun b o v hv => ?_, h.bound, fun id => (h.ents id).same g.le_refl rfl rfl rfl rfl fun b hbk => ⟨hb.block b (h.fresh id b hbk).2, fun _ => rfl⟩, h.sep, fun i b hbk => ⟨(h.fresh i b hbk).1, Nat.lt_of_lt_of_le (h.fresh i b hbk).2 hb.size⟩⟩
 have hc := h.imm b o v hv
 have hlt : b < w.heap.size := World.block_lt_of_cell? w ⟨b, o, none⟩ hc
 unfold World.cell? at hc ⊢
 rw [hb.block b hlt]
 exact hc
theorem Sim.toG0 {W0 : World} {g : Ghost} {σ : Nat → Ent} {n : Nat} {w : World} (h : Sim W0 g σ n w) : ∀ b o u, g.G b o = some u → (g0 w).G b o = some u := fun b o u hu => by
 have hc := h.imm b o u hu
 have hlt : b < w.heap.size := World.block_lt_of_cell? w ⟨b, o, none⟩ hc
 simp only [g0, if_pos hlt]
 exact hc
mutual
inductive Lend (pre : Foot) : AV → AV → Prop where
 | shut {x y : AV} : AV.le x y → y.shut = true → Lend pre x y
 | ms {r ver size k : Nat} {e : TypeId} {xs : List AV} : (r, Ent.mrow ver e size xs) ∈ pre → k = xs.length → AV.shutl xs = true → Lend pre (.ms r ver size 0 k) (.slice none xs)
 | agg {xs ys : List AV} : LendL pre xs ys → Lend pre (.agg xs) (.agg ys)
inductive LendL (pre : Foot) : List AV → List AV → Prop where
 | nil : LendL pre [] []
 | cons {x y : AV} {xs ys : List AV} : Lend pre x y → LendL pre xs ys → LendL pre (x :: xs) (y :: ys)
end
mutual
theorem Lend.rep {W0 : World} {g : Ghost} {σ : Nat → Ent} {n : Nat} {w : World} (hS : Sim W0 g σ n w) {pre : Foot} (hp : ∀ p ∈ pre, σ p.1 = p.2) : ∀ {x y : AV}, Lend pre x y → ∀ v, Rep g x v → Rep (g0 w) y v
 | _, _, .shut hle hy, v, hr => (hle g v hr).shut hS.toG0 hy
 | _, _, .ms (r := r) (ver := ver) (size := size) (e := e) (xs := xs) hm hk hx, v, hr => by
  subst hk
  obtain ⟨u, vs, hmr, hlen, hvl, hvr, hvs, hown⟩ := hS.mrowAt (hp _ hm)
  cases hr with
  | ms _ _ _ _ _ ver' u' A c hm' hv' hl hc h =>
   rw [hmr] at hm'; cases hm'
   obtain ⟨A0, n0, c0, rfl, j1, j2, j3⟩ := h rfl
   obtain ⟨rfl, rfl⟩ := j2 rfl
   refine .slice none xs vs A c size hvl hl hc (fun i x v h1 h2 => (hvr i x v h1 h2).shut hS.toG0 (AV.shutl_at hx h1)) hvs ?_ (fun id hid => by cases hid)
   by_cases h0 : xs.length = 0
   ·exact .inl h0
   ·obtain ⟨b, hb, _⟩ := j3 (by omega)
    refine .inr ⟨b, 0, hb, fun j u hu => ?_⟩
    have hc' := hown.cells (g := b) (by rw [hb]; rfl) j u hu
    have hlt : b < w.heap.size := World.block_lt_of_cell? w ⟨b, j, none⟩ hc'
    simp only [g0, if_pos hlt, Nat.zero_add]
    exact hc'
 | _, _, .agg hL, v, hr => by
  cases hr with
  | agg _ vs hvl hvr =>
   obtain ⟨k1, k2⟩ := LendL.rep hS hp hL vs hvl hvr
   exact .agg _ vs k1 k2
theorem LendL.rep {W0 : World} {g : Ghost} {σ : Nat → Ent} {n : Nat} {w : World} (hS : Sim W0 g σ n w) {pre : Foot} (hp : ∀ p ∈ pre, σ p.1 = p.2) : ∀ {xs ys : List AV}, LendL pre xs ys → ∀ vs : List Value, vs.length = xs.length → (∀ (i : Nat) (x : AV) (v : Value), xs[i]? = some x → vs[i]? = some v → Rep g x v) →
  vs.length = ys.length ∧ ∀ (i : Nat) (y : AV) (v : Value), ys[i]? = some y → vs[i]? = some v → Rep (g0 w) y v
 | _, _, .nil, vs, hl, _ => ⟨hl, fun i y v h _ => by simp at h⟩
 | _, _, .cons h hL, vs, hl, hr => by
  cases vs with
  | nil => simp at hl
  | cons u r =>
   obtain ⟨k1, k2⟩ := LendL.rep hS hp hL r (by simpa using hl) (fun i x v h1 h2 => hr (i + 1) x v (by simpa using h1) (by simpa using h2))
   refine ⟨by simp [k1], fun i y v h1 h2 => ?_⟩
   cases i with
   | zero => simp at h1 h2; subst h1; subst h2; exact Lend.rep hS hp h u (hr 0 _ u rfl rfl)
   | succ i => exact k2 i y v (by simpa using h1) (by simpa using h2)
end
section
variable {P : Program} {o : Oper} {s : Slots} {id : Nat}
theorem holds_lend {x : Operand} {args : Array Operand} {ts : Array TypeId} {f : FuncId} {pre : Foot} {as0 : List AV} {v : Value} (ho : o.op = .call { callee := .value x, args := args, argTypes := ts }) (hx : aeval s x = .fn f [])
  (hcb : callable P f = true) (hv : v.oneCell' = true) (hp : ∀ p ∈ pre, p.2 ≠ .none) (hL : LendL pre (args.toList.map (aeval s)) as0)
  (hrun : ∀ (W0 : World) (g : Ghost) (σ : Nat → Ent) (n : Nat) (w : World) (vals : List Value), Sim W0 g σ n w → (∀ p ∈ pre, σ p.1 = p.2) → vals.length = as0.length → (∀ (i : Nat) (y : AV) (u : Value), as0[i]? = some y → vals[i]? = some u → Rep (g0 w) y u) →
   Calls P f vals.toArray w fun e w' => e = .returned v ∧ Below w.heap.size w w') : OpHolds P o s id pre (.lit v) [] := by
 refine ⟨hp, fun q hq => absurd hq List.not_mem_nil, fun W0 g σ n w a hS hr hf hn hpre => ?_⟩
 have h1 := hr x (by simp [ho, Op.operands, Call.operands])
 have h2 : ∀ y ∈ args, Rep g (aeval s y) (a.eval y) := fun y hy => hr y (by simp [ho, Op.operands, Call.operands, hy])
 rw [hx] at h1
 generalize hvx : a.eval x = vx at h1
 cases h1 with
 | fn _ _ vs hvl hvr =>
  obtain rfl : vs = [] := List.eq_nil_of_length_eq_zero (by simpa using hvl)
  have hexec : (execOp a.eval o).run P w = .ok (.enter f ((args.toList.map a.eval).toArray)) w := by
   simp only [execOp, ho, resolve, hvx, Deferred.ofValue, Sem.run_bind, Sem.run_pure, Result.andThen_ok, invoke]
   rw [run_callFunc hcb]
   congr 2
   simp [← Array.toList_map]
  unfold runsTo
  rw [hexec]
  obtain ⟨k1, k2⟩ := LendL.rep hS hpre hL (args.toList.map a.eval) (by simp) (fun i y u h1 h2' => by
   rw [List.getElem?_map] at h1 h2'
   cases hz : args.toList[i]? with
   | none => rw [hz] at h1; cases h1
   | some z =>
    rw [hz] at h1 h2'
    cases h1; cases h2'
    exact h2 z (by have := List.mem_of_getElem? hz; simpa using this))
  refine (hrun W0 g σ n w _ hS hpre k1 k2).mono ?_
  rintro e w' ⟨rfl, hb⟩
  exact ⟨v, rfl, g, g.le_refl, hS.grown hb, .lit _ hv⟩
end
section
variable {P : Program} {ops : Array Oper} {m i n : Nat} {T : Trace} {k : Cfg → Trace → Prop} {ty : TypeId} {pos : String} {after : Array Edge} {r : List Oper} {s : Slots} {σ : Nat → Ent}
theorem go_callLend {t : Tmp} {x : Operand} {args : Array Operand} {ts : Array TypeId} {f : FuncId} {pre : Foot} {v : Value} {as0 : List AV} (hc : ACall P f as0 0 [] (.lit v) []) (hx : aeval s x = .fn f []) (hv : v.oneCell' = true) (hn : ∀ p ∈ pre, p.2 ≠ .none) (hL : LendL pre (args.toList.map (aeval s)) as0) (hp : ∀ p ∈ pre, σ p.1 = p.2)
  (h : aops P ops m r (i + 1) (addT i ⟨pre, .lit v, []⟩ T) k ⟨upd s t (.lit v), wr σ [], n⟩) : aops P ops m (⟨some t, .call { callee := .value x, args := args, argTypes := ts }, ty, pos, after, none⟩ :: r) i T k ⟨s, σ, n⟩ :=
 go_own (st := ⟨pre, .lit v, []⟩) (fun _o ho => ⟨holds_lend ho hx hc.1 hv hn hL fun _W0 _g _σ _n w vals _ _ h1 h2 => hc.walk w vals h1 h2, hp⟩) h
end
theorem go_nilMIn {P : Program} {N : Nat} {b : Code} {Q : AExit → Cfg → Prop} {s : Slots} {σ : Nat → Ent} {n : Nat} (id : Nat) (path : List Nat) (e : TypeId) (size : Nat) {bt : TypeId} {c : AV} (hσ : σ id = .box bt c) (hc : c.get path = some .nils)
  (h : aw P N b Q ⟨s, upd (upd σ n (.mrow 0 e size [])) id (.box bt (c.put path (.ms n 0 size 0 0))), n + 1⟩) : aw P N b Q ⟨s, σ, n⟩ := by
 refine go_ghost (fun W0 g a w hS => ?_) h
 have hf : σ n = .none := hS.sim.bound n (Nat.le_refl _)
 obtain ⟨hle1, hS1⟩ := (hS.sim.more (n' := n + 1) (Nat.le_succ n)).addM (k := n) (e := e) (size := size) (u := .slice none 0 0) (xs := []) (vs := []) hf (Nat.lt_succ_self n) (ownsR_nil w _ e size) rfl rfl (fun i x v h _ => by simp at h) (fun v hv => by simp at hv) (fun b hb => by simp [Value.ownBlock] at hb) (fun b hb => by simp [Value.ownBlock] at hb)
 refine ⟨_, hle1, hS.turnIn hle1 hS1 (Nat.le_succ n) hσ (by rw [upd_ne _ _ _ _ (fun e => by rw [e, hf] at hσ; cases hσ)]; exact hσ) hc (fun u hu => ?_) rfl rfl⟩
 cases hu
 exact .ms n 0 size 0 0 0 _ none 0 (by simp [upd_same]; rfl) (Nat.le_refl _) (Nat.le_refl _) (by unfold maxLen; omega) fun _ => ⟨_, _, _, rfl, by omega, fun _ => ⟨rfl, rfl⟩, fun h => absurd h (by omega)⟩
attribute [go_sem] AV.shut AV.shutl
end Go.Ab

namespace Go.Proofs.YtemmlldpmgfblaaGreatDoor
open Go.Ab
attribute [local irreducible] Go.Ab.tyAV Go.Ab.aw Go.Ab.aops Go.Ab.kReg Go.Ab.aThen Go.Ab.aBlk Go.Ab.acond Go.Ab.aguard Go.Ab.astep Go.Ab.AStepX Go.Ab.aRet
attribute [local irreducible] shaG
def blankBo (d : Di) : Bo := ⟨d.ticket, d.conds, zeroTag⟩
def shellB (p : Pa) (gs : List Di) (r : Rq) : Bu := ⟨r, p.epoch, p.serial, p.cavs, zeroTag, gs.map blankBo⟩
def shX (gs : List Di) (u : Nat) : List AV := ((gs.take u).map blankBo).map boAV
theorem shX_len {gs : List Di} {u : Nat} (h : u ≤ gs.length) : (shX gs u).length = u := by unfold shX; simp; omega
theorem shX_succ {gs : List Di} {u : Nat} {z : Di} (h : u < gs.length) (hz : gs[u] = z) : shX gs u ++ [.agg [.slice none (z.ticket.map byteAV), .slice none (z.conds.map prAV), tagAV zeroTag]] = shX gs (u + 1) := by
 unfold shX
 rw [List.take_add_one, List.getElem?_eq_getElem h, hz]; simp; rfl
theorem shX_all {gs : List Di} : shX gs gs.length = (gs.map blankBo).map boAV := by unfold shX; rw [List.take_length]
@[go_sem] theorem tagAV_shut (t : Tg) : (tagAV t).shut = true := AV.shutl_map byteAV (fun _ => rfl) t.1
@[go_sem] theorem bytes_shut (l : List UInt8) : AV.shutl (l.map byteAV) = true := AV.shutl_map byteAV (fun _ => rfl) l
@[go_sem] theorem prAV_shut (p : Pr) : (prAV p).shut = true := by simp only [prAV, AV.shut, AV.shutl, Bool.and_self]
@[go_sem] theorem prs_shut (l : List Pr) : AV.shutl (l.map prAV) = true := AV.shutl_map prAV prAV_shut l
@[go_sem] theorem caAV_shut (p : Ca) : (caAV p).shut = true := by simp only [caAV, AV.shut, AV.shutl, prAV_shut, bytes_shut, Bool.and_self]
@[go_sem] theorem cas_shut (l : List Ca) : AV.shutl (l.map caAV) = true := AV.shutl_map caAV caAV_shut l
@[go_sem] theorem boAV_shut (p : Bo) : (boAV p).shut = true := by simp only [boAV, AV.shut, AV.shutl, tagAV_shut, prs_shut, bytes_shut, Bool.and_self]
@[go_sem] theorem bos_shut (l : List Bo) : AV.shutl (l.map boAV) = true := AV.shutl_map boAV boAV_shut l
section
variable [W : W32]
def bindL (leaf : Tg) (r : Rq) : List Di → Nat → Alg → List Bo → Alg × List Bo
 | [], _, a, D => (a, D)
 | d :: L, u, a, D => bindL leaf r L (u + 1) (bindS a d leaf r).1 (D.set u (bindS a d leaf r).2.1)
def prfS (a : Alg) (p : Pa) (r : Rq) : Alg × Tg × Nat := macS a p.tag (reqM r.gate.toNat r.nonce.toNat)
def presS (a : Alg) (p : Pa) (gs : List Di) (r : Rq) : Alg × Bu :=
 ((bindL p.tag r gs 0 (prfS a p r).1 (gs.map blankBo)).1, ⟨r, p.epoch, p.serial, p.cavs, (prfS a p r).2.1, (bindL p.tag r gs 0 (prfS a p r).1 (gs.map blankBo)).2⟩)
theorem bindS_ok {a : Alg} {m : Nat} (ha : AlgIn a m) (hm : m ≤ 60000) (d : Di) (leaf : Tg) {r : Rq} (hr : rqB r = true) :
  (macS a d.tag (bindM leaf r.gate.toNat r.nonce.toNat)).2.2 = 0 ∧ bindS a d leaf r = ((macS a d.tag (bindM leaf r.gate.toNat r.nonce.toNat)).1, ⟨d.ticket, d.conds, (macS a d.tag (bindM leaf r.gate.toNat r.nonce.toNat)).2.1⟩, 0) := by
 obtain ⟨⟨r1, r2⟩, r3, r4⟩ := rqB_iff.1 hr
 have hl := bindM_len leaf (g := r.gate.toNat) (n := r.nonce.toNat) (by omega) (by omega)
 have h0 := macS_ok (a := a) d.tag (msg := bindM leaf r.gate.toNat r.nonce.toNat) (by omega) (by have := ha.ml; omega)
 refine ⟨h0, ?_⟩
 unfold bindS
 rw [if_neg (by rw [hr]; simp), if_pos h0]
theorem prfS_ok {a : Alg} {m : Nat} (ha : AlgIn a m) (hm : m ≤ 60000) (p : Pa) {r : Rq} (hr : rqB r = true) : (prfS a p r).2.2 = 0 := by
 obtain ⟨⟨r1, r2⟩, r3, r4⟩ := rqB_iff.1 hr
 have hl := reqM_len (g := r.gate.toNat) (n := r.nonce.toNat) (by omega) (by omega)
 exact macS_ok (a := a) p.tag (msg := reqM r.gate.toNat r.nonce.toNat) (by omega) (by have := ha.ml; omega)
theorem bindL_len {leaf : Tg} {r : Rq} : ∀ (gs : List Di) (u : Nat) (a : Alg) (D : List Bo), (bindL leaf r gs u a D).2.length = D.length
 | [], _, _, _ => rfl
 | d :: L, u, a, D => by rw [bindL, bindL_len]; simp
set_option maxHeartbeats 8000000 in
theorem refPres_spec (a : Alg) (m : Nat) (ha : AlgIn a m) (p : Pa) (gs : List Di) (r : Rq) (hg : gs.length ≤ 100) (hm : m ≤ 50000) (hb : BuIn (shellB p gs r)) (h0 : chkS (shellB p gs r) = 0) (k : Nat) :
  ACall Tryz.prog 43 [algAV a, paAV p, .slice none (gs.map diAV), rqAV r] k [] (.tup [algAV (presS a p gs r).1, buAV (presS a p gs r).2, .lit (.int .i64 0)]) [] := by
 have hr : rqB r = true := (chk_valid hb h0).1.rq
 have hc := refChk_spec (shellB p gs r) hb 0
 rw [h0] at hc
 have hP := prfS_ok ha (by omega) p hr
 obtain ⟨⟨r1, r2⟩, r3, r4⟩ := rqB_iff.1 hr
 have c1 := refReqM_spec r.gate.toNat r.nonce.toNat (by omega) (by omega)
 have c2 := Mac_spec a p.tag (reqM r.gate.toNat r.nonce.toNat) (by have := ha.ml; omega) ha.mm
 have hin : AlgIn (prfS a p r).1 (m + 1) := macS_in ha _ _
 have hPd : macS a p.tag (reqM r.gate.toNat r.nonce.toNat) = prfS a p r := rfl
 rw [hPd] at c2
 clear hPd
 unfold mkAV at c2
 rw [hP] at c2
 unfold presS
 clear hb h0 ha hP
 generalize prfS a p r = M at *
 obtain ⟨aM, tM, eM⟩ := M
 obtain ⟨ep, se, L, tg⟩ := p
 obtain ⟨rg, rn⟩ := r
 simp only at *
 obtain ⟨A', D', hrun⟩ : ∃ A' D', bindL tg ⟨rg, rn⟩ gs 0 aM (gs.map blankBo) = (A', D') := ⟨_, _, rfl⟩
 have hDl : D'.length = gs.length := by have := bindL_len (leaf := tg) (r := ⟨rg, rn⟩) gs 0 aM (gs.map blankBo); rw [hrun] at this; simpa using this
 rw [hrun]
 simp only
 have hpA : paAV ⟨ep, se, L, tg⟩ = .agg [.lit (.int .i64 ep), .lit (.int .i64 se), .slice none (L.map caAV), tagAV tg] := rfl
 have hrA : rqAV ⟨rg, rn⟩ = .agg [.lit (.int .i64 rg), .lit (.int .i64 rn)] := rfl
 have hbA : buAV ⟨⟨rg, rn⟩, ep, se, L, tM, D'⟩ = .agg [.agg [.lit (.int .i64 rg), .lit (.int .i64 rn)], .lit (.int .i64 ep), .lit (.int .i64 se), .slice none (L.map caAV), tagAV tM, .slice none (D'.map boAV)] := rfl
 have hsA : buAV (shellB ⟨ep, se, L, tg⟩ gs ⟨rg, rn⟩) = .agg [.agg [.lit (.int .i64 rg), .lit (.int .i64 rn)], .lit (.int .i64 ep), .lit (.int .i64 se), .slice none (L.map caAV), tagAV zeroTag, .slice none ((gs.map blankBo).map boAV)] := rfl
 rw [hsA] at hc
 rw [hpA, hrA, hbA]
 rw [show ((rg.toNat : Nat) : Int) = rg by omega, show ((rn.toNat : Nat) : Int) = rn by omega] at c1
 generalize reqM rg.toNat rn.toNat = rm at *
 clear hpA hbA hsA
 have hb24 : gs.length * 80 ≤ 140737488355328 := by omega
 have hb25 : gs.length ≤ 140737488355327 := by omega
 refine Bd Tryz.func43 Tryz.ntmps43 fun σ N hp hpn hk hkn hfree => ?_
 refine Wk ?_
 refine go_nilMIn (N + 14) [5] 70 34 (bt := 29) (c := .agg [.agg [.lit (.int .i64 rg), .lit (.int .i64 rn)], .lit (.int .i64 ep), .lit (.int .i64 se), .slice none (L.map caAV), tagAV zeroTag, .nils]) (by simp (disch := omega) [go_sem, *, -List.reduceReplicate]; try rfl) rfl ?_
 refine go_loopF mixed (by kernel_rfl) [12, 25, 26, 27, 28, 29, 30, 31, 32, 33, 34, 35, 36, 37, 38, 39, 40, 41, 42, 43, 44, 45, 46] [N+14, N+17] (fun m_ s_ σ_ n_ => ∃ (u : Nat), m_ = gs.length - u ∧ s_ 12 = .lit (.int .i64 u) ∧ σ_ (N+14) = .box 29 (.agg [.agg [.lit (.int .i64 rg), .lit (.int .i64 rn)], .lit (.int .i64 ep), .lit (.int .i64 se), .slice none (L.map caAV), tagAV zeroTag, .ms (N + 17) u 34 0 u]) ∧ σ_ (N+17) = .mrow u 70 34 (shX gs u) ∧ (u ≤ gs.length)) ⟨_, 0, rfl, WF, WF, WF, WC⟩ ?_
 intro m_1 s_1 σ_1 n_1 hs_1 hf_1 hn_1 hI_1
 obtain ⟨u, hm_1, h1_12, e1_0, e1_1, hu⟩ := hI_1
 have h1_2 := KS hs_1 2
 have h1_4 := KS hs_1 4
 have h1_5 := KS hs_1 5
 have h1_7 := KS hs_1 7
 have h1_8 := KS hs_1 8
 have h1_9 := KS hs_1 9
 have h1_10 := KS hs_1 10
 have h1_11 := KS hs_1 11
 have k1_0 := KE hf_1 (N)
 have k1_1 := KE hf_1 (N + 1)
 have k1_2 := KE hf_1 (N + 2)
 have k1_3 := KE hf_1 (N + 3)
 have k1_4 := KE hf_1 (N + 4)
 have hlow := KL (N := N) (σ := σ) hf_1
 by_cases hul : u = gs.length
 ·subst hul
  rw [shX_all] at e1_1
  have hD0 : (gs.map blankBo).length = gs.length := List.length_map ..
  clear hu
  generalize gs.map blankBo = D0 at *
  iterate 2 refine Wz ?_
  (apply go_region; · (simp only [List.length_cons, List.length_nil, Nat.reduceAdd, Nat.add_assoc]; rfl))
  refine Wm ?_
  refine go_callLend (pre := [(N + 17, .mrow gs.length 70 34 (D0.map boAV))]) hc (by simp (disch := omega) [go_sem, *, -List.reduceReplicate]) rfl (by simp) (by
   simp (disch := omega) [go_sem, *, -List.reduceReplicate]
   exact .cons (.agg (.cons (.shut (AV.le_refl _) rfl) (.cons (.shut (AV.le_refl _) rfl) (.cons (.shut (AV.le_refl _) rfl) (.cons (.shut (AV.le_refl _) (cas_shut L)) (.cons (.shut (AV.le_refl _) (tagAV_shut _)) (.cons (.ms (List.mem_singleton.2 rfl) (by simp [hD0]) (bos_shut D0)) .nil))))))) .nil) (by simp (disch := omega) [go_sem, *, -List.reduceReplicate]) ?_
  refine Wm ?_
  have hcs := And.intro c1 (And.intro c2 True.intro)
  clear c1 c2 hc
  refine Wk ?_
  clear hcs
  refine go_loopF mixed (by kernel_rfl) [10, 15, 16, 71, 72, 73, 74, 75, 76, 77, 78, 79, 80, 81, 82, 83, 84, 85, 86, 87, 88, 89, 90, 91, 92, 93, 94, 95, 96, 97, 98] [N, N+14, N+17] (fun m_ s_ σ_ n_ => ∃ (v : Nat) (A : Alg) (D : List Bo), m_ = gs.length - v ∧ s_ 16 = .lit (.int .i64 v) ∧ σ_ (N) = .box 36 (algAV A) ∧ σ_ (N+14) = .box 29 (.agg [.agg [.lit (.int .i64 rg), .lit (.int .i64 rn)], .lit (.int .i64 ep), .lit (.int .i64 se), .slice none (L.map caAV), tagAV tM, .ms (N + 17) gs.length 34 0 gs.length]) ∧ σ_ (N+17) = .mrow gs.length 70 34 (D.map boAV) ∧ (v ≤ gs.length) ∧ (AlgIn A (m + 1 + v)) ∧ (D.length = gs.length) ∧ (bindL tg ⟨rg, rn⟩ (gs.drop v) v A D = (A', D'))) ⟨_, 0, aM, D0, rfl, WF, WF, WF, WF, WC, WC, WC, WC⟩ ?_
  intro m_2 s_2 σ_2 n_2 hs_2 hf_2 hn_2 hI_2
  obtain ⟨v, A, D, hm_2, h2_16, e2_0, e2_1, e2_2, hv, hA, hD, hrun⟩ := hI_2
  have h2_2 := KS hs_2 2
  have h2_4 := KS hs_2 4
  have h2_5 := KS hs_2 5
  have h2_7 := KS hs_2 7
  have h2_8 := KS hs_2 8
  have h2_9 := KS hs_2 9
  have h2_11 := KS hs_2 11
  have k2_0 := KE hf_2 (N + 1)
  have k2_1 := KE hf_2 (N + 2)
  have k2_2 := KE hf_2 (N + 3)
  have k2_3 := KE hf_2 (N + 4)
  have hlow := KL (N := N) (σ := σ) hf_2
  clear hin hD0
  by_cases hvl : v = gs.length
  ·subst hvl
   rw [List.drop_length, bindL, Prod.mk.injEq] at hrun
   obtain ⟨rfl, rfl⟩ := hrun
   clear hv hA
   iterate 2 refine Wz ?_
   refine go_freezeIn (N + 14) [5] (r := N + 17) (ver := gs.length) (size := 34) (e := 70) (xs := D.map boAV) (k := gs.length) (by simp (disch := omega) [go_sem, *, -List.reduceReplicate]; try exact ⟨rfl, rfl⟩) (by simp (disch := omega) [go_sem, *, -List.reduceReplicate]) (by simp (disch := omega) [go_sem, *, -List.reduceReplicate]) (by simp [hD]) ?_
   exact WT
  ·have hv1 : v < gs.length := by omega
   have hv1i : (v : Int) < (gs.length : Int) := by omega
   obtain ⟨z, hz⟩ : ∃ z, gs[v] = z := ⟨_, rfl⟩
   have hzm : (gs.map diAV)[v]? = some (diAV z) := by rw [List.getElem?_map, List.getElem?_eq_getElem hv1, hz]; rfl
   rw [List.drop_eq_getElem_cons hv1, hz, bindL] at hrun
   have c3 := refBind_spec A (m + 1 + v) hA (by omega) z tg ⟨rg, rn⟩
   have hBo := bindS_ok hA (by omega) z tg hr
   have hin2 := bindS_in hA z tg ⟨rg, rn⟩
   have hB0 : (bindS A z tg ⟨rg, rn⟩).2.2 = 0 := by rw [hBo.2]
   clear hBo
   unfold mbAV at c3
   rw [hB0] at c3
   clear hB0
   generalize bindS A z tg ⟨rg, rn⟩ = B at *
   obtain ⟨aB, bB, eB⟩ := B
   rw [hrA] at c3
   simp only at c3 hrun hin2
   have hv2 : v < D.length := by omega
   obtain ⟨y, hy⟩ : ∃ y, D[v] = y := ⟨_, rfl⟩
   have hy0 : D[v]? = some y := by rw [List.getElem?_eq_getElem hv2, hy]
   have hym : (D.map boAV)[v]? = some (boAV y) := by rw [List.getElem?_map, hy0]; rfl
   have hysz : AV.szl ((D.map boAV).take v) = v * 34 := by
    rw [← List.map_take, AV.szl_uniform _ 34 (fun x hx => by obtain ⟨c, _, rfl⟩ := List.mem_map.1 hx; exact boAV_sz c), List.length_map, List.length_take, Nat.min_eq_left (by omega)]
   have hyo : (AV.agg (D.map boAV)).offs [v] = v * 34 := by simp only [AV.offs, hym, hysz]; rfl
   clear hy
   have hset : (D.map boAV).set v (boAV bB) = (D.set v bB).map boAV := by rw [List.map_set]
   have hsl : (D.set v bB).length = gs.length := by rw [List.length_set]; exact hD
   generalize D.set v bB = D2 at *
   have hcs := And.intro c3 True.intro
   clear c3
   refine Wk ?_
   exact ⟨WS, WG, WN, _, (show gs.length - (v + 1) < m_2 by omega), v + 1, aB, D2, rfl, WF, WF, WF, WF, WC, WC, WC, WC⟩
 ·have hu1 : u < gs.length := by omega
  have hu1i : (u : Int) < (gs.length : Int) := by omega
  obtain ⟨z, hz⟩ : ∃ z, gs[u] = z := ⟨_, rfl⟩
  have hzm : (gs.map diAV)[u]? = some (.agg [.slice none (z.ticket.map byteAV), .slice none (z.conds.map prAV), tagAV z.tag]) := by rw [List.getElem?_map, List.getElem?_eq_getElem hu1, hz]; rfl
  have htk := shX_succ hu1 hz
  have htk2 : (shX gs u).take u ++ [.agg [.slice none (z.ticket.map byteAV), .slice none (z.conds.map prAV), tagAV zeroTag]] = shX gs (u + 1) := by rw [List.take_of_length_le (by rw [shX_len hu]; exact Nat.le_refl _)]; exact htk
  have hXl := shX_len hu
  have hb26 : (u + 1) * 80 ≤ 140737488355328 := by omega
  have hb27 : u ≤ 140737488355327 := by omega
  refine Wk ?_
  exact ⟨WS, WG, WN, _, (show gs.length - (u + 1) < m_1 by omega), u + 1, rfl, WF, WF, WF, WC⟩
end

theorem encC_sm {c : Ca} (h : cavB c = true) (ht : c.ticket.length ≤ 200) (hb : c.box.length ≤ 200) : (encC c).length ≤ 409 := by
 cases CV.of h with
 | first p hp =>
  have := (encP_len p hp).2
  simp only [encC, if_true, List.length_cons]; omega
 | third n hn t b h1 h2 =>
  simp only at ht hb
  have l1 := leb_len n 1 (by omega)
  have l2 := leb_len t.length 2 (by omega)
  have l3 := leb_len b.length 2 (by omega)
  rw [encC, if_neg (by simp)]
  simp only [fieldB, List.length_cons, List.length_append, Int.toNat_natCast]; omega
theorem twU_false {l : List Bo} (h : ∀ i j (hi : i < l.length) (hj : j < l.length), (l[i]).ticket = (l[j]).ticket → i = j) : ∀ u, u ≤ l.length → twU l u = false
 | 0, _ => rfl
 | u + 1, hu => by
  rw [twU_succ, twU_false h u (by omega), Bool.false_or, Bool.eq_false_iff]
  intro hx
  obtain ⟨x, hx1, hx2⟩ := List.any_eq_true.1 hx
  obtain ⟨i, hi, rfl⟩ := List.getElem_of_mem hx1
  rw [List.length_take] at hi
  rw [List.getElem_take, decide_eq_true_eq, List.getD_eq_getElem?_getD, List.getElem?_eq_getElem (by omega), Option.getD_some] at hx2
  have := h i u (by omega) (by omega) hx2
  omega
section
variable [W : W32]
omit W in
theorem shell_of {L : List Ca} {gs : List Di} {r : Rq} {se : Int} {tg : Tg} (hr : rqB r = true) (s1 : 1 ≤ se) (s2 : se ≤ 50) (cl : L.length ≤ 5) (cv : ∀ c ∈ L, cavB c = true ∧ PrOk c.first ∧ c.ticket.length ≤ 200 ∧ c.box.length ≤ 200) (th : thirdsS L ≤ 5) (gl : gs.length ≤ 5) (gv : ∀ g ∈ gs, DiV g)
  (gd : ∀ i j (hi : i < gs.length) (hj : j < gs.length), (gs[i]).ticket = (gs[j]).ticket → i = j) (D : List Bo) (hD : D.length = gs.length) (hDg : ∀ i (hi : i < gs.length) (hj : i < D.length), (D[i]).ticket = (gs[i]).ticket ∧ (D[i]).conds = (gs[i]).conds) :
  BuIn ⟨r, 2, se, L, tg, D⟩ ∧ chkS ⟨r, 2, se, L, tg, D⟩ = 0 := by
 have hmem : ∀ d ∈ D, ∃ g ∈ gs, d.ticket = g.ticket ∧ d.conds = g.conds := fun d hd => by
  obtain ⟨i, hi, rfl⟩ := List.getElem_of_mem hd
  obtain ⟨h1, h2⟩ := hDg i (by omega) hi
  exact ⟨_, List.getElem_mem (by omega), h1, h2⟩
 have hI : BuIn ⟨r, 2, se, L, tg, D⟩ := by
  refine ⟨by simp only; omega, by simp only; omega, fun c hc => (cv c hc).2.1, fun d hd => ?_⟩
  obtain ⟨g, hg, h1, h2⟩ := hmem d hd
  have := gv g hg
  exact ⟨by rw [h1]; have := this.t2; omega, by rw [h2]; have := this.cl; omega, fun p hp => (this.cv p (by rw [← h2]; exact hp)).2.1⟩
 refine ⟨hI, ?_⟩
 have p1 : rngB ⟨r, 2, se, L, tg, D⟩ = false := by
  unfold rngB
  rw [hr]
  simp only [Bool.not_true, Bool.or_eq_false_iff, decide_eq_false_iff_not]
  refine ⟨trivial, by omega, by omega, by omega, by omega⟩
 have p2 : cntB ⟨r, 2, se, L, tg, D⟩ = false := by
  unfold cntB
  simp only [Bool.or_eq_false_iff, decide_eq_false_iff_not]
  refine ⟨by omega, by omega, by omega, ?_⟩
  rw [List.any_eq_false]
  intro d hd
  obtain ⟨g, hg, h1, h2⟩ := hmem d hd
  have := (gv g hg).cl
  unfold longB
  rw [h2]; simp; omega
 have p3 : (L.any fun c => !cavB c) = false := by
  rw [List.any_eq_false]; intro c hc; rw [(cv c hc).1]; simp
 have p4 : D.any badBo = false := by
  rw [List.any_eq_false]
  intro d hd
  obtain ⟨g, hg, h1, h2⟩ := hmem d hd
  have hv := gv g hg
  unfold badBo
  rw [h1, h2]
  simp only [Bool.or_eq_true, decide_eq_true_eq, not_or, Bool.not_eq_true]
  refine ⟨⟨by have := hv.t1; omega, by have := hv.t2; omega⟩, ?_⟩
  rw [List.any_eq_false]; intro p hp; rw [(hv.cv p hp).1]; simp
 have p5 : D.any ridB = false := by
  rw [List.any_eq_false]
  intro d hd
  obtain ⟨g, hg, h1, h2⟩ := hmem d hd
  have hv := gv g hg
  unfold ridB
  rw [h2, Bool.not_eq_true, List.any_eq_false]; intro p hp; have := (hv.cv p hp).2.2; simpa using this
 have p6 : twU D D.length = false := twU_false (fun i j hi hj ht => by
  rw [(hDg i (by omega) hi).1, (hDg j (by omega) hj).1] at ht
  exact gd i j (by omega) (by omega) ht) _ (Nat.le_refl _)
 have hP : partsS ⟨r, 2, se, L, tg, D⟩ = 0 := by
  unfold partsS
  rw [if_neg (by rw [p1]; simp), if_neg (by rw [p2]; simp), if_neg (by simp only [p3, p4]; simp), if_neg (by simp only [p5]; simp), if_neg (by simp only [p6]; simp)]
 have hL : (encBu ⟨r, 2, se, L, tg, D⟩).length ≤ 4096 := by
  obtain ⟨⟨r1, r2⟩, r3, r4⟩ := rqB_iff.1 hr
  have l1 := flat_len encC 409 L fun c hc => encC_sm (cv c hc).1 (cv c hc).2.2.1 (cv c hc).2.2.2
  have l2 := flat_len encBo 363 D fun d hd => by
   obtain ⟨g, hg, h1, h2⟩ := hmem d hd
   have hv := gv g hg
   have k1 := hv.t2
   have k2 := hv.cl
   have k3 := leb_len d.ticket.length 2 (by rw [h1]; omega)
   have k4 := leb_len d.conds.length 7 (by rw [h2]; omega)
   have k5 := flat_len encP 40 d.conds fun p hp => (encP_len p (hv.cv p (by rw [← h2]; exact hp)).1).2
   rw [h1] at k3
   rw [h2] at k4 k5
   unfold encBo
   rw [h1, h2]
   simp only [fieldB, List.length_append, d.proof.2]
   omega
  have m1 := leb_len 1 7 (by omega)
  have m2 := leb_len r.gate.toNat 7 (by omega)
  have m3 := leb_len r.nonce.toNat 7 (by omega)
  have m4 := leb_len (2 : Int).toNat 7 (by decide)
  have m5 := leb_len se.toNat 7 (by omega)
  have m6 := leb_len L.length 7 (by omega)
  have m7 := leb_len D.length 7 (by omega)
  unfold encBu headN
  simp only [List.length_append, List.flatMap_cons, List.flatMap_nil, List.length_nil, tg.2]
  omega
 unfold chkS
 rw [if_neg (by rw [hP]; simp), if_neg (by omega)]
end

section
variable [W : W32]
def bunS (s : Sc) : Alg × Bu := presS s.alg s.pass s.grants s.req
theorem bindL_tk {leaf : Tg} {r : Rq} (hr : rqB r = true) (gs : List Di) : ∀ (L : List Di) (u : Nat) (a : Alg) (D : List Bo) (m : Nat), AlgIn a m → m + L.length ≤ 60000 → gs.drop u = L → D.length = gs.length →
  (∀ i (hi : i < gs.length) (hj : i < D.length), (D[i]).ticket = (gs[i]).ticket ∧ (D[i]).conds = (gs[i]).conds) →
  AlgIn (bindL leaf r L u a D).1 (m + L.length) ∧ ∀ i (hi : i < gs.length) (hj : i < (bindL leaf r L u a D).2.length), ((bindL leaf r L u a D).2[i]).ticket = (gs[i]).ticket ∧ ((bindL leaf r L u a D).2[i]).conds = (gs[i]).conds
 | [], u, a, D, m, ha, _, _, _, hD => ⟨ha, hD⟩
 | d :: L, u, a, D, m, ha, hm, hL, hDl, hD => by
  have hu : u < gs.length := by
   have := congrArg List.length hL
   rw [List.length_drop, List.length_cons] at this; omega
  rw [List.drop_eq_getElem_cons hu, List.cons.injEq] at hL
  obtain ⟨hd, hL⟩ := hL
  obtain ⟨_, hB⟩ := bindS_ok ha (by rw [List.length_cons] at hm; omega) d leaf hr
  have := bindL_tk (leaf := leaf) hr gs L (u + 1) (bindS a d leaf r).1 (D.set u (bindS a d leaf r).2.1) (m + 1) (bindS_in ha d leaf r) (by rw [List.length_cons] at hm; omega) hL (by rw [List.length_set]; exact hDl) (fun i hi hj => by
   rw [List.getElem_set]
   split
   ·rename_i h
    subst h
    rw [hB]
    simp only
    rw [hd]; exact ⟨rfl, rfl⟩
   ·exact hD i hi (by rw [List.length_set] at hj; exact hj))
  rw [bindL]
  rw [show m + (d :: L).length = m + 1 + L.length by rw [List.length_cons]; omega]
  exact this
theorem bunS_ok {s : Sc} (h : ScV s) : BuIn (shellB s.pass s.grants s.req) ∧ chkS (shellB s.pass s.grants s.req) = 0 ∧ BuIn (bunS s).2 ∧ chkS (bunS s).2 = 0 ∧ AlgIn (bunS s).1 1006 := by
 obtain ⟨⟨se, hG, s1, s2⟩, hr⟩ := h
 obtain ⟨A, rg, con, ⟨ep, sr, L, tg⟩, gs, r, hol, mi⟩ := s
 obtain rfl : ep = 2 := hG.ep
 obtain rfl : sr = se := hG.es
 simp only at hr
 have hbl : ∀ i (hi : i < gs.length) (hj : i < (gs.map blankBo).length), ((gs.map blankBo)[i]).ticket = (gs[i]).ticket ∧ ((gs.map blankBo)[i]).conds = (gs[i]).conds := fun i hi hj => by rw [List.getElem_map]; exact ⟨rfl, rfl⟩
 obtain ⟨a1, a2⟩ := shell_of (tg := zeroTag) hr s1 s2 hG.cl hG.cv hG.th hG.gl hG.gv hG.gd (gs.map blankBo) (by simp) hbl
 have hin : AlgIn (prfS A ⟨2, sr, L, tg⟩ r).1 1001 := macS_in hG.ain _ _
 have hgl : gs.length ≤ 5 := hG.gl
 obtain ⟨b1, b2⟩ := bindL_tk (leaf := tg) hr gs gs 0 _ (gs.map blankBo) 1001 hin (by omega) rfl (by simp) hbl
 obtain ⟨c1, c2⟩ := shell_of (tg := (prfS A ⟨2, sr, L, tg⟩ r).2.1) hr s1 s2 hG.cl hG.cv hG.th hG.gl hG.gv hG.gd _ (by rw [bindL_len]; simp) b2
 exact ⟨a1, a2, c1, c2, b1.more (by omega)⟩
set_option maxHeartbeats 4000000 in
theorem SBundle_spec (s : Sc) (h : ScV s) (d k : Nat) : ACall Tryz.prog 54 [.ptr d [] 0] k [(d, .box 47 (scAV s))] (buAV (bunS s).2) [(d, .box 47 (scAV { s with alg := (bunS s).1 }))] := by
 obtain ⟨a1, a2, _, _, _⟩ := bunS_ok h
 obtain ⟨⟨se, hG, s1, s2⟩, hr⟩ := h
 have c1 := refPres_spec s.alg 1000 hG.ain s.pass s.grants s.req (by have := hG.gl; simp only at this; omega) (by omega) a1 a2
 have hB : presS s.alg s.pass s.grants s.req = bunS s := rfl
 rw [hB] at c1
 clear a1 a2 hG hB hr
 generalize bunS s = B at *
 obtain ⟨A', b⟩ := B
 obtain ⟨A, rg, con, p, gs, r, hol, mi⟩ := s
 have hdS : scAV ⟨A, rg, con, p, gs, r, hol, mi⟩ = .agg [algAV A, rgAV rg, concAV con, paAV p, .slice none (gs.map diAV), rqAV r, .lit (.string ⟨hol.toArray⟩), .lit (.int .i64 mi)] := rfl
 have hdS' : scAV ⟨A', rg, con, p, gs, r, hol, mi⟩ = .agg [algAV A', rgAV rg, concAV con, paAV p, .slice none (gs.map diAV), rqAV r, .lit (.string ⟨hol.toArray⟩), .lit (.int .i64 mi)] := rfl
 simp only at c1 ⊢
 rw [hdS, hdS']
 clear hdS hdS'
 refine Bd Tryz.func54 Tryz.ntmps54 fun σ N hp hpn hk hkn hfree => ?_
 obtain ⟨hd, hdn⟩ := HD0 hp hpn; clear hp hpn
 have hcs := And.intro c1 True.intro
 clear c1
 refine Wk ?_
 clear hcs
 exact RW (d) (.box 47 (.agg [algAV A', rgAV rg, concAV con, paAV p, .slice none (gs.map diAV), rqAV r, .lit (.string ⟨hol.toArray⟩), .lit (.int .i64 mi)]))
omit W in
theorem few_spec (b : Bu) (hl1 : b.cavs.length ≤ 9223372036854775807) (hl2 : b.dis.length ≤ 9223372036854775807) (k : Nat) : ACall Tryz.prog 13 [buAV b] k [] (.lit (.bool (decide (b.cavs.length ≤ 80) && decide (b.dis.length ≤ 20)))) [] := by
 obtain ⟨rq, ep, se, L, pf, ds⟩ := b
 simp only at hl1 hl2 ⊢
 have hbA : buAV ⟨rq, ep, se, L, pf, ds⟩ = .agg [rqAV rq, .lit (.int .i64 ep), .lit (.int .i64 se), .slice none (L.map caAV), tagAV pf, .slice none (ds.map boAV)] := rfl
 by_cases h1 : L.length ≤ 80
 ·have h1i : (L.length : Int) ≤ 80 := by omega
  rw [decide_eq_true h1, Bool.true_and]
  by_cases h2 : ds.length ≤ 20
  ·have h2i : (ds.length : Int) ≤ 20 := by omega
   rw [decide_eq_true h2]
   refine Bd Tryz.func13 Tryz.ntmps13 fun σ N hp hpn hk hkn hfree => ?_
   exact W0
  ·have h2i : ¬ (ds.length : Int) ≤ 20 := by omega
   rw [decide_eq_false h2]
   refine Bd Tryz.func13 Tryz.ntmps13 fun σ N hp hpn hk hkn hfree => ?_
   exact W0
 ·have h1i : ¬ (L.length : Int) ≤ 80 := by omega
  rw [decide_eq_false h1, Bool.false_and]
  refine Bd Tryz.func13 Tryz.ntmps13 fun σ N hp hpn hk hkn hfree => ?_
  exact W0
theorem made_spec (l : List Int) (hl : l.length ≤ 9223372036854775807) : ∃ (s : Sc) (j : Nat), ScV s ∧ Dk l j ∧ ∀ k, ACall Tryz.prog 15 [.slice none (l.map intAV)] k [] (.tup [scAV { s with alg := (bunS s).1 }, buAV (bunS s).2, .ptr k [] 0]) [(k, deckBox l j)] := by
 have h0 : Dk l 0 := ⟨hl, Nat.zero_le _⟩
 obtain ⟨s, j, hs, hj, c2⟩ := Scene_ex l 0 h0
 refine ⟨s, j, hs, hj, fun k => ?_⟩
 have c1 := New_spec l
 have c3 := SBundle_spec s hs
 clear h0 hj hs
 generalize bunS s = B at *
 obtain ⟨A', b⟩ := B
 simp only at c3 ⊢
 generalize ({ s with alg := A' } : Sc) = s2 at *
 refine Bd Tryz.func15 Tryz.ntmps15 fun σ N hp hpn hk hkn hfree => ?_
 have hcs := And.intro c1 (And.intro (c2 (N + 3 + 1)) (And.intro (c3 (N + 6 + 2)) True.intro))
 clear c1 c2 c3
 refine Wk ?_
 refine go_result1 (r0 := N + 3 + 1) (by simp (disch := omega) [go_sem, *, -List.reduceReplicate]; rfl) (by omega) (by simp (disch := omega) [go_sem]; try rfl) (fun id hid => by simp (disch := omega) only [upd_ne, wr_cons, wr_nil]; try exact hlow id hid) (by simp (disch := omega) [go_sem, *, -List.reduceReplicate]; rfl) (by simp (disch := omega) [go_sem])
end
end Go.Proofs.YtemmlldpmgfblaaGreatDoor

namespace Go.Proofs.YtemmlldpmgfblaaGreatDoor
open Go.Ab
attribute [local irreducible] Go.Ab.tyAV Go.Ab.aw Go.Ab.aops Go.Ab.kReg Go.Ab.aThen Go.Ab.aBlk Go.Ab.acond Go.Ab.aguard Go.Ab.astep Go.Ab.AStepX Go.Ab.aRet
def tag9 : Tg := ⟨9 :: List.replicate 31 0, rfl⟩
def awB : Bu := ⟨⟨0, 1⟩, 1, 1, [], tag9, []⟩
theorem awB_in : BuIn awB := ⟨by decide, by decide, (fun c hc => by cases hc), (fun d hd => by cases hd)⟩
theorem leb_0 : leb 0 = [0] := by rw [leb]; rfl
theorem leb_1 : leb 1 = [1] := by rw [leb]; rfl
theorem awB_enc : encBu awB = [1, 0, 1, 1, 1, 0] ++ (9 :: List.replicate 31 0) ++ [0] := by
 unfold encBu headN awB
 simp only [List.flatMap_cons, List.flatMap_nil, List.length_nil]
 rw [show Int.toNat 0 = 0 from rfl, show Int.toNat 1 = 1 from rfl, leb_0, leb_1]
 rfl
theorem awB_S : encBS awB = ([1, 0, 1, 1, 1, 0, 9, 0, 0, 0, 0, 0, 0, 0, 0, 0, 0, 0, 0, 0, 0, 0, 0, 0, 0, 0, 0, 0, 0, 0, 0, 0, 0, 0, 0, 0, 0, 0, 0], 0) := by
 have hp : partsS awB = 0 := by decide
 have hc : chkS awB = 0 := by
  unfold chkS
  rw [if_neg (by rw [hp]; simp), if_neg (by rw [awB_enc]; decide)]
 unfold encBS
 rw [if_pos hc, awB_enc]
 rfl
theorem awake16_spec (d k : Nat) : ACall Tryz.prog 14 [] k [(d, bitsG)] (.lit (.bool true)) [] := by
 have c1 := EncodeB_spec awB awB_in d
 rw [awB_S] at c1
 have hB : buAV awB = .agg [.agg [.lit (.int .i64 0), .lit (.int .i64 1)], .lit (.int .i64 1), .lit (.int .i64 1), .slice none [], tagAV tag9, .slice none []] := rfl
 have hT : tagAV tag9 = .agg [.lit (.int .u8 9), .lit (.int .u8 0), .lit (.int .u8 0), .lit (.int .u8 0), .lit (.int .u8 0), .lit (.int .u8 0), .lit (.int .u8 0), .lit (.int .u8 0), .lit (.int .u8 0), .lit (.int .u8 0), .lit (.int .u8 0), .lit (.int .u8 0), .lit (.int .u8 0), .lit (.int .u8 0), .lit (.int .u8 0), .lit (.int .u8 0), .lit (.int .u8 0), .lit (.int .u8 0), .lit (.int .u8 0), .lit (.int .u8 0), .lit (.int .u8 0), .lit (.int .u8 0), .lit (.int .u8 0), .lit (.int .u8 0), .lit (.int .u8 0), .lit (.int .u8 0), .lit (.int .u8 0), .lit (.int .u8 0), .lit (.int .u8 0), .lit (.int .u8 0), .lit (.int .u8 0), .lit (.int .u8 0)] := rfl
 rw [hB, hT] at c1
 clear hB hT
 unfold encAV at c1
 refine Bd Tryz.func14 Tryz.ntmps14 fun σ N hp hpn hk hkn hfree => ?_
 obtain ⟨hd, hdn⟩ := HD0 hp hpn; clear hp hpn
 have hcs := And.intro c1 True.intro
 clear c1
 exact W0
end Go.Proofs.YtemmlldpmgfblaaGreatDoor
