/- The law CaveatValid. -/
import Derived.Test.YtaelnglalpiemaaDoorK10
namespace Go.Proofs.YtaelnglalpiemaaDoor
open Go.Ab
attribute [local irreducible] Go.Ab.tyAV Go.Ab.aw Go.Ab.aops Go.Ab.kReg Go.Ab.aThen Go.Ab.aBlk Go.Ab.acond Go.Ab.aguard Go.Ab.astep Go.Ab.AStepX Go.Ab.aRet

set_option maxHeartbeats 8000000 in
theorem caveatValid_core (c : Ca) (h : CaIn c) (deck other : List Int) (hd : deck.length ≤ 9223372036854775807) (ho : other.length ≤ 9223372036854775807) (hw n : Int) (hw0 : 0 ≤ hw) (hw1 : hw < 256) (d k : Nat) :
    ACall Tryd.prog 3 [caAV c, .slice none (deck.map intAV), .slice none (other.map intAV), .lit (.int .u8 hw), .lit (.int .i64 n)] k [(d, bitsG)] (.lit (.bool true)) [] := by
  obtain ⟨c', e1, e2, e3, a1⟩ := few_ex c h
  have pc : PrOk c'.first := by rw [e1]; exact h.pr
  have sc : CaSm c' := ⟨by omega, by omega⟩
  have a2 := New_spec deck
  obtain ⟨x, j1, x1, x2, x3, d1, a3⟩ := Caveat_ex deck 0 ⟨hd, Nat.zero_le _⟩
  obtain ⟨y, y1, y2, a4⟩ := spoilt_ex x x2 x3 hw n hw0 hw1
  obtain ⟨z, j2, z1, z2, z3, d2, a5⟩ := Caveat_ex deck j1 d1
  have a6 := New_spec other
  obtain ⟨t, j3, t1, t2, t3, d3, a7⟩ := Caveat_ex other 0 ⟨ho, Nat.zero_le _⟩
  have b1 := cavValid_spec x x2 d
  rw [x1] at b1
  have b2 := cavValid_spec c' pc d
  have b3 := refCav_spec c' pc
  have b4 := cavValid_spec y y1 d
  have b5 := refCav_spec y y1
  have hl : ∀ q ∈ [x, c', z, y], CaSm q := by simp [x3, sc, z3, y2]
  have hk : ∀ q ∈ [x, c', t, y], CaSm q := by simp [x3, sc, t3, y2]
  have h3 : ∀ q ∈ [x, c', z], CaSm q := by simp [x3, sc, z3]
  have b6 := firsts_gen [x, c', z, y] _ rfl (by simp)
  have b7 := refFirsts_gen [x, c', z, y] _ rfl (by simp)
  have b8 := SamePredicates_refl (firstsS [x, c', z, y]) (by have := firsts_len [x, c', z, y]; simp at this; omega)
  have b9 := Same_cav _ _ hl hk (by simp) (by simp)
  have b10 := refSame_cav _ _ hl hk (by simp) (by simp)
  have b11 := Same_cav _ _ hl hl (by simp) (by simp)
  have b12 := Same_cav _ _ hl h3 (by simp) (by simp)
  rw [decide_eq_true rfl] at b11
  rw [decide_eq_false (by simp)] at b12
  simp only [List.map_cons, List.map_nil] at b6 b7 b9 b10 b11 b12
  generalize (firstsS [x, c', z, y]).map prAV = FS at *
  generalize decide ([x, c', z, y] = [x, c', t, y]) = v9 at *
  generalize cavB c' = v2 at *
  generalize cavB y = v4 at *
  have b13 := awake12_spec d
  clear hl hk h3 x1 x2 x3 d1 y1 y2 z1 z2 z3 d2 t1 t2 t3 d3 e1 e2 e3 pc sc h hw0 hw1
  refine ACall.of_body mixed Tryd.func3 rfl (by kernel_rfl) Tryd.ntmps3 (by kernel_rfl) rfl (by simp) (by simp) (by simp) fun σ N hp hpn hk hkn hfree => ?_
  have hd := hp _ (List.mem_singleton.2 rfl); have hdn := hpn _ (List.mem_singleton.2 rfl); simp only at hd hdn; clear hp hpn
  have hcs := And.intro a1 (And.intro a2 (And.intro (a3 (N + 6)) (And.intro a4 (And.intro (a5 (N + 6)) (And.intro a6 (And.intro (a7 (N + 28)) (And.intro b1 (And.intro b2 (And.intro b3 (And.intro b4 (And.intro b5 (And.intro b6 (And.intro b7 (And.intro b8 (And.intro b9 (And.intro b10 (And.intro b11 (And.intro b12 (And.intro b13 True.intro)))))))))))))))))))
  clear a1 a2 a3 a4 a5 a6 a7 b1 b2 b3 b4 b5 b6 b7 b8 b9 b10 b11 b12 b13
  exact W0

theorem u64_of_wf {a : Int} (h : (Lit.int .u64 a).wf = true) : 0 ≤ a ∧ a < 18446744073709551616 := by
  have hw : IntKind.u64.min ≤ a ∧ a ≤ IntKind.u64.max := by simpa [Lit.wf] using h
  have e1 : IntKind.u64.min = 0 := by decide
  have e2 : IntKind.u64.max = 18446744073709551615 := by decide
  omega
theorem u8_of_wf {a : Int} (h : (Lit.int .u8 a).wf = true) : 0 ≤ a ∧ a < 256 := by
  have hw : IntKind.u8.min ≤ a ∧ a ≤ IntKind.u8.max := by simpa [Lit.wf] using h
  have e1 : IntKind.u8.min = 0 := by decide
  have e2 : IntKind.u8.max = 255 := by decide
  omega
theorem pred_ty {m : Nat} {x : AV} (h : tyAV Tryd.prog (m + 2) 24 x) : ∃ p : Pr, PrOk p ∧ x = prAV p := by
  obtain ⟨xs, rfl, h1, h2⟩ := ty_struct Tryd.underlying24 h
  obtain ⟨a, b, c, d, e, f, rfl⟩ : ∃ a b c d e f, xs = [a, b, c, d, e, f] := by
    match xs, h1 with
    | [a, b, c, d, e, f], _ => exact ⟨a, b, c, d, e, f, rfl⟩
  obtain ⟨v1, _, rfl⟩ := ty_int it3 (h2 0 _ _ rfl rfl)
  obtain ⟨v2, w2, rfl⟩ := ty_int it22 (h2 1 _ _ rfl rfl)
  obtain ⟨v3, _, rfl⟩ := ty_int it3 (h2 2 _ _ rfl rfl)
  obtain ⟨v4, _, rfl⟩ := ty_int it3 (h2 3 _ _ rfl rfl)
  obtain ⟨v5, w5, rfl⟩ := ty_str st9 (h2 4 _ _ rfl rfl)
  obtain ⟨v6, _, rfl⟩ := ty_int it3 (h2 5 _ _ rfl rfl)
  exact ⟨⟨v1, v2, v3, v4, v5, v6⟩, ⟨(u64_of_wf w2).1, (u64_of_wf w2).2, w5⟩, rfl⟩
theorem caveat_of {x : AV} (h : tyAV Tryd.prog 8 27 x) : ∃ c : Ca, CaIn c ∧ x = caAV c := by
  obtain ⟨xs, rfl, h1, h2⟩ := ty_struct Tryd.underlying27 h
  obtain ⟨a, b, c, d, e, rfl⟩ : ∃ a b c d e, xs = [a, b, c, d, e] := by
    match xs, h1 with
    | [a, b, c, d, e], _ => exact ⟨a, b, c, d, e, rfl⟩
  obtain ⟨v1, rfl⟩ := ty_bool bt4 (h2 0 _ _ rfl rfl)
  obtain ⟨v2, w2, rfl⟩ := pred_ty (h2 1 _ _ rfl rfl)
  obtain ⟨v3, _, rfl⟩ := ty_int it3 (h2 2 _ _ rfl rfl)
  obtain ⟨v4, w4, rfl⟩ := ty_bytes sl25 by5 (h2 3 _ _ rfl rfl)
  obtain ⟨v5, w5, rfl⟩ := ty_bytes sl25 by5 (h2 4 _ _ rfl rfl)
  exact ⟨⟨v1, v2, v3, v4, v5⟩, ⟨w2, w4, w5⟩, rfl⟩
theorem CaveatValid_spec (c : Ca) (h : CaIn c) (deck : List Int) (_ : ∀ n ∈ deck, (Lit.int .i64 n).wf = true) (hd : deck.length ≤ 9223372036854775807) (other : List Int) (_ : ∀ n ∈ other, (Lit.int .i64 n).wf = true) (ho : other.length ≤ 9223372036854775807)
    (hw : Int) (w : (Lit.int .u8 hw).wf = true) (n : Int) (d k : Nat) :
    ACall Tryd.prog 3 [caAV c, .slice none (deck.map intAV), .slice none (other.map intAV), .lit (.int .u8 hw), .lit (.int .i64 n)] k [(d, bitsG)] (.lit (.bool true)) [] :=
  caveatValid_core c h deck other hd ho hw n (u8_of_wf w).1 (u8_of_wf w).2 d k
end Go.Proofs.YtaelnglalpiemaaDoor
