/- Texts U18, U19, U20, U21, U22, joined. -/
import Derived.Test.YtemmlldpmgfblaaGreatDoorM10

/- Scenes and their bundles. -/
namespace Go.Proofs.YtemmlldpmgfblaaGreatDoor
open Go.Ab
attribute [local irreducible] Go.Ab.tyAV Go.Ab.aw Go.Ab.aops Go.Ab.kReg Go.Ab.aThen Go.Ab.aBlk Go.Ab.acond Go.Ab.aguard Go.Ab.astep Go.Ab.AStepX Go.Ab.aRet
attribute [local irreducible] shaG

section
variable [W : W32]
def bunS (s : Sc) : Alg × Bu := presS s.alg s.pass s.grants s.req
theorem bindL_tk {leaf : Tg} {r : Rq} (hr : rqB r = true) (gs : List Di) : ∀ (L : List Di) (u : Nat) (a : Alg) (D : List Bo) (m : Nat), AlgIn a m → m + L.length ≤ 60000 → gs.drop u = L → D.length = gs.length →
    (∀ i (hi : i < gs.length) (hj : i < D.length), (D[i]).ticket = (gs[i]).ticket ∧ (D[i]).conds = (gs[i]).conds) →
    AlgIn (bindL leaf r L u a D).1 (m + L.length) ∧ ∀ i (hi : i < gs.length) (hj : i < (bindL leaf r L u a D).2.length), ((bindL leaf r L u a D).2[i]).ticket = (gs[i]).ticket ∧ ((bindL leaf r L u a D).2[i]).conds = (gs[i]).conds
  | [], u, a, D, m, ha, _, _, _, hD => ⟨ha, hD⟩
  | d :: L, u, a, D, m, ha, hm, hL, hDl, hD => by
    have hu : u < gs.length := by
      have := congrArg List.length hL
      rw [List.length_drop, List.length_cons] at this; omega
    rw [List.drop_eq_getElem_cons hu, List.cons.injEq] at hL
    obtain ⟨hd, hL⟩ := hL
    obtain ⟨_, hB⟩ := bindS_ok ha (by rw [List.length_cons] at hm; omega) d leaf hr
    have := bindL_tk (leaf := leaf) hr gs L (u + 1) (bindS a d leaf r).1 (D.set u (bindS a d leaf r).2.1) (m + 1) (bindS_in ha d leaf r) (by rw [List.length_cons] at hm; omega) hL (by rw [List.length_set]; exact hDl) (fun i hi hj => by
      rw [List.getElem_set]
      split
      · rename_i h
        subst h
        rw [hB]
        simp only
        rw [hd]; exact ⟨rfl, rfl⟩
      · exact hD i hi (by rw [List.length_set] at hj; exact hj))
    rw [bindL]
    rw [show m + (d :: L).length = m + 1 + L.length by rw [List.length_cons]; omega]
    exact this
theorem bunS_ok {s : Sc} (h : ScV s) : BuIn (shellB s.pass s.grants s.req) ∧ chkS (shellB s.pass s.grants s.req) = 0 ∧ BuIn (bunS s).2 ∧ chkS (bunS s).2 = 0 ∧ AlgIn (bunS s).1 1006 := by
  obtain ⟨⟨se, hG, s1, s2⟩, hr⟩ := h
  obtain ⟨A, rg, con, ⟨ep, sr, L, tg⟩, gs, r, hol, mi⟩ := s
  obtain rfl : ep = 2 := hG.ep
  obtain rfl : sr = se := hG.es
  simp only at hr
  have hbl : ∀ i (hi : i < gs.length) (hj : i < (gs.map blankBo).length), ((gs.map blankBo)[i]).ticket = (gs[i]).ticket ∧ ((gs.map blankBo)[i]).conds = (gs[i]).conds := fun i hi hj => by rw [List.getElem_map]; exact ⟨rfl, rfl⟩
  obtain ⟨a1, a2⟩ := shell_of (tg := zeroTag) hr s1 s2 hG.cl hG.cv hG.th hG.gl hG.gv hG.gd (gs.map blankBo) (by simp) hbl
  have hin : AlgIn (prfS A ⟨2, sr, L, tg⟩ r).1 1001 := macS_in hG.ain _ _
  have hgl : gs.length ≤ 5 := hG.gl
  obtain ⟨b1, b2⟩ := bindL_tk (leaf := tg) hr gs gs 0 _ (gs.map blankBo) 1001 hin (by omega) rfl (by simp) hbl
  obtain ⟨c1, c2⟩ := shell_of (tg := (prfS A ⟨2, sr, L, tg⟩ r).2.1) hr s1 s2 hG.cl hG.cv hG.th hG.gl hG.gv hG.gd _ (by rw [bindL_len]; simp) b2
  exact ⟨a1, a2, c1, c2, b1.more (by omega)⟩
set_option maxHeartbeats 4000000 in
theorem SBundle_spec (s : Sc) (h : ScV s) (d k : Nat) : ACall Tryz.prog 54 [.ptr d [] 0] k [(d, .box 47 (scAV s))] (buAV (bunS s).2) [(d, .box 47 (scAV { s with alg := (bunS s).1 }))] := by
  obtain ⟨a1, a2, _, _, _⟩ := bunS_ok h
  obtain ⟨⟨se, hG, s1, s2⟩, hr⟩ := h
  have c1 := refPres_spec s.alg 1000 hG.ain s.pass s.grants s.req (by have := hG.gl; simp only at this; omega) (by omega) a1 a2
  have hB : presS s.alg s.pass s.grants s.req = bunS s := rfl
  rw [hB] at c1
  clear a1 a2 hG hB hr
  generalize bunS s = B at *
  obtain ⟨A', b⟩ := B
  obtain ⟨A, rg, con, p, gs, r, hol, mi⟩ := s
  have hdS : scAV ⟨A, rg, con, p, gs, r, hol, mi⟩ = .agg [algAV A, rgAV rg, concAV con, paAV p, .slice none (gs.map diAV), rqAV r, .lit (.string ⟨hol.toArray⟩), .lit (.int .i64 mi)] := rfl
  have hdS' : scAV ⟨A', rg, con, p, gs, r, hol, mi⟩ = .agg [algAV A', rgAV rg, concAV con, paAV p, .slice none (gs.map diAV), rqAV r, .lit (.string ⟨hol.toArray⟩), .lit (.int .i64 mi)] := rfl
  simp only at c1 ⊢
  rw [hdS, hdS']
  clear hdS hdS'
  refine Bd Tryz.func54 Tryz.ntmps54 fun σ N hp hpn hk hkn hfree => ?_
  obtain ⟨hd, hdn⟩ := HD0 hp hpn; clear hp hpn
  have hcs := And.intro c1 True.intro
  clear c1
  refine Wk ?_
  clear hcs
  exact RW (d) (.box 47 (.agg [algAV A', rgAV rg, concAV con, paAV p, .slice none (gs.map diAV), rqAV r, .lit (.string ⟨hol.toArray⟩), .lit (.int .i64 mi)]))
omit W in
theorem few_spec (b : Bu) (hl1 : b.cavs.length ≤ 9223372036854775807) (hl2 : b.dis.length ≤ 9223372036854775807) (k : Nat) : ACall Tryz.prog 13 [buAV b] k [] (.lit (.bool (decide (b.cavs.length ≤ 80) && decide (b.dis.length ≤ 20)))) [] := by
  obtain ⟨rq, ep, se, L, pf, ds⟩ := b
  simp only at hl1 hl2 ⊢
  have hbA : buAV ⟨rq, ep, se, L, pf, ds⟩ = .agg [rqAV rq, .lit (.int .i64 ep), .lit (.int .i64 se), .slice none (L.map caAV), tagAV pf, .slice none (ds.map boAV)] := rfl
  by_cases h1 : L.length ≤ 80
  · have h1i : (L.length : Int) ≤ 80 := by omega
    rw [decide_eq_true h1, Bool.true_and]
    by_cases h2 : ds.length ≤ 20
    · have h2i : (ds.length : Int) ≤ 20 := by omega
      rw [decide_eq_true h2]
      refine Bd Tryz.func13 Tryz.ntmps13 fun σ N hp hpn hk hkn hfree => ?_
      exact W0
    · have h2i : ¬ (ds.length : Int) ≤ 20 := by omega
      rw [decide_eq_false h2]
      refine Bd Tryz.func13 Tryz.ntmps13 fun σ N hp hpn hk hkn hfree => ?_
      exact W0
  · have h1i : ¬ (L.length : Int) ≤ 80 := by omega
    rw [decide_eq_false h1, Bool.false_and]
    refine Bd Tryz.func13 Tryz.ntmps13 fun σ N hp hpn hk hkn hfree => ?_
    exact W0
theorem made_spec (l : List Int) (hl : l.length ≤ 9223372036854775807) : ∃ (s : Sc) (j : Nat), ScV s ∧ Dk l j ∧ ∀ k, ACall Tryz.prog 15 [.slice none (l.map intAV)] k [] (.tup [scAV { s with alg := (bunS s).1 }, buAV (bunS s).2, .ptr k [] 0]) [(k, deckBox l j)] := by
  have h0 : Dk l 0 := ⟨hl, Nat.zero_le _⟩
  obtain ⟨s, j, hs, hj, c2⟩ := Scene_ex l 0 h0
  refine ⟨s, j, hs, hj, fun k => ?_⟩
  have c1 := New_spec l
  have c3 := SBundle_spec s hs
  clear h0 hj hs
  generalize bunS s = B at *
  obtain ⟨A', b⟩ := B
  simp only at c3 ⊢
  generalize ({ s with alg := A' } : Sc) = s2 at *
  refine Bd Tryz.func15 Tryz.ntmps15 fun σ N hp hpn hk hkn hfree => ?_
  have hcs := And.intro c1 (And.intro (c2 (N + 3 + 1)) (And.intro (c3 (N + 6 + 2)) True.intro))
  clear c1 c2 c3
  refine Wk ?_
  refine go_result1 (r0 := N + 3 + 1) (by simp (disch := omega) [go_sem, *, -List.reduceReplicate]; rfl) (by omega) (by simp (disch := omega) [go_sem]; try rfl) (fun id hid => by simp (disch := omega) only [upd_ne, wr_cons, wr_nil]; try exact hlow id hid) (by simp (disch := omega) [go_sem, *, -List.reduceReplicate]; rfl) (by simp (disch := omega) [go_sem])
end
end Go.Proofs.YtemmlldpmgfblaaGreatDoor

/- Decks: predicates. -/
namespace Go.Proofs.YtemmlldpmgfblaaGreatDoor
open Go.Ab
attribute [local irreducible] Go.Ab.tyAV Go.Ab.aw Go.Ab.aops Go.Ab.kReg Go.Ab.aThen Go.Ab.aBlk Go.Ab.acond Go.Ab.aguard Go.Ab.astep Go.Ab.AStepX Go.Ab.aRet

def pRun (l : List Int) (r : Bool) : Nat → Nat → List Pr → (List Pr × Nat) → Prop
  | 0, j, acc, R => R = (acc, j)
  | f + 1, j, acc, R => ∃ p j1, PRD l j r p j1 ∧ pRun l r f j1 (acc ++ [p]) R
theorem pRun_ex {l : List Int} {r : Bool} : ∀ (f j : Nat) (acc : List Pr), Dk l j → (∀ p ∈ acc, PrOk p ∧ predB p = true) → ∃ R, pRun l r f j acc R ∧ Dk l R.2 ∧ (∀ p ∈ R.1, PrOk p ∧ predB p = true) ∧ R.1.length = acc.length + f
  | 0, j, acc, h, ha => ⟨_, rfl, h, ha, rfl⟩
  | f + 1, j, acc, h, ha => by
    obtain ⟨p, j1, hp⟩ := PRD_ex h r
    obtain ⟨R, hR, h1, h2, h3⟩ := pRun_ex (r := r) f j1 (acc ++ [p]) hp.2.2.2.1 (fun q hq => by
      rcases List.mem_append.1 hq with hq | hq
      · exact ha q hq
      · rw [List.mem_singleton.1 hq]; exact ⟨hp.2.1, hp.1⟩)
    exact ⟨R, ⟨p, j1, hp, hR⟩, h1, h2, by rw [h3]; simp; omega⟩
set_option maxHeartbeats 2000000 in
theorem Preds_core (l : List Int) (i : Nat) (h : Dk l i) (n : Nat) (hn : n ≤ 1000) (r : Bool) (R : List Pr) (j : Nat) (hR : pRun l r (nextD l i (n + 1)).1 (nextD l i (n + 1)).2 [] (R, j)) (d k : Nat) :
    ACall Tryz.prog 55 [.ptr d [] 0, .lit (.int .i64 n), .lit (.bool r)] k [(d, deckBox l i)] (.slice none (R.map prAV)) [(d, deckBox l j)] := by
  have c1 := Next_spec l i (n + 1) h (by omega) (by omega)
  have h1 := nextD_dk (n + 1) h
  have h2 := nextD_lt l i (n + 1) (by omega)
  clear h
  generalize nextD l i (n + 1) = X at *
  obtain ⟨f0, j0⟩ := X
  simp only at *
  rw [show ((n + 1 : Nat) : Int) = (n : Int) + 1 by omega] at c1
  refine Bd Tryz.func55 Tryz.ntmps55 fun σ N hp hpn hk hkn hfree => ?_
  obtain ⟨hd, hdn⟩ := HD0 hp hpn; clear hp hpn
  have hcs := And.intro (c1 d) True.intro
  clear c1
  refine Wk ?_
  clear hcs
  refine ALoop.nilrow 7 110 6 (by simp (disch := omega) [go_sem, *, -List.reduceReplicate]) ?_
  refine go_loopB (N) mixed (by kernel_rfl) [7, 8, 13, 14, 15, 16, 17, 18, 19, 20, 21, 22] [d] (fun m_ s_ σ_ n_ => ∃ (f : Nat) (q : Nat) (acc : List Pr) (j' : Nat), m_ = f ∧ s_ 8 = .lit (.int .i64 f) ∧ s_ 7 = .slice (some q) (acc.map prAV) ∧ σ_ (d) = deckBox l j' ∧ σ_ (q) = .row 110 6 acc.length ∧ (N ≤ q) ∧ (q < n_) ∧ (acc.length + f ≤ 1000) ∧ (Dk l j') ∧ (pRun l r f j' acc (R, j))) ⟨_, f0, _, [], j0, rfl, WF, WF, WF, WF, WC, WC, WC, WC, WC⟩ ?_
  intro m_1 s_1 σ_1 n_1 hs_1 hf_1 hn_1 hI_1
  obtain ⟨f, q, acc, j', hm_1, h1_8, h1_7, e1_0, e1_1, hq, hqn, hal, hj, hrun⟩ := hI_1
  have h1_0 := KS hs_1 0
  have h1_2 := KS hs_1 2
  have h1_6 := KS hs_1 6
  have hlow := KD (N := N) (d := d) (σ := σ) hf_1
  clear hR
  cases f with
  | zero =>
    have hrun : (R, j) = (acc, j') := hrun
    simp only [Prod.mk.injEq] at hrun
    obtain ⟨rfl, rfl⟩ := hrun
    clear hj
    refine Wk ?_
    exact RV (d) (deckBox l j)
  | succ f =>
    obtain ⟨p, j1, ⟨p1, p2, p3, p4, p5⟩, hrun⟩ := hrun
    have hcs := And.intro (p5 d) True.intro
    clear p5 p1 p2 p3 hj
    refine Wk ?_
    exact ⟨WS, WG, WN, _, (show (f) < m_1 by omega), f, q, acc ++ [p], j1, rfl, WF, WF, WF, WF, WC, WC, WC, WC, WC⟩
theorem Preds_ex (l : List Int) (i : Nat) (h : Dk l i) (n : Nat) (hn : n ≤ 1000) (r : Bool) : ∃ (R : List Pr) (j : Nat), R.length ≤ n ∧ (∀ p ∈ R, PrOk p ∧ predB p = true) ∧ Dk l j ∧ ∀ d k, ACall Tryz.prog 55 [.ptr d [] 0, .lit (.int .i64 n), .lit (.bool r)] k [(d, deckBox l i)] (.slice none (R.map prAV)) [(d, deckBox l j)] := by
  obtain ⟨⟨R, j⟩, hR, h1, h2, h3⟩ := pRun_ex (r := r) (nextD l i (n + 1)).1 (nextD l i (n + 1)).2 [] (nextD_dk _ h) (fun p hp => by cases hp)
  have := nextD_lt l i (n + 1) (by omega)
  exact ⟨R, j, by simp only [List.length_nil] at h3; omega, h2, h1, fun d k => Preds_core l i h n hn r R j hR d k⟩
end Go.Proofs.YtemmlldpmgfblaaGreatDoor

/- Bundles spoilt. -/
namespace Go.Proofs.YtemmlldpmgfblaaGreatDoor
open Go.Ab
attribute [local irreducible] Go.Ab.tyAV Go.Ab.aw Go.Ab.aops Go.Ab.kReg Go.Ab.aThen Go.Ab.aBlk Go.Ab.acond Go.Ab.aguard Go.Ab.astep Go.Ab.AStepX Go.Ab.aRet

def sevB (n : Nat) : List Bo := (List.range n).map fun u => ⟨[UInt8.ofNat u, 2], [], zeroTag⟩
theorem sevB_succ (n : Nat) : sevB n ++ [⟨[UInt8.ofNat n, 2], [], zeroTag⟩] = sevB (n + 1) := by unfold sevB; rw [List.range_succ, List.map_append]; rfl
def eigB (n : Nat) : List Bo := (List.range n).map fun u => ⟨List.replicate 990 0 ++ [UInt8.ofNat u], [], zeroTag⟩
theorem eigB_succ (n : Nat) : eigB n ++ [⟨List.replicate 990 0 ++ [UInt8.ofNat n], [], zeroTag⟩] = eigB (n + 1) := by unfold eigB; rw [List.range_succ, List.map_append]; rfl
theorem wrap8 {x : Int} (h : 0 ≤ x ∧ x < 256) : IntKind.u8.wrap x = x := by
  rw [IntKind.wrap_u8]; omega
theorem byte_ofNat {u : Nat} (h : u < 256) : byteAV (UInt8.ofNat u) = .lit (.int .u8 (u : Int)) := by
  unfold byteAV
  rw [UInt8.toNat_ofNat', Nat.mod_eq_of_lt h]
def rideC : Ca := ⟨false, ⟨7, 0, 0, 0, [], 0⟩, 0, [], []⟩

set_option maxHeartbeats 4000000 in
theorem spoilt0 (b : Bu) (hcl : b.cavs.length ≤ 10) (hdl : b.dis.length ≤ 10) (l : List Int) (i j : Nat) (hn : nextD l i 10 = (0, j)) (h : Dk l i) (x : Int) (d k : Nat) :
    ACall Tryz.prog 16 [buAV b, .ptr d [] 0, .lit (.int .i64 x)] k [(d, deckBox l i)] (buAV ⟨⟨x, b.req.nonce⟩, b.epoch, b.serial, b.cavs, b.proof, b.dis⟩) [(d, deckBox l j)] := by
  have c1 := Next_spec l i 10 h (by omega) (by omega)
  rw [hn] at c1
  clear hn h
  obtain ⟨⟨rg, rn⟩, ep, se, L, pf, ds⟩ := b
  simp only at hcl hdl ⊢
  have hb24 : (ds.length + 20) * 80 ≤ 140737488355328 := by omega
  have hb25 : ds.length * 80 ≤ 140737488355328 := by omega
  have hb26 : ds.length ≤ 140737488355328 := by omega
  have hb27 : (L.length + 1) * 120 ≤ 140737488355328 := by omega
  have hb28 : L.length * 120 ≤ 140737488355328 := by omega
  have hb29 : L.length ≤ 140737488355327 := by omega
  unfold buAV rqAV
  simp only
  refine Bd Tryz.func16 Tryz.ntmps16 fun σ N hp hpn hk hkn hfree => ?_
  obtain ⟨hd, hdn⟩ := HD0 hp hpn; clear hp hpn
  have hcs := And.intro (c1 d) True.intro
  clear c1
  refine Wk ?_
  exact RV (d) (deckBox l j)
set_option maxHeartbeats 4000000 in
theorem spoilt1 (b : Bu) (hcl : b.cavs.length ≤ 10) (hdl : b.dis.length ≤ 10) (l : List Int) (i j : Nat) (hn : nextD l i 10 = (1, j)) (h : Dk l i) (x : Int) (d k : Nat) :
    ACall Tryz.prog 16 [buAV b, .ptr d [] 0, .lit (.int .i64 x)] k [(d, deckBox l i)] (buAV ⟨⟨b.req.gate, x⟩, b.epoch, b.serial, b.cavs, b.proof, b.dis⟩) [(d, deckBox l j)] := by
  have c1 := Next_spec l i 10 h (by omega) (by omega)
  rw [hn] at c1
  clear hn h
  obtain ⟨⟨rg, rn⟩, ep, se, L, pf, ds⟩ := b
  simp only at hcl hdl ⊢
  have hb24 : (ds.length + 20) * 80 ≤ 140737488355328 := by omega
  have hb25 : ds.length * 80 ≤ 140737488355328 := by omega
  have hb26 : ds.length ≤ 140737488355328 := by omega
  have hb27 : (L.length + 1) * 120 ≤ 140737488355328 := by omega
  have hb28 : L.length * 120 ≤ 140737488355328 := by omega
  have hb29 : L.length ≤ 140737488355327 := by omega
  unfold buAV rqAV
  simp only
  refine Bd Tryz.func16 Tryz.ntmps16 fun σ N hp hpn hk hkn hfree => ?_
  obtain ⟨hd, hdn⟩ := HD0 hp hpn; clear hp hpn
  have hcs := And.intro (c1 d) True.intro
  clear c1
  refine Wk ?_
  exact RV (d) (deckBox l j)
set_option maxHeartbeats 4000000 in
theorem spoilt2 (b : Bu) (hcl : b.cavs.length ≤ 10) (hdl : b.dis.length ≤ 10) (l : List Int) (i j : Nat) (hn : nextD l i 10 = (2, j)) (h : Dk l i) (x : Int) (d k : Nat) :
    ACall Tryz.prog 16 [buAV b, .ptr d [] 0, .lit (.int .i64 x)] k [(d, deckBox l i)] (buAV ⟨b.req, x, b.serial, b.cavs, b.proof, b.dis⟩) [(d, deckBox l j)] := by
  have c1 := Next_spec l i 10 h (by omega) (by omega)
  rw [hn] at c1
  clear hn h
  obtain ⟨⟨rg, rn⟩, ep, se, L, pf, ds⟩ := b
  simp only at hcl hdl ⊢
  have hb24 : (ds.length + 20) * 80 ≤ 140737488355328 := by omega
  have hb25 : ds.length * 80 ≤ 140737488355328 := by omega
  have hb26 : ds.length ≤ 140737488355328 := by omega
  have hb27 : (L.length + 1) * 120 ≤ 140737488355328 := by omega
  have hb28 : L.length * 120 ≤ 140737488355328 := by omega
  have hb29 : L.length ≤ 140737488355327 := by omega
  unfold buAV rqAV
  simp only
  refine Bd Tryz.func16 Tryz.ntmps16 fun σ N hp hpn hk hkn hfree => ?_
  obtain ⟨hd, hdn⟩ := HD0 hp hpn; clear hp hpn
  have hcs := And.intro (c1 d) True.intro
  clear c1
  refine Wk ?_
  exact RV (d) (deckBox l j)
set_option maxHeartbeats 4000000 in
theorem spoilt3 (b : Bu) (hcl : b.cavs.length ≤ 10) (hdl : b.dis.length ≤ 10) (l : List Int) (i j : Nat) (hn : nextD l i 10 = (3, j)) (h : Dk l i) (x : Int) (d k : Nat) :
    ACall Tryz.prog 16 [buAV b, .ptr d [] 0, .lit (.int .i64 x)] k [(d, deckBox l i)] (buAV ⟨b.req, b.epoch, x, b.cavs, b.proof, b.dis⟩) [(d, deckBox l j)] := by
  have c1 := Next_spec l i 10 h (by omega) (by omega)
  rw [hn] at c1
  clear hn h
  obtain ⟨⟨rg, rn⟩, ep, se, L, pf, ds⟩ := b
  simp only at hcl hdl ⊢
  have hb24 : (ds.length + 20) * 80 ≤ 140737488355328 := by omega
  have hb25 : ds.length * 80 ≤ 140737488355328 := by omega
  have hb26 : ds.length ≤ 140737488355328 := by omega
  have hb27 : (L.length + 1) * 120 ≤ 140737488355328 := by omega
  have hb28 : L.length * 120 ≤ 140737488355328 := by omega
  have hb29 : L.length ≤ 140737488355327 := by omega
  unfold buAV rqAV
  simp only
  refine Bd Tryz.func16 Tryz.ntmps16 fun σ N hp hpn hk hkn hfree => ?_
  obtain ⟨hd, hdn⟩ := HD0 hp hpn; clear hp hpn
  have hcs := And.intro (c1 d) True.intro
  clear c1
  refine Wk ?_
  exact RV (d) (deckBox l j)
set_option maxHeartbeats 4000000 in
theorem spoilt4 (b : Bu) (hcl : b.cavs.length ≤ 10) (hdl : b.dis.length ≤ 10) (l : List Int) (i j : Nat) (hn : nextD l i 10 = (4, j)) (h : Dk l i) (x : Int) (d k : Nat) :
    ACall Tryz.prog 16 [buAV b, .ptr d [] 0, .lit (.int .i64 x)] k [(d, deckBox l i)] (buAV ⟨b.req, b.epoch, b.serial, b.cavs ++ [⟨true, zeroPr, x % 10, [], []⟩], b.proof, b.dis⟩) [(d, deckBox l j)] := by
  have c1 := Next_spec l i 10 h (by omega) (by omega)
  rw [hn] at c1
  clear hn h
  obtain ⟨⟨rg, rn⟩, ep, se, L, pf, ds⟩ := b
  simp only at hcl hdl ⊢
  have hb24 : (ds.length + 20) * 80 ≤ 140737488355328 := by omega
  have hb25 : ds.length * 80 ≤ 140737488355328 := by omega
  have hb26 : ds.length ≤ 140737488355328 := by omega
  have hb27 : (L.length + 1) * 120 ≤ 140737488355328 := by omega
  have hb28 : L.length * 120 ≤ 140737488355328 := by omega
  have hb29 : L.length ≤ 140737488355327 := by omega
  have c2 := Within_spec x 10 (by omega) (by omega)
  unfold buAV rqAV
  simp only
  refine Bd Tryz.func16 Tryz.ntmps16 fun σ N hp hpn hk hkn hfree => ?_
  obtain ⟨hd, hdn⟩ := HD0 hp hpn; clear hp hpn
  have hcs := And.intro (c1 d) (And.intro c2 True.intro)
  clear c1 c2
  iterate 10 refine Wz ?_
  clear hcs
  refine go_lessIn N [3] (.slice (some (N + 20)) ((L ++ [(⟨true, zeroPr, x % 10, [], []⟩ : Ca)]).map caAV)) (bt := 29) (c := .agg [.agg [.lit (.int .i64 rg), .lit (.int .i64 rn)], .lit (.int .i64 ep), .lit (.int .i64 se), .slice (some (N + 20)) (L.map caAV ++ [.agg [.lit (.bool true), prAV zeroPr, .lit (.int .i64 (x % 10)), .nils, .nils]]), tagAV pf, .slice (some (N + 2)) (ds.map boAV)]) (by simp (disch := omega) [go_sem, *, -List.reduceReplicate]; try rfl) rfl (by
    rw [List.map_append]
    exact AV.le_sliceS _ (ALe.snoc (AV.sub_agg (.cons (AV.le_refl _) (.cons (AV.le_refl _) (.cons (AV.le_refl _) (.cons AV.le_nils (.cons AV.le_nils .nil)))))))) rfl rfl ?_
  refine Wk ?_
  exact RV (d) (deckBox l j)
set_option maxHeartbeats 4000000 in
theorem spoilt5 (b : Bu) (hcl : b.cavs.length ≤ 10) (hdl : b.dis.length ≤ 10) (l : List Int) (i j : Nat) (hn : nextD l i 10 = (5, j)) (h : Dk l i) (x : Int) (R : List Pr) (j2 : Nat) (c2 : ∀ d k, ACall Tryz.prog 55 [.ptr d [] 0, .lit (.int .i64 (9 : Nat)), .lit (.bool true)] k [(d, deckBox l j)] (.slice none (R.map prAV)) [(d, deckBox l j2)]) (d k : Nat) :
    ACall Tryz.prog 16 [buAV b, .ptr d [] 0, .lit (.int .i64 x)] k [(d, deckBox l i)] (buAV ⟨b.req, b.epoch, b.serial, b.cavs, b.proof, b.dis ++ [⟨[1], R, zeroTag⟩]⟩) [(d, deckBox l j2)] := by
  have c1 := Next_spec l i 10 h (by omega) (by omega)
  rw [hn] at c1
  clear hn h
  obtain ⟨⟨rg, rn⟩, ep, se, L, pf, ds⟩ := b
  simp only at hcl hdl ⊢
  have hb24 : (ds.length + 20) * 80 ≤ 140737488355328 := by omega
  have hb25 : ds.length * 80 ≤ 140737488355328 := by omega
  have hb26 : ds.length ≤ 140737488355328 := by omega
  have hb27 : (L.length + 1) * 120 ≤ 140737488355328 := by omega
  have hb28 : L.length * 120 ≤ 140737488355328 := by omega
  have hb29 : L.length ≤ 140737488355327 := by omega
  clear hcl
  unfold buAV rqAV
  simp only
  refine Bd Tryz.func16 Tryz.ntmps16 fun σ N hp hpn hk hkn hfree => ?_
  obtain ⟨hd, hdn⟩ := HD0 hp hpn; clear hp hpn
  have hcs := And.intro (c1 d) (And.intro (c2 d) True.intro)
  clear c1 c2
  iterate 11 refine Wz ?_
  clear hcs
  refine go_lessIn N [5] (.slice (some (N + 2)) ((ds ++ [(⟨[1], R, zeroTag⟩ : Bo)]).map boAV)) (bt := 29) (c := .agg [.agg [.lit (.int .i64 rg), .lit (.int .i64 rn)], .lit (.int .i64 ep), .lit (.int .i64 se), .slice none (L.map caAV), tagAV pf, .slice (some (N + 2)) (ds.map boAV ++ [.agg [.slice (some (N + 22 + 2)) [.lit (.int .u8 1)], .slice none (R.map prAV), tagAV zeroTag]])]) (by simp (disch := omega) [go_sem, *, -List.reduceReplicate]; try rfl) rfl (by
    rw [List.map_append]
    exact AV.le_sliceS _ (ALe.snoc (AV.sub_agg (.cons (AV.le_own _ _) (.cons (AV.le_refl _) (.cons (AV.le_refl _) .nil)))))) rfl rfl ?_
  refine Wk ?_
  exact RV (d) (deckBox l j2)
set_option maxHeartbeats 4000000 in
theorem spoilt6 (b : Bu) (hcl : b.cavs.length ≤ 10) (hdl : b.dis.length ≤ 10) (l : List Int) (i j : Nat) (hn : nextD l i 10 = (6, j)) (h : Dk l i) (x : Int) (d k : Nat) :
    ACall Tryz.prog 16 [buAV b, .ptr d [] 0, .lit (.int .i64 x)] k [(d, deckBox l i)] (buAV ⟨b.req, b.epoch, b.serial, b.cavs, b.proof, b.dis ++ b.dis⟩) [(d, deckBox l j)] := by
  have c1 := Next_spec l i 10 h (by omega) (by omega)
  rw [hn] at c1
  clear hn h
  obtain ⟨⟨rg, rn⟩, ep, se, L, pf, ds⟩ := b
  simp only at hcl hdl ⊢
  have hb24 : (ds.length + 20) * 80 ≤ 140737488355328 := by omega
  have hb25 : ds.length * 80 ≤ 140737488355328 := by omega
  have hb26 : ds.length ≤ 140737488355328 := by omega
  have hb27 : (L.length + 1) * 120 ≤ 140737488355328 := by omega
  have hb28 : L.length * 120 ≤ 140737488355328 := by omega
  have hb29 : L.length ≤ 140737488355327 := by omega
  unfold buAV rqAV
  simp only
  refine Bd Tryz.func16 Tryz.ntmps16 fun σ N hp hpn hk hkn hfree => ?_
  obtain ⟨hd, hdn⟩ := HD0 hp hpn; clear hp hpn
  have hcs := And.intro (c1 d) True.intro
  clear c1
  have hmm : ds.map boAV ++ ds.map boAV = (ds ++ ds).map boAV := by rw [List.map_append]
  generalize ds ++ ds = D2 at *
  refine Wk ?_
  exact RV (d) (deckBox l j)
set_option maxHeartbeats 4000000 in
theorem spoilt7 (b : Bu) (hcl : b.cavs.length ≤ 10) (hdl : b.dis.length ≤ 10) (l : List Int) (i j : Nat) (hn : nextD l i 10 = (7, j)) (h : Dk l i) (x : Int) (d k : Nat) :
    ACall Tryz.prog 16 [buAV b, .ptr d [] 0, .lit (.int .i64 x)] k [(d, deckBox l i)] (buAV ⟨b.req, b.epoch, b.serial, b.cavs, b.proof, b.dis ++ sevB 9⟩) [(d, deckBox l j)] := by
  have c1 := Next_spec l i 10 h (by omega) (by omega)
  rw [hn] at c1
  clear hn h
  obtain ⟨⟨rg, rn⟩, ep, se, L, pf, ds⟩ := b
  simp only at hcl hdl ⊢
  have hb24 : (ds.length + 20) * 80 ≤ 140737488355328 := by omega
  have hb25 : ds.length * 80 ≤ 140737488355328 := by omega
  have hb26 : ds.length ≤ 140737488355328 := by omega
  have hb27 : (L.length + 1) * 120 ≤ 140737488355328 := by omega
  have hb28 : L.length * 120 ≤ 140737488355328 := by omega
  have hb29 : L.length ≤ 140737488355327 := by omega
  have hs0 : sevB 0 = [] := rfl
  unfold buAV rqAV
  simp only
  refine Bd Tryz.func16 Tryz.ntmps16 fun σ N hp hpn hk hkn hfree => ?_
  obtain ⟨hd, hdn⟩ := HD0 hp hpn; clear hp hpn
  have hcs := And.intro (c1 d) True.intro
  clear c1
  iterate 13 refine Wz ?_
  clear hcs
  refine go_loopF mixed (by kernel_rfl) [7, 68, 69, 70, 71, 72, 73, 74, 75, 76, 77, 78, 79, 80] [N, N+2, d] (fun m_ s_ σ_ n_ => ∃ (u : Nat) (D : List Bo), m_ = 9 - u ∧ s_ 7 = .lit (.int .i64 u) ∧ σ_ (N) = .box 29 (.agg [.agg [.lit (.int .i64 rg), .lit (.int .i64 rn)], .lit (.int .i64 ep), .lit (.int .i64 se), .slice none (L.map caAV), tagAV pf, .slice (some (N + 2)) (D.map boAV)]) ∧ σ_ (N+2) = .row 70 34 D.length ∧ σ_ (d) = deckBox l j ∧ (u ≤ 9) ∧ (D.length = ds.length + u) ∧ (D = ds ++ sevB u)) ⟨_, 0, ds, rfl, WF, WF, WF, WF, WC, WC, WC⟩ ?_
  intro m_1 s_1 σ_1 n_1 hs_1 hf_1 hn_1 hI_1
  obtain ⟨u, D, hm_1, h1_7, e1_0, e1_1, e1_2, hu, hDl, hD⟩ := hI_1
  have h1_2 := KS hs_1 2
  have h1_3 := KS hs_1 3
  have h1_6 := KS hs_1 6
  have h1_16 := KS hs_1 16
  have k1_0 := KE hf_1 (N + 1)
  have hlow := KD (N := N) (d := d) (σ := σ) hf_1
  by_cases hul : u = 9
  · subst hul
    rw [← hD]
    clear hD
    refine Wk ?_
    exact RV (d) (deckBox l j)
  · have hu1 : u < 9 := by omega
    have hu1i : (u : Int) < 9 := by omega
    have hq1 : (D.length + 1) * 80 ≤ 140737488355328 := by omega
    have hq2 : D.length ≤ 140737488355327 := by omega
    obtain ⟨e, he⟩ : ∃ e : Bo, e = ⟨[UInt8.ofNat u, 2], [], zeroTag⟩ := ⟨_, rfl⟩
    have hD2 : D ++ [e] = ds ++ sevB (u + 1) := by rw [hD, List.append_assoc, he, sevB_succ]
    have hwr : IntKind.u8.wrap (u : Int) = (u : Int) := wrap8 (by omega)
    have hel : ∀ q, AV.le (.agg [.slice (some q) [.lit (.int .u8 (u : Int)), .lit (.int .u8 2)], .nils, tagAV zeroTag]) (boAV e) := fun q => by
      rw [he]
      exact AV.sub_agg (.cons (AV.le_slices (by rw [List.map_cons, byte_ofNat (by omega)]; rfl)) (.cons AV.le_nils (.cons (AV.le_refl _) .nil)))
    have hm2 : D.map boAV ++ [boAV e] = (D ++ [e]).map boAV := by simp
    have hl2 : D.length + 1 = (D ++ [e]).length := by simp
    clear hD he
    have hs9 : (sevB (u + 1)).length = u + 1 := by unfold sevB; simp
    have hl4 : ds.length + u + 1 = ds.length + (u + 1) := by omega
    generalize D ++ [e] = D2 at *
    iterate 3 refine Wz ?_
    refine go_lessIn N [5] (.slice (some (N + 2)) (D2.map boAV)) (bt := 29) (c := .agg [.agg [.lit (.int .i64 rg), .lit (.int .i64 rn)], .lit (.int .i64 ep), .lit (.int .i64 se), .slice none (L.map caAV), tagAV pf, .slice (some (N + 2)) (D.map boAV ++ [.agg [.slice (some (n_1 + 2 + 4)) [.lit (.int .u8 (u : Int)), .lit (.int .u8 2)], .nils, tagAV zeroTag]])]) (by simp (disch := omega) [go_sem, *, -List.reduceReplicate]; try rfl) rfl (by
      rw [← hm2]
      exact AV.le_sliceS _ (ALe.snoc (hel _))) rfl rfl ?_
    refine Wk ?_
    exact ⟨WS, WG, WN, _, (show 9 - (u + 1) < m_1 by omega), u + 1, D2, rfl, WF, WF, WF, WF, WC, WC, WC⟩
set_option maxHeartbeats 4000000 in
theorem spoilt8 (b : Bu) (hcl : b.cavs.length ≤ 10) (hdl : b.dis.length ≤ 10) (l : List Int) (i j : Nat) (hn : nextD l i 10 = (8, j)) (h : Dk l i) (x : Int) (d k : Nat) :
    ACall Tryz.prog 16 [buAV b, .ptr d [] 0, .lit (.int .i64 x)] k [(d, deckBox l i)] (buAV ⟨b.req, b.epoch, b.serial, b.cavs, b.proof, b.dis ++ eigB (4 + x % 3).toNat⟩) [(d, deckBox l j)] := by
  have c1 := Next_spec l i 10 h (by omega) (by omega)
  rw [hn] at c1
  clear hn h
  obtain ⟨⟨rg, rn⟩, ep, se, L, pf, ds⟩ := b
  simp only at hcl hdl ⊢
  have hb24 : (ds.length + 20) * 80 ≤ 140737488355328 := by omega
  have hb25 : ds.length * 80 ≤ 140737488355328 := by omega
  have hb26 : ds.length ≤ 140737488355328 := by omega
  have hb27 : (L.length + 1) * 120 ≤ 140737488355328 := by omega
  have hb28 : L.length * 120 ≤ 140737488355328 := by omega
  have hb29 : L.length ≤ 140737488355327 := by omega
  have hs0 : eigB 0 = [] := rfl
  have c2 := Within_spec x 3 (by omega) (by omega)
  have hx0 : 0 ≤ x % 3 := Int.emod_nonneg _ (by omega)
  have hx1 : x % 3 < 3 := Int.emod_lt_of_pos _ (by omega)
  obtain ⟨M, hM⟩ : ∃ M, (4 + x % 3).toNat = M := ⟨_, rfl⟩
  have hMi : 4 + x % 3 = (M : Int) := by omega
  have hM6 : M ≤ 6 := by omega
  rw [hM]
  clear hM
  unfold buAV rqAV
  simp only
  refine Bd Tryz.func16 Tryz.ntmps16 fun σ N hp hpn hk hkn hfree => ?_
  obtain ⟨hd, hdn⟩ := HD0 hp hpn; clear hp hpn
  have hcs := And.intro (c1 d) True.intro
  clear c1
  iterate 14 refine Wz ?_
  clear hcs
  refine go_loopF mixed (by kernel_rfl) [8, 83, 84, 85, 86, 87, 88, 89, 90, 91, 92, 93, 94, 95, 96, 97, 98, 99, 100] [N, N+2, d] (fun m_ s_ σ_ n_ => ∃ (u : Nat) (D : List Bo), m_ = M - u ∧ s_ 8 = .lit (.int .i64 u) ∧ σ_ (N) = .box 29 (.agg [.agg [.lit (.int .i64 rg), .lit (.int .i64 rn)], .lit (.int .i64 ep), .lit (.int .i64 se), .slice none (L.map caAV), tagAV pf, .slice (some (N + 2)) (D.map boAV)]) ∧ σ_ (N+2) = .row 70 34 D.length ∧ σ_ (d) = deckBox l j ∧ (u ≤ M) ∧ (D.length = ds.length + u) ∧ (D = ds ++ eigB u)) ⟨_, 0, ds, rfl, WF, WF, WF, WF, WC, WC, WC⟩ ?_
  intro m_2 s_2 σ_2 n_2 hs_2 hf_2 hn_2 hI_2
  obtain ⟨u, D, hm_2, h2_8, e2_0, e2_1, e2_2, hu, hDl, hD⟩ := hI_2
  have h2_2 := KS hs_2 2
  have h2_3 := KS hs_2 3
  have h2_6 := KS hs_2 6
  have h2_16 := KS hs_2 16
  have k2_0 := KE hf_2 (N + 1)
  have hlow := KD (N := N) (d := d) (σ := σ) hf_2
  have hcs := And.intro c2 True.intro
  clear c2
  by_cases hul : u = M
  · subst hul
    rw [← hD]
    clear hD
    refine Wk ?_
    exact RV (d) (deckBox l j)
  · have hu1 : u < M := by omega
    have hu1i : (u : Int) < (M : Int) := by omega
    have hq1 : (D.length + 1) * 80 ≤ 140737488355328 := by omega
    have hq2 : D.length ≤ 140737488355327 := by omega
    have hwr : IntKind.u8.wrap (u : Int) = (u : Int) := wrap8 (by omega)
    obtain ⟨e, he⟩ : ∃ e : Bo, e = ⟨List.replicate 990 0 ++ [UInt8.ofNat u], [], zeroTag⟩ := ⟨_, rfl⟩
    have hD2 : D ++ [e] = ds ++ eigB (u + 1) := by rw [hD, List.append_assoc, he, eigB_succ]
    obtain ⟨Z, hZ⟩ : ∃ Z, List.replicate 990 (AV.lit (.int .u8 0)) = Z := ⟨_, rfl⟩
    have hZl : Z.length = 990 := by rw [← hZ, List.length_replicate]
    have hZa : Z.all (fun x => x.sz == 1) = true := by rw [← hZ, List.all_eq_true]; intro z hz; rw [List.eq_of_mem_replicate hz]; rfl
    have hel : ∀ q, AV.le (.agg [.slice (some q) (Z ++ [.lit (.int .u8 (u : Int))]), .nils, tagAV zeroTag]) (boAV e) := fun q => by
      rw [he]
      exact AV.sub_agg (.cons (AV.le_slices (by rw [← hZ, List.map_append, List.map_replicate, List.map_cons, byte_ofNat (by omega)]; rfl)) (.cons AV.le_nils (.cons (AV.le_refl _) .nil)))
    have hm2 : D.map boAV ++ [boAV e] = (D ++ [e]).map boAV := by simp
    have hl2 : D.length + 1 = (D ++ [e]).length := by simp
    clear hD he
    have hs9 : (eigB (u + 1)).length = u + 1 := by unfold eigB; rw [List.length_map, List.length_range]
    have hl4 : ds.length + u + 1 = ds.length + (u + 1) := by omega
    generalize D ++ [e] = D2 at *
    iterate 3 refine Wz ?_
    refine go_lessIn N [5] (.slice (some (N + 2)) (D2.map boAV)) (bt := 29) (c := .agg [.agg [.lit (.int .i64 rg), .lit (.int .i64 rn)], .lit (.int .i64 ep), .lit (.int .i64 se), .slice none (L.map caAV), tagAV pf, .slice (some (N + 2)) (D.map boAV ++ [.agg [.slice (some (n_2 + 5 + 2)) (Z ++ [.lit (.int .u8 (u : Int))]), .nils, tagAV zeroTag]])]) (by simp (disch := omega) [go_sem, *, -List.reduceReplicate]; try rfl) rfl (by
      rw [← hm2]
      exact AV.le_sliceS _ (ALe.snoc (hel _))) rfl rfl ?_
    refine Wk ?_
    exact ⟨WS, WG, WN, _, (show M - (u + 1) < m_2 by omega), u + 1, D2, rfl, WF, WF, WF, WF, WC, WC, WC⟩
set_option maxHeartbeats 4000000 in
theorem spoilt9 (b : Bu) (hcl : b.cavs.length ≤ 10) (hdl : b.dis.length ≤ 10) (l : List Int) (i j : Nat) (hn : nextD l i 10 = (9, j)) (h : Dk l i) (x : Int) (d k : Nat) :
    ACall Tryz.prog 16 [buAV b, .ptr d [] 0, .lit (.int .i64 x)] k [(d, deckBox l i)] (buAV ⟨b.req, b.epoch, b.serial, b.cavs ++ List.replicate (58 + x % 8).toNat rideC, b.proof, b.dis⟩) [(d, deckBox l j)] := by
  have c1 := Next_spec l i 10 h (by omega) (by omega)
  rw [hn] at c1
  clear hn h
  obtain ⟨⟨rg, rn⟩, ep, se, L, pf, ds⟩ := b
  simp only at hcl hdl ⊢
  have hb24 : (ds.length + 20) * 80 ≤ 140737488355328 := by omega
  have hb25 : ds.length * 80 ≤ 140737488355328 := by omega
  have hb26 : ds.length ≤ 140737488355328 := by omega
  have hb27 : (L.length + 1) * 120 ≤ 140737488355328 := by omega
  have hb28 : L.length * 120 ≤ 140737488355328 := by omega
  have hb29 : L.length ≤ 140737488355327 := by omega
  have c2 := Within_spec x 8 (by omega) (by omega)
  have hx0 : 0 ≤ x % 8 := Int.emod_nonneg _ (by omega)
  have hx1 : x % 8 < 8 := Int.emod_lt_of_pos _ (by omega)
  obtain ⟨M, hM⟩ : ∃ M, (58 + x % 8).toNat = M := ⟨_, rfl⟩
  have hMi : 58 + x % 8 = (M : Int) := by omega
  have hM6 : M ≤ 65 := by omega
  rw [hM]
  clear hM
  unfold buAV rqAV
  simp only
  refine Bd Tryz.func16 Tryz.ntmps16 fun σ N hp hpn hk hkn hfree => ?_
  obtain ⟨hd, hdn⟩ := HD0 hp hpn; clear hp hpn
  have hcs := And.intro (c1 d) True.intro
  clear c1
  iterate 15 refine Wz ?_
  clear hcs
  refine go_loopF mixed (by kernel_rfl) [9, 103, 104, 105, 106, 107, 108, 109, 110, 111, 112, 113, 114, 115, 116, 117, 118] [N, d] (fun m_ s_ σ_ n_ => ∃ (u : Nat) (C : List Ca), m_ = M - u ∧ s_ 9 = .lit (.int .i64 u) ∧ σ_ (N) = .box 29 (.agg [.agg [.lit (.int .i64 rg), .lit (.int .i64 rn)], .lit (.int .i64 ep), .lit (.int .i64 se), .slice none (C.map caAV), tagAV pf, .slice (some (N + 2)) (ds.map boAV)]) ∧ σ_ (d) = deckBox l j ∧ (u ≤ M) ∧ (C.length = L.length + u) ∧ (C = L ++ List.replicate u rideC)) ⟨_, 0, L, rfl, WF, WF, WF, WC, WC, WC⟩ ?_
  intro m_3 s_3 σ_3 n_3 hs_3 hf_3 hn_3 hI_3
  obtain ⟨u, C, hm_3, h3_9, e3_0, e3_1, hu, hCl, hC⟩ := hI_3
  have h3_2 := KS hs_3 2
  have h3_3 := KS hs_3 3
  have h3_6 := KS hs_3 6
  have k3_0 := KE hf_3 (N + 1)
  have hlow := KD (N := N) (d := d) (σ := σ) hf_3
  have hcs := And.intro c2 True.intro
  clear c2
  by_cases hul : u = M
  · subst hul
    rw [← hC]
    clear hC
    refine Wk ?_
    exact RV (d) (deckBox l j)
  · have hu1 : u < M := by omega
    have hu1i : (u : Int) < (M : Int) := by omega
    have hq1 : (C.length + 1) * 120 ≤ 140737488355328 := by omega
    have hq3 : C.length * 120 ≤ 140737488355328 := by omega
    have hq2 : C.length ≤ 140737488355327 := by omega
    have hC2 : C ++ [rideC] = L ++ List.replicate (u + 1) rideC := by rw [hC, List.append_assoc, List.replicate_succ']
    have hm2 : C.map caAV ++ [caAV rideC] = (C ++ [rideC]).map caAV := by simp
    have hl2 : (C ++ [rideC]).length = L.length + (u + 1) := by simp; omega
    clear hC
    generalize C ++ [rideC] = C2 at *
    iterate 3 refine Wz ?_
    refine go_lessIn N [3] (.slice none (C2.map caAV)) (bt := 29) (c := .agg [.agg [.lit (.int .i64 rg), .lit (.int .i64 rn)], .lit (.int .i64 ep), .lit (.int .i64 se), .slice (some (n_3 + 5)) (C.map caAV ++ [.agg [.lit (.bool false), .agg [.lit (.int .i64 7), .lit (.int .u64 0), .lit (.int .i64 0), .lit (.int .i64 0), .lit (.string ByteArray.empty), .lit (.int .i64 0)], .lit (.int .i64 0), .nils, .nils]]), tagAV pf, .slice (some (N + 2)) (ds.map boAV)]) (by simp (disch := omega) [go_sem, *, -List.reduceReplicate]; try rfl) rfl (by
      rw [← hm2]
      exact AV.le_slice _ (ALe.snoc (AV.sub_agg (.cons (AV.le_refl _) (.cons (AV.le_refl _) (.cons (AV.le_refl _) (.cons AV.le_nils (.cons AV.le_nils .nil)))))))) rfl rfl ?_
    refine Wk ?_
    exact ⟨WS, WG, WN, _, (show M - (u + 1) < m_3 by omega), u + 1, C2, rfl, WF, WF, WF, WC, WC, WC⟩
end Go.Proofs.YtemmlldpmgfblaaGreatDoor

/- Bundles spoilt, and the waking of the laws of bundles. -/
namespace Go.Proofs.YtemmlldpmgfblaaGreatDoor
open Go.Ab
attribute [local irreducible] Go.Ab.tyAV Go.Ab.aw Go.Ab.aops Go.Ab.kReg Go.Ab.aThen Go.Ab.aBlk Go.Ab.acond Go.Ab.aguard Go.Ab.astep Go.Ab.AStepX Go.Ab.aRet

theorem sevB_in {n : Nat} : ∀ d ∈ sevB n, BoIn d := fun d hd => by
  obtain ⟨u, _, rfl⟩ := List.mem_map.1 hd
  exact ⟨by simp, by simp, fun p hp => by simp at hp⟩
theorem eigB_in {n : Nat} : ∀ d ∈ eigB n, BoIn d := fun d hd => by
  obtain ⟨u, _, rfl⟩ := List.mem_map.1 hd
  exact ⟨by simp only [List.length_append, List.length_replicate, List.length_singleton]; omega, by simp, fun p hp => by simp at hp⟩
theorem of_spoilt {b b' : Bu} {l : List Int} {i j : Nat} {x : Int} (hA : ∀ d k, ACall Tryz.prog 16 [buAV b, .ptr d [] 0, .lit (.int .i64 x)] k [(d, deckBox l i)] (buAV b') [(d, deckBox l j)]) (hj : Dk l j) (hb : BuIn b') :
    ∃ (b' : Bu) (j : Nat), BuIn b' ∧ Dk l j ∧ ∀ d k, ACall Tryz.prog 16 [buAV b, .ptr d [] 0, .lit (.int .i64 x)] k [(d, deckBox l i)] (buAV b') [(d, deckBox l j)] := ⟨b', j, hb, hj, hA⟩
theorem spoil16_ex (b : Bu) (hb : BuIn b) (hcl : b.cavs.length ≤ 10) (hdl : b.dis.length ≤ 10) (l : List Int) (i : Nat) (h : Dk l i) (x : Int) : ∃ (b' : Bu) (j : Nat), BuIn b' ∧ Dk l j ∧ ∀ d k, ACall Tryz.prog 16 [buAV b, .ptr d [] 0, .lit (.int .i64 x)] k [(d, deckBox l i)] (buAV b') [(d, deckBox l j)] := by
  rcases hn : nextD l i 10 with ⟨K, j⟩
  have hK : K < 10 := by have := nextD_lt l i 10 (by omega); rw [hn] at this; exact this
  have hj : Dk l j := by have := nextD_dk 10 h; rw [hn] at this; exact this
  have hpz : PrOk zeroPr := ⟨by decide, by decide, by decide⟩
  obtain ⟨h1, h2, h3, h4⟩ := hb
  match K, hK with
  | 0, _ => exact of_spoilt (fun d k => spoilt0 b hcl hdl l i j hn h x d k) hj ⟨h1, h2, h3, h4⟩
  | 1, _ => exact of_spoilt (fun d k => spoilt1 b hcl hdl l i j hn h x d k) hj ⟨h1, h2, h3, h4⟩
  | 2, _ => exact of_spoilt (fun d k => spoilt2 b hcl hdl l i j hn h x d k) hj ⟨h1, h2, h3, h4⟩
  | 3, _ => exact of_spoilt (fun d k => spoilt3 b hcl hdl l i j hn h x d k) hj ⟨h1, h2, h3, h4⟩
  | 4, _ => exact of_spoilt (fun d k => spoilt4 b hcl hdl l i j hn h x d k) hj ⟨by simp; omega, h2, fun c hc => by
      rcases List.mem_append.1 hc with hc | hc
      · exact h3 c hc
      · rw [List.mem_singleton.1 hc]; exact hpz, h4⟩
  | 5, _ =>
    obtain ⟨R, j2, r1, r2, r3, r4⟩ := Preds_ex l j hj 9 (by omega) true
    exact of_spoilt (fun d k => spoilt5 b hcl hdl l i j hn h x R j2 r4 d k) r3 ⟨h1, by simp; omega, h3, fun d hd => by
      rcases List.mem_append.1 hd with hd | hd
      · exact h4 d hd
      · rw [List.mem_singleton.1 hd]; exact ⟨by simp, by simp only; omega, fun p hp => (r2 p hp).1⟩⟩
  | 6, _ => exact of_spoilt (fun d k => spoilt6 b hcl hdl l i j hn h x d k) hj ⟨h1, by simp; omega, h3, fun d hd => by
      rcases List.mem_append.1 hd with hd | hd
      · exact h4 d hd
      · exact h4 d hd⟩
  | 7, _ => exact of_spoilt (fun d k => spoilt7 b hcl hdl l i j hn h x d k) hj ⟨h1, by simp [sevB]; omega, h3, fun d hd => by
      rcases List.mem_append.1 hd with hd | hd
      · exact h4 d hd
      · exact sevB_in d hd⟩
  | 8, _ => exact of_spoilt (fun d k => spoilt8 b hcl hdl l i j hn h x d k) hj ⟨h1, by simp only [List.length_append, eigB, List.length_map, List.length_range]; omega, h3, fun d hd => by
      rcases List.mem_append.1 hd with hd | hd
      · exact h4 d hd
      · exact eigB_in d hd⟩
  | 9, _ => exact of_spoilt (fun d k => spoilt9 b hcl hdl l i j hn h x d k) hj ⟨by simp only [List.length_append, List.length_replicate]; omega, h2, fun c hc => by
      rcases List.mem_append.1 hc with hc | hc
      · exact h3 c hc
      · rw [List.eq_of_mem_replicate hc]; exact ⟨by decide, by decide, by decide⟩, h4⟩
def tag9 : Tg := ⟨9 :: List.replicate 31 0, rfl⟩
def awB : Bu := ⟨⟨0, 1⟩, 1, 1, [], tag9, []⟩
theorem awB_in : BuIn awB := ⟨by decide, by decide, (fun c hc => by cases hc), (fun d hd => by cases hd)⟩
theorem leb_0 : leb 0 = [0] := by rw [leb]; rfl
theorem leb_1 : leb 1 = [1] := by rw [leb]; rfl
theorem awB_enc : encBu awB = [1, 0, 1, 1, 1, 0] ++ (9 :: List.replicate 31 0) ++ [0] := by
  unfold encBu headN awB
  simp only [List.flatMap_cons, List.flatMap_nil, List.length_nil]
  rw [show Int.toNat 0 = 0 from rfl, show Int.toNat 1 = 1 from rfl, leb_0, leb_1]
  rfl
theorem awB_S : encBS awB = ([1, 0, 1, 1, 1, 0, 9, 0, 0, 0, 0, 0, 0, 0, 0, 0, 0, 0, 0, 0, 0, 0, 0, 0, 0, 0, 0, 0, 0, 0, 0, 0, 0, 0, 0, 0, 0, 0, 0], 0) := by
  have hp : partsS awB = 0 := by decide
  have hc : chkS awB = 0 := by
    unfold chkS
    rw [if_neg (by rw [hp]; simp), if_neg (by rw [awB_enc]; decide)]
  unfold encBS
  rw [if_pos hc, awB_enc]
  rfl
theorem awake16_spec (d k : Nat) : ACall Tryz.prog 14 [] k [(d, bitsG)] (.lit (.bool true)) [] := by
  have c1 := EncodeB_spec awB awB_in d
  rw [awB_S] at c1
  have hB : buAV awB = .agg [.agg [.lit (.int .i64 0), .lit (.int .i64 1)], .lit (.int .i64 1), .lit (.int .i64 1), .slice none [], tagAV tag9, .slice none []] := rfl
  have hT : tagAV tag9 = .agg [.lit (.int .u8 9), .lit (.int .u8 0), .lit (.int .u8 0), .lit (.int .u8 0), .lit (.int .u8 0), .lit (.int .u8 0), .lit (.int .u8 0), .lit (.int .u8 0), .lit (.int .u8 0), .lit (.int .u8 0), .lit (.int .u8 0), .lit (.int .u8 0), .lit (.int .u8 0), .lit (.int .u8 0), .lit (.int .u8 0), .lit (.int .u8 0), .lit (.int .u8 0), .lit (.int .u8 0), .lit (.int .u8 0), .lit (.int .u8 0), .lit (.int .u8 0), .lit (.int .u8 0), .lit (.int .u8 0), .lit (.int .u8 0), .lit (.int .u8 0), .lit (.int .u8 0), .lit (.int .u8 0), .lit (.int .u8 0), .lit (.int .u8 0), .lit (.int .u8 0), .lit (.int .u8 0), .lit (.int .u8 0)] := rfl
  rw [hB, hT] at c1
  clear hB hT
  unfold encAV at c1
  refine Bd Tryz.func14 Tryz.ntmps14 fun σ N hp hpn hk hkn hfree => ?_
  obtain ⟨hd, hdn⟩ := HD0 hp hpn; clear hp hpn
  have hcs := And.intro c1 True.intro
  clear c1
  exact W0
end Go.Proofs.YtemmlldpmgfblaaGreatDoor

/- BundleCheck. -/
namespace Go.Proofs.YtemmlldpmgfblaaGreatDoor
open Go.Ab
attribute [local irreducible] Go.Ab.tyAV Go.Ab.aw Go.Ab.aops Go.Ab.kReg Go.Ab.aThen Go.Ab.aBlk Go.Ab.acond Go.Ab.aguard Go.Ab.astep Go.Ab.AStepX Go.Ab.aRet
attribute [local irreducible] shaG

/-- A bundle as it may come. -/
structure BuW (b : Bu) : Prop where
  cl : b.cavs.length ≤ 9223372036854775807
  dl : b.dis.length ≤ 9223372036854775807
  ok : ∀ c ∈ b.cavs, PrOk c.first ∧ c.ticket.length ≤ 9223372036854775807 ∧ c.box.length ≤ 9223372036854775807
  di : ∀ d ∈ b.dis, BoIn d
theorem u64_wf {a : Int} (h : (Lit.int .u64 a).wf = true) : 0 ≤ a ∧ a < 18446744073709551616 := by
  have hw : IntKind.u64.min ≤ a ∧ a ≤ IntKind.u64.max := by simpa [Lit.wf] using h
  have e1 : IntKind.u64.min = 0 := by decide
  have e2 : IntKind.u64.max = 18446744073709551615 := by decide
  omega
theorem pre_ty {m : Nat} {x : AV} (h : tyAV Tryz.prog (m + 2) 110 x) : ∃ p : Pr, PrOk p ∧ x = prAV p := by
  obtain ⟨xs, rfl, h1, h2⟩ := ty_struct Tryz.underlying110 h
  obtain ⟨a, b, c, d, e, f, rfl⟩ : ∃ a b c d e f, xs = [a, b, c, d, e, f] := by
    match xs, h1 with
    | [a, b, c, d, e, f], _ => exact ⟨a, b, c, d, e, f, rfl⟩
  obtain ⟨v1, _, rfl⟩ := ty_int it3 (h2 0 _ _ rfl rfl)
  obtain ⟨v2, w2, rfl⟩ := ty_int it108 (h2 1 _ _ rfl rfl)
  obtain ⟨v3, _, rfl⟩ := ty_int it3 (h2 2 _ _ rfl rfl)
  obtain ⟨v4, _, rfl⟩ := ty_int it3 (h2 3 _ _ rfl rfl)
  obtain ⟨v5, w5, rfl⟩ := ty_str st9 (h2 4 _ _ rfl rfl)
  obtain ⟨v6, _, rfl⟩ := ty_int it3 (h2 5 _ _ rfl rfl)
  exact ⟨⟨v1, v2, v3, v4, v5, v6⟩, ⟨(u64_wf w2).1, (u64_wf w2).2, w5⟩, rfl⟩
theorem bundle_of {x : AV} (h : tyAV Tryz.prog 8 29 x) : ∃ b : Bu, BuW b ∧ x = buAV b := by
  obtain ⟨xs, rfl, h1, h2⟩ := ty_struct Tryz.underlying29 h
  obtain ⟨a, b, c, d, e, f, rfl⟩ : ∃ a b c d e f, xs = [a, b, c, d, e, f] := by
    match xs, h1 with
    | [a, b, c, d, e, f], _ => exact ⟨a, b, c, d, e, f, rfl⟩
  have hca : ∀ y, tyAV Tryz.prog 6 120 y → ∃ c : Ca, (PrOk c.first ∧ c.ticket.length ≤ 9223372036854775807 ∧ c.box.length ≤ 9223372036854775807) ∧ y = caAV c := fun y hy => by
    obtain ⟨ys, rfl, h3, h4⟩ := ty_struct Tryz.underlying120 hy
    obtain ⟨a, b, c, d, e, rfl⟩ : ∃ a b c d e, ys = [a, b, c, d, e] := by
      match ys, h3 with
      | [a, b, c, d, e], _ => exact ⟨a, b, c, d, e, rfl⟩
    obtain ⟨v1, rfl⟩ := ty_bool bt4 (h4 0 _ _ rfl rfl)
    obtain ⟨v2, w2, rfl⟩ := pre_ty (h4 1 _ _ rfl rfl)
    obtain ⟨v3, _, rfl⟩ := ty_int it3 (h4 2 _ _ rfl rfl)
    obtain ⟨v4, w4, rfl⟩ := ty_bytes sl57 by5 (h4 3 _ _ rfl rfl)
    obtain ⟨v5, w5, rfl⟩ := ty_bytes sl57 by5 (h4 4 _ _ rfl rfl)
    exact ⟨⟨v1, v2, v3, v4, v5⟩, ⟨w2, w4, w5⟩, rfl⟩
  have hpr : ∀ y, tyAV Tryz.prog 4 110 y → ∃ p : Pr, PrOk p ∧ y = prAV p := fun y hy => pre_ty hy
  have hbo : ∀ y, tyAV Tryz.prog 6 70 y → ∃ d : Bo, BoIn d ∧ y = boAV d := fun y hy => by
    obtain ⟨ys, rfl, h3, h4⟩ := ty_struct Tryz.underlying70 hy
    obtain ⟨a, b, c, rfl⟩ : ∃ a b c, ys = [a, b, c] := by
      match ys, h3 with
      | [a, b, c], _ => exact ⟨a, b, c, rfl⟩
    obtain ⟨v1, w1, rfl⟩ := ty_bytes sl57 by5 (h4 0 _ _ rfl rfl)
    obtain ⟨v2, ⟨w2, w2'⟩, rfl⟩ := ty_list sl64 hpr (h4 1 _ _ rfl rfl)
    obtain ⟨v3, _, rfl⟩ := ty_tag ar26 by5 (h4 2 _ _ rfl rfl)
    exact ⟨⟨v1, v2, v3⟩, ⟨w1, w2, w2'⟩, rfl⟩
  have hrq : tyAV Tryz.prog 7 23 a → ∃ r : Rq, a = rqAV r := fun hy => by
    obtain ⟨ys, rfl, h3, h4⟩ := ty_struct Tryz.underlying23 hy
    obtain ⟨a, b, rfl⟩ : ∃ a b, ys = [a, b] := by
      match ys, h3 with
      | [a, b], _ => exact ⟨a, b, rfl⟩
    obtain ⟨v1, _, rfl⟩ := ty_int it3 (h4 0 _ _ rfl rfl)
    obtain ⟨v2, _, rfl⟩ := ty_int it3 (h4 1 _ _ rfl rfl)
    exact ⟨⟨v1, v2⟩, rfl⟩
  obtain ⟨v1, rfl⟩ := hrq (h2 0 _ _ rfl rfl)
  obtain ⟨v2, _, rfl⟩ := ty_int it3 (h2 1 _ _ rfl rfl)
  obtain ⟨v3, _, rfl⟩ := ty_int it3 (h2 2 _ _ rfl rfl)
  obtain ⟨v4, ⟨w4, w4'⟩, rfl⟩ := ty_list sl24 hca (h2 3 _ _ rfl rfl)
  obtain ⟨v5, _, rfl⟩ := ty_tag ar26 by5 (h2 4 _ _ rfl rfl)
  obtain ⟨v6, ⟨w6, w6'⟩, rfl⟩ := ty_list sl27 hbo (h2 5 _ _ rfl rfl)
  exact ⟨⟨v1, v2, v3, v4, v5, v6⟩, ⟨w4, w6, w4', w6'⟩, rfl⟩
theorem BuW.fewIn {b : Bu} (h : BuW b) (hf : (decide (b.cavs.length ≤ 80) && decide (b.dis.length ≤ 20)) = true) : BuIn b := by
  rw [Bool.and_eq_true, decide_eq_true_eq, decide_eq_true_eq] at hf
  exact ⟨by omega, by omega, fun c hc => (h.ok c hc).1, h.di⟩
section
variable [W : W32]
set_option maxHeartbeats 8000000 in
theorem BundleCheck_core (b : Bu) (hb : BuW b) (xs ys : List Int) (hx : xs.length ≤ 9223372036854775807) (hy : ys.length ≤ 9223372036854775807) (x : Int) (d k : Nat) :
    ACall Tryz.prog 3 [buAV b, .slice none (xs.map intAV), .slice none (ys.map intAV), .lit (.int .i64 x)] k [(d, bitsG)] (.lit (.bool true)) [] := by
  have c1 := few_spec b hb.cl hb.dl
  have c9 := awake16_spec d
  cases hf : (decide (b.cavs.length ≤ 80) && decide (b.dis.length ≤ 20)) with
  | false =>
    rw [hf] at c1
    clear hb hf
    refine Bd Tryz.func3 Tryz.ntmps3 fun σ N hp hpn hk hkn hfree => ?_
    obtain ⟨hd, hdn⟩ := HD0 hp hpn; clear hp hpn
    have hcs := And.intro c1 (And.intro c9 True.intro)
    clear c1 c9
    exact W0
  | true =>
    rw [hf] at c1
    have hB := hb.fewIn hf
    obtain ⟨s, j, hs, hj, c2⟩ := made_spec xs hx
    obtain ⟨_, _, h3, _, _⟩ := bunS_ok hs
    have hq1 : (bunS s).2.cavs.length ≤ 10 := by
      obtain ⟨⟨se, hG, _⟩, _⟩ := hs
      exact Nat.le_trans hG.cl (by omega)
    have hq2 : (bunS s).2.dis.length ≤ 10 := by
      obtain ⟨⟨se, hG, _⟩, _⟩ := hs
      have hl : (bunS s).2.dis.length = s.grants.length := by
        unfold bunS presS; simp only; rw [bindL_len]; simp
      rw [hl]; exact Nat.le_trans hG.gl (by omega)
    have c3 := New_spec ys
    have hy0 : Dk ys 0 := ⟨hy, Nat.zero_le _⟩
    obtain ⟨b3, j3, h5, _, c4⟩ := spoil16_ex (bunS s).2 h3 hq1 hq2 ys 0 hy0 x
    have e1 := Check_spec (bunS s).2 h3 d
    have e2 := refChk_spec (bunS s).2 h3
    have e3 := Check_spec b hB d
    have e4 := refChk_spec b hB
    have e5 := Check_spec b3 h5 d
    have e6 := refChk_spec b3 h5
    clear hb hf hB hs h3 h5 hq1 hq2 hy0
    generalize chkS (bunS s).2 = v1 at *
    generalize chkS b = v2 at *
    generalize chkS b3 = v3 at *
    generalize (bunS s).2 = b1 at *
    generalize ({ s with alg := (bunS s).1 } : Sc) = s1 at *
    refine Bd Tryz.func3 Tryz.ntmps3 fun σ N hp hpn hk hkn hfree => ?_
    obtain ⟨hd, hdn⟩ := HD0 hp hpn; clear hp hpn
    have hcs := And.intro c1 (And.intro c2 (And.intro c3 (And.intro (c4 (N + 16 + 2)) (And.intro e1 (And.intro e2 (And.intro e3 (And.intro e4 (And.intro e5 (And.intro e6 (And.intro c9 True.intro))))))))))
    clear c1 c2 c3 c4 e1 e2 e3 e4 e5 e6 c9
    exact W0
end
theorem BundleCheck_spec (b : Bu) (hb : BuW b) (xs : List Int) (_ : ∀ n ∈ xs, (Lit.int .i64 n).wf = true) (hx : xs.length ≤ 9223372036854775807) (ys : List Int) (_ : ∀ n ∈ ys, (Lit.int .i64 n).wf = true) (hy : ys.length ≤ 9223372036854775807) (x : Int) (d k : Nat) :
    ACall Tryz.prog 3 [buAV b, .slice none (xs.map intAV), .slice none (ys.map intAV), .lit (.int .i64 x)] k [(d, bitsG)] (.lit (.bool true)) [] :=
  @BundleCheck_core w32 b hb xs ys hx hy x d k
end Go.Proofs.YtemmlldpmgfblaaGreatDoor
