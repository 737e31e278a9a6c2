/- Texts U19, U20, U21, U25, U22, P1, E1, E2, E20, U26, U23, joined. -/
import Derived.Test.YtemmlldpmgfblaaGreatDoorM10

namespace Go.Proofs.YtemmlldpmgfblaaGreatDoor
open Go.Ab
attribute [local irreducible] Go.Ab.tyAV Go.Ab.aw Go.Ab.aops Go.Ab.kReg Go.Ab.aThen Go.Ab.aBlk Go.Ab.acond Go.Ab.aguard Go.Ab.astep Go.Ab.AStepX Go.Ab.aRet
def pRun (l : List Int) (r : Bool) : Nat → Nat → List Pr → (List Pr × Nat) → Prop
 | 0, j, acc, R => R = (acc, j)
 | f + 1, j, acc, R => ∃ p j1, PRD l j r p j1 ∧ pRun l r f j1 (acc ++ [p]) R
theorem pRun_ex {l : List Int} {r : Bool} : ∀ (f j : Nat) (acc : List Pr), Dk l j → (∀ p ∈ acc, PrOk p ∧ predB p = true) → ∃ R, pRun l r f j acc R ∧ Dk l R.2 ∧ (∀ p ∈ R.1, PrOk p ∧ predB p = true) ∧ R.1.length = acc.length + f
 | 0, j, acc, h, ha => ⟨_, rfl, h, ha, rfl⟩
 | f + 1, j, acc, h, ha => by
  obtain ⟨p, j1, hp⟩ := PRD_ex h r
  obtain ⟨R, hR, h1, h2, h3⟩ := pRun_ex (r := r) f j1 (acc ++ [p]) hp.2.2.2.1 (fun q hq => by
   rcases List.mem_append.1 hq with hq | hq
   ·exact ha q hq
   ·rw [List.mem_singleton.1 hq]; exact ⟨hp.2.1, hp.1⟩)
  exact ⟨R, ⟨p, j1, hp, hR⟩, h1, h2, by rw [h3]; simp; omega⟩
set_option maxHeartbeats 2000000 in
theorem Preds_core (l : List Int) (i : Nat) (h : Dk l i) (n : Nat) (hn : n ≤ 1000) (r : Bool) (R : List Pr) (j : Nat) (hR : pRun l r (nextD l i (n + 1)).1 (nextD l i (n + 1)).2 [] (R, j)) (d k : Nat) :
  ACall Tryz.prog 55 [.ptr d [] 0, .lit (.int .i64 n), .lit (.bool r)] k [(d, deckBox l i)] (.slice none (R.map prAV)) [(d, deckBox l j)] := by
 have c1 := Next_spec l i (n + 1) h (by omega) (by omega)
 have h1 := nextD_dk (n + 1) h
 have h2 := nextD_lt l i (n + 1) (by omega)
 clear h
 generalize nextD l i (n + 1) = X at *
 obtain ⟨f0, j0⟩ := X
 simp only at *
 rw [show ((n + 1 : Nat) : Int) = (n : Int) + 1 by omega] at c1
 refine Bd Tryz.func55 Tryz.ntmps55 fun σ N hp hpn hk hkn hfree => ?_
 obtain ⟨hd, hdn⟩ := HD0 hp hpn; clear hp hpn
 have hcs := And.intro (c1 d) True.intro
 clear c1
 refine Wk ?_
 clear hcs
 refine ALoop.nilrow 7 110 6 (by simp (disch := omega) [go_sem, *, -List.reduceReplicate]) ?_
 refine go_loopB (N) mixed (by kernel_rfl) [7, 8, 13, 14, 15, 16, 17, 18, 19, 20, 21, 22] [d] (fun m_ s_ σ_ n_ => ∃ (f : Nat) (q : Nat) (acc : List Pr) (j' : Nat), m_ = f ∧ s_ 8 = .lit (.int .i64 f) ∧ s_ 7 = .slice (some q) (acc.map prAV) ∧ σ_ (d) = deckBox l j' ∧ σ_ (q) = .row 110 6 acc.length ∧ (N ≤ q) ∧ (q < n_) ∧ (acc.length + f ≤ 1000) ∧ (Dk l j') ∧ (pRun l r f j' acc (R, j))) ⟨_, f0, _, [], j0, rfl, WF, WF, WF, WF, WC, WC, WC, WC, WC⟩ ?_
 intro m_1 s_1 σ_1 n_1 hs_1 hf_1 hn_1 hI_1
 obtain ⟨f, q, acc, j', hm_1, h1_8, h1_7, e1_0, e1_1, hq, hqn, hal, hj, hrun⟩ := hI_1
 have h1_0 := KS hs_1 0
 have h1_2 := KS hs_1 2
 have h1_6 := KS hs_1 6
 have hlow := KD (N := N) (d := d) (σ := σ) hf_1
 clear hR
 cases f with
 | zero =>
  have hrun : (R, j) = (acc, j') := hrun
  simp only [Prod.mk.injEq] at hrun
  obtain ⟨rfl, rfl⟩ := hrun
  clear hj
  refine Wk ?_
  exact RV (d) (deckBox l j)
 | succ f =>
  obtain ⟨p, j1, ⟨p1, p2, p3, p4, p5⟩, hrun⟩ := hrun
  have hcs := And.intro (p5 d) True.intro
  clear p5 p1 p2 p3 hj
  refine Wk ?_
  exact ⟨WS, WG, WN, _, (show (f) < m_1 by omega), f, q, acc ++ [p], j1, rfl, WF, WF, WF, WF, WC, WC, WC, WC, WC⟩
theorem Preds_ex (l : List Int) (i : Nat) (h : Dk l i) (n : Nat) (hn : n ≤ 1000) (r : Bool) : ∃ (R : List Pr) (j : Nat), R.length ≤ n ∧ (∀ p ∈ R, PrOk p ∧ predB p = true) ∧ Dk l j ∧ ∀ d k, ACall Tryz.prog 55 [.ptr d [] 0, .lit (.int .i64 n), .lit (.bool r)] k [(d, deckBox l i)] (.slice none (R.map prAV)) [(d, deckBox l j)] := by
 obtain ⟨⟨R, j⟩, hR, h1, h2, h3⟩ := pRun_ex (r := r) (nextD l i (n + 1)).1 (nextD l i (n + 1)).2 [] (nextD_dk _ h) (fun p hp => by cases hp)
 have := nextD_lt l i (n + 1) (by omega)
 exact ⟨R, j, by simp only [List.length_nil] at h3; omega, h2, h1, fun d k => Preds_core l i h n hn r R j hR d k⟩

def sevB (n : Nat) : List Bo := (List.range n).map fun u => ⟨[UInt8.ofNat u, 2], [], zeroTag⟩
theorem sevB_succ (n : Nat) : sevB n ++ [⟨[UInt8.ofNat n, 2], [], zeroTag⟩] = sevB (n + 1) := by unfold sevB; rw [List.range_succ, List.map_append]; rfl
def eigB (n : Nat) : List Bo := (List.range n).map fun u => ⟨List.replicate 990 0 ++ [UInt8.ofNat u], [], zeroTag⟩
theorem eigB_succ (n : Nat) : eigB n ++ [⟨List.replicate 990 0 ++ [UInt8.ofNat n], [], zeroTag⟩] = eigB (n + 1) := by unfold eigB; rw [List.range_succ, List.map_append]; rfl
theorem wrap8 {x : Int} (h : 0 ≤ x ∧ x < 256) : IntKind.u8.wrap x = x := by
 rw [IntKind.wrap_u8]; omega
theorem byte_ofNat {u : Nat} (h : u < 256) : byteAV (UInt8.ofNat u) = .lit (.int .u8 (u : Int)) := by
 unfold byteAV
 rw [UInt8.toNat_ofNat', Nat.mod_eq_of_lt h]
def rideC : Ca := ⟨false, ⟨7, 0, 0, 0, [], 0⟩, 0, [], []⟩
set_option maxHeartbeats 4000000 in
theorem spoilt0 (b : Bu) (hcl : b.cavs.length ≤ 10) (hdl : b.dis.length ≤ 10) (l : List Int) (i j : Nat) (hn : nextD l i 10 = (0, j)) (h : Dk l i) (x : Int) (d k : Nat) :
  ACall Tryz.prog 16 [buAV b, .ptr d [] 0, .lit (.int .i64 x)] k [(d, deckBox l i)] (buAV ⟨⟨x, b.req.nonce⟩, b.epoch, b.serial, b.cavs, b.proof, b.dis⟩) [(d, deckBox l j)] := by
 have c1 := Next_spec l i 10 h (by omega) (by omega)
 rw [hn] at c1
 clear hn h
 obtain ⟨⟨rg, rn⟩, ep, se, L, pf, ds⟩ := b
 simp only at hcl hdl ⊢
 have hb24 : (ds.length + 20) * 80 ≤ 140737488355328 := by omega
 have hb25 : ds.length * 80 ≤ 140737488355328 := by omega
 have hb26 : ds.length ≤ 140737488355328 := by omega
 have hb27 : (L.length + 1) * 120 ≤ 140737488355328 := by omega
 have hb28 : L.length * 120 ≤ 140737488355328 := by omega
 have hb29 : L.length ≤ 140737488355327 := by omega
 unfold buAV rqAV
 simp only
 refine Bd Tryz.func16 Tryz.ntmps16 fun σ N hp hpn hk hkn hfree => ?_
 obtain ⟨hd, hdn⟩ := HD0 hp hpn; clear hp hpn
 have hcs := And.intro (c1 d) True.intro
 clear c1
 refine Wk ?_
 exact RV (d) (deckBox l j)
set_option maxHeartbeats 4000000 in
theorem spoilt1 (b : Bu) (hcl : b.cavs.length ≤ 10) (hdl : b.dis.length ≤ 10) (l : List Int) (i j : Nat) (hn : nextD l i 10 = (1, j)) (h : Dk l i) (x : Int) (d k : Nat) :
  ACall Tryz.prog 16 [buAV b, .ptr d [] 0, .lit (.int .i64 x)] k [(d, deckBox l i)] (buAV ⟨⟨b.req.gate, x⟩, b.epoch, b.serial, b.cavs, b.proof, b.dis⟩) [(d, deckBox l j)] := by
 have c1 := Next_spec l i 10 h (by omega) (by omega)
 rw [hn] at c1
 clear hn h
 obtain ⟨⟨rg, rn⟩, ep, se, L, pf, ds⟩ := b
 simp only at hcl hdl ⊢
 have hb24 : (ds.length + 20) * 80 ≤ 140737488355328 := by omega
 have hb25 : ds.length * 80 ≤ 140737488355328 := by omega
 have hb26 : ds.length ≤ 140737488355328 := by omega
 have hb27 : (L.length + 1) * 120 ≤ 140737488355328 := by omega
 have hb28 : L.length * 120 ≤ 140737488355328 := by omega
 have hb29 : L.length ≤ 140737488355327 := by omega
 unfold buAV rqAV
 simp only
 refine Bd Tryz.func16 Tryz.ntmps16 fun σ N hp hpn hk hkn hfree => ?_
 obtain ⟨hd, hdn⟩ := HD0 hp hpn; clear hp hpn
 have hcs := And.intro (c1 d) True.intro
 clear c1
 refine Wk ?_
 exact RV (d) (deckBox l j)
set_option maxHeartbeats 4000000 in
theorem spoilt2 (b : Bu) (hcl : b.cavs.length ≤ 10) (hdl : b.dis.length ≤ 10) (l : List Int) (i j : Nat) (hn : nextD l i 10 = (2, j)) (h : Dk l i) (x : Int) (d k : Nat) :
  ACall Tryz.prog 16 [buAV b, .ptr d [] 0, .lit (.int .i64 x)] k [(d, deckBox l i)] (buAV ⟨b.req, x, b.serial, b.cavs, b.proof, b.dis⟩) [(d, deckBox l j)] := by
 have c1 := Next_spec l i 10 h (by omega) (by omega)
 rw [hn] at c1
 clear hn h
 obtain ⟨⟨rg, rn⟩, ep, se, L, pf, ds⟩ := b
 simp only at hcl hdl ⊢
 have hb24 : (ds.length + 20) * 80 ≤ 140737488355328 := by omega
 have hb25 : ds.length * 80 ≤ 140737488355328 := by omega
 have hb26 : ds.length ≤ 140737488355328 := by omega
 have hb27 : (L.length + 1) * 120 ≤ 140737488355328 := by omega
 have hb28 : L.length * 120 ≤ 140737488355328 := by omega
 have hb29 : L.length ≤ 140737488355327 := by omega
 unfold buAV rqAV
 simp only
 refine Bd Tryz.func16 Tryz.ntmps16 fun σ N hp hpn hk hkn hfree => ?_
 obtain ⟨hd, hdn⟩ := HD0 hp hpn; clear hp hpn
 have hcs := And.intro (c1 d) True.intro
 clear c1
 refine Wk ?_
 exact RV (d) (deckBox l j)
set_option maxHeartbeats 4000000 in
theorem spoilt3 (b : Bu) (hcl : b.cavs.length ≤ 10) (hdl : b.dis.length ≤ 10) (l : List Int) (i j : Nat) (hn : nextD l i 10 = (3, j)) (h : Dk l i) (x : Int) (d k : Nat) :
  ACall Tryz.prog 16 [buAV b, .ptr d [] 0, .lit (.int .i64 x)] k [(d, deckBox l i)] (buAV ⟨b.req, b.epoch, x, b.cavs, b.proof, b.dis⟩) [(d, deckBox l j)] := by
 have c1 := Next_spec l i 10 h (by omega) (by omega)
 rw [hn] at c1
 clear hn h
 obtain ⟨⟨rg, rn⟩, ep, se, L, pf, ds⟩ := b
 simp only at hcl hdl ⊢
 have hb24 : (ds.length + 20) * 80 ≤ 140737488355328 := by omega
 have hb25 : ds.length * 80 ≤ 140737488355328 := by omega
 have hb26 : ds.length ≤ 140737488355328 := by omega
 have hb27 : (L.length + 1) * 120 ≤ 140737488355328 := by omega
 have hb28 : L.length * 120 ≤ 140737488355328 := by omega
 have hb29 : L.length ≤ 140737488355327 := by omega
 unfold buAV rqAV
 simp only
 refine Bd Tryz.func16 Tryz.ntmps16 fun σ N hp hpn hk hkn hfree => ?_
 obtain ⟨hd, hdn⟩ := HD0 hp hpn; clear hp hpn
 have hcs := And.intro (c1 d) True.intro
 clear c1
 refine Wk ?_
 exact RV (d) (deckBox l j)
set_option maxHeartbeats 4000000 in
theorem spoilt4 (b : Bu) (hcl : b.cavs.length ≤ 10) (hdl : b.dis.length ≤ 10) (l : List Int) (i j : Nat) (hn : nextD l i 10 = (4, j)) (h : Dk l i) (x : Int) (d k : Nat) :
  ACall Tryz.prog 16 [buAV b, .ptr d [] 0, .lit (.int .i64 x)] k [(d, deckBox l i)] (buAV ⟨b.req, b.epoch, b.serial, b.cavs ++ [⟨true, zeroPr, x % 10, [], []⟩], b.proof, b.dis⟩) [(d, deckBox l j)] := by
 have c1 := Next_spec l i 10 h (by omega) (by omega)
 rw [hn] at c1
 clear hn h
 obtain ⟨⟨rg, rn⟩, ep, se, L, pf, ds⟩ := b
 simp only at hcl hdl ⊢
 have hb24 : (ds.length + 20) * 80 ≤ 140737488355328 := by omega
 have hb25 : ds.length * 80 ≤ 140737488355328 := by omega
 have hb26 : ds.length ≤ 140737488355328 := by omega
 have hb27 : (L.length + 1) * 120 ≤ 140737488355328 := by omega
 have hb28 : L.length * 120 ≤ 140737488355328 := by omega
 have hb29 : L.length ≤ 140737488355327 := by omega
 have c2 := Within_spec x 10 (by omega) (by omega)
 unfold buAV rqAV
 simp only
 refine Bd Tryz.func16 Tryz.ntmps16 fun σ N hp hpn hk hkn hfree => ?_
 obtain ⟨hd, hdn⟩ := HD0 hp hpn; clear hp hpn
 have hcs := And.intro (c1 d) (And.intro c2 True.intro)
 clear c1 c2
 iterate 10 refine Wz ?_
 clear hcs
 refine go_lessIn N [3] (.slice (some (N + 20)) ((L ++ [(⟨true, zeroPr, x % 10, [], []⟩ : Ca)]).map caAV)) (bt := 29) (c := .agg [.agg [.lit (.int .i64 rg), .lit (.int .i64 rn)], .lit (.int .i64 ep), .lit (.int .i64 se), .slice (some (N + 20)) (L.map caAV ++ [.agg [.lit (.bool true), prAV zeroPr, .lit (.int .i64 (x % 10)), .nils, .nils]]), tagAV pf, .slice (some (N + 2)) (ds.map boAV)]) (by simp (disch := omega) [go_sem, *, -List.reduceReplicate]; try rfl) rfl (by
  rw [List.map_append]
  exact AV.le_sliceS _ (ALe.snoc (AV.sub_agg (.cons (AV.le_refl _) (.cons (AV.le_refl _) (.cons (AV.le_refl _) (.cons AV.le_nils (.cons AV.le_nils .nil)))))))) rfl rfl ?_
 refine Wk ?_
 exact RV (d) (deckBox l j)
set_option maxHeartbeats 4000000 in
theorem spoilt5 (b : Bu) (hcl : b.cavs.length ≤ 10) (hdl : b.dis.length ≤ 10) (l : List Int) (i j : Nat) (hn : nextD l i 10 = (5, j)) (h : Dk l i) (x : Int) (R : List Pr) (j2 : Nat) (c2 : ∀ d k, ACall Tryz.prog 55 [.ptr d [] 0, .lit (.int .i64 (9 : Nat)), .lit (.bool true)] k [(d, deckBox l j)] (.slice none (R.map prAV)) [(d, deckBox l j2)]) (d k : Nat) :
  ACall Tryz.prog 16 [buAV b, .ptr d [] 0, .lit (.int .i64 x)] k [(d, deckBox l i)] (buAV ⟨b.req, b.epoch, b.serial, b.cavs, b.proof, b.dis ++ [⟨[1], R, zeroTag⟩]⟩) [(d, deckBox l j2)] := by
 have c1 := Next_spec l i 10 h (by omega) (by omega)
 rw [hn] at c1
 clear hn h
 obtain ⟨⟨rg, rn⟩, ep, se, L, pf, ds⟩ := b
 simp only at hcl hdl ⊢
 have hb24 : (ds.length + 20) * 80 ≤ 140737488355328 := by omega
 have hb25 : ds.length * 80 ≤ 140737488355328 := by omega
 have hb26 : ds.length ≤ 140737488355328 := by omega
 have hb27 : (L.length + 1) * 120 ≤ 140737488355328 := by omega
 have hb28 : L.length * 120 ≤ 140737488355328 := by omega
 have hb29 : L.length ≤ 140737488355327 := by omega
 clear hcl
 unfold buAV rqAV
 simp only
 refine Bd Tryz.func16 Tryz.ntmps16 fun σ N hp hpn hk hkn hfree => ?_
 obtain ⟨hd, hdn⟩ := HD0 hp hpn; clear hp hpn
 have hcs := And.intro (c1 d) (And.intro (c2 d) True.intro)
 clear c1 c2
 iterate 11 refine Wz ?_
 clear hcs
 refine go_lessIn N [5] (.slice (some (N + 2)) ((ds ++ [(⟨[1], R, zeroTag⟩ : Bo)]).map boAV)) (bt := 29) (c := .agg [.agg [.lit (.int .i64 rg), .lit (.int .i64 rn)], .lit (.int .i64 ep), .lit (.int .i64 se), .slice none (L.map caAV), tagAV pf, .slice (some (N + 2)) (ds.map boAV ++ [.agg [.slice (some (N + 22 + 2)) [.lit (.int .u8 1)], .slice none (R.map prAV), tagAV zeroTag]])]) (by simp (disch := omega) [go_sem, *, -List.reduceReplicate]; try rfl) rfl (by
  rw [List.map_append]
  exact AV.le_sliceS _ (ALe.snoc (AV.sub_agg (.cons (AV.le_own _ _) (.cons (AV.le_refl _) (.cons (AV.le_refl _) .nil)))))) rfl rfl ?_
 refine Wk ?_
 exact RV (d) (deckBox l j2)
set_option maxHeartbeats 4000000 in
theorem spoilt6 (b : Bu) (hcl : b.cavs.length ≤ 10) (hdl : b.dis.length ≤ 10) (l : List Int) (i j : Nat) (hn : nextD l i 10 = (6, j)) (h : Dk l i) (x : Int) (d k : Nat) :
  ACall Tryz.prog 16 [buAV b, .ptr d [] 0, .lit (.int .i64 x)] k [(d, deckBox l i)] (buAV ⟨b.req, b.epoch, b.serial, b.cavs, b.proof, b.dis ++ b.dis⟩) [(d, deckBox l j)] := by
 have c1 := Next_spec l i 10 h (by omega) (by omega)
 rw [hn] at c1
 clear hn h
 obtain ⟨⟨rg, rn⟩, ep, se, L, pf, ds⟩ := b
 simp only at hcl hdl ⊢
 have hb24 : (ds.length + 20) * 80 ≤ 140737488355328 := by omega
 have hb25 : ds.length * 80 ≤ 140737488355328 := by omega
 have hb26 : ds.length ≤ 140737488355328 := by omega
 have hb27 : (L.length + 1) * 120 ≤ 140737488355328 := by omega
 have hb28 : L.length * 120 ≤ 140737488355328 := by omega
 have hb29 : L.length ≤ 140737488355327 := by omega
 unfold buAV rqAV
 simp only
 refine Bd Tryz.func16 Tryz.ntmps16 fun σ N hp hpn hk hkn hfree => ?_
 obtain ⟨hd, hdn⟩ := HD0 hp hpn; clear hp hpn
 have hcs := And.intro (c1 d) True.intro
 clear c1
 have hmm : ds.map boAV ++ ds.map boAV = (ds ++ ds).map boAV := by rw [List.map_append]
 generalize ds ++ ds = D2 at *
 refine Wk ?_
 exact RV (d) (deckBox l j)
set_option maxHeartbeats 4000000 in
theorem spoilt7 (b : Bu) (hcl : b.cavs.length ≤ 10) (hdl : b.dis.length ≤ 10) (l : List Int) (i j : Nat) (hn : nextD l i 10 = (7, j)) (h : Dk l i) (x : Int) (d k : Nat) :
  ACall Tryz.prog 16 [buAV b, .ptr d [] 0, .lit (.int .i64 x)] k [(d, deckBox l i)] (buAV ⟨b.req, b.epoch, b.serial, b.cavs, b.proof, b.dis ++ sevB 9⟩) [(d, deckBox l j)] := by
 have c1 := Next_spec l i 10 h (by omega) (by omega)
 rw [hn] at c1
 clear hn h
 obtain ⟨⟨rg, rn⟩, ep, se, L, pf, ds⟩ := b
 simp only at hcl hdl ⊢
 have hb24 : (ds.length + 20) * 80 ≤ 140737488355328 := by omega
 have hb25 : ds.length * 80 ≤ 140737488355328 := by omega
 have hb26 : ds.length ≤ 140737488355328 := by omega
 have hb27 : (L.length + 1) * 120 ≤ 140737488355328 := by omega
 have hb28 : L.length * 120 ≤ 140737488355328 := by omega
 have hb29 : L.length ≤ 140737488355327 := by omega
 have hs0 : sevB 0 = [] := rfl
 unfold buAV rqAV
 simp only
 refine Bd Tryz.func16 Tryz.ntmps16 fun σ N hp hpn hk hkn hfree => ?_
 obtain ⟨hd, hdn⟩ := HD0 hp hpn; clear hp hpn
 have hcs := And.intro (c1 d) True.intro
 clear c1
 iterate 13 refine Wz ?_
 clear hcs
 refine go_loopF mixed (by kernel_rfl) [7, 68, 69, 70, 71, 72, 73, 74, 75, 76, 77, 78, 79, 80] [N, N+2, d] (fun m_ s_ σ_ n_ => ∃ (u : Nat) (D : List Bo), m_ = 9 - u ∧ s_ 7 = .lit (.int .i64 u) ∧ σ_ (N) = .box 29 (.agg [.agg [.lit (.int .i64 rg), .lit (.int .i64 rn)], .lit (.int .i64 ep), .lit (.int .i64 se), .slice none (L.map caAV), tagAV pf, .slice (some (N + 2)) (D.map boAV)]) ∧ σ_ (N+2) = .row 70 34 D.length ∧ σ_ (d) = deckBox l j ∧ (u ≤ 9) ∧ (D.length = ds.length + u) ∧ (D = ds ++ sevB u)) ⟨_, 0, ds, rfl, WF, WF, WF, WF, WC, WC, WC⟩ ?_
 intro m_1 s_1 σ_1 n_1 hs_1 hf_1 hn_1 hI_1
 obtain ⟨u, D, hm_1, h1_7, e1_0, e1_1, e1_2, hu, hDl, hD⟩ := hI_1
 have h1_2 := KS hs_1 2
 have h1_3 := KS hs_1 3
 have h1_6 := KS hs_1 6
 have h1_16 := KS hs_1 16
 have k1_0 := KE hf_1 (N + 1)
 have hlow := KD (N := N) (d := d) (σ := σ) hf_1
 by_cases hul : u = 9
 ·subst hul
  rw [← hD]
  clear hD
  refine Wk ?_
  exact RV (d) (deckBox l j)
 ·have hu1 : u < 9 := by omega
  have hu1i : (u : Int) < 9 := by omega
  have hq1 : (D.length + 1) * 80 ≤ 140737488355328 := by omega
  have hq2 : D.length ≤ 140737488355327 := by omega
  obtain ⟨e, he⟩ : ∃ e : Bo, e = ⟨[UInt8.ofNat u, 2], [], zeroTag⟩ := ⟨_, rfl⟩
  have hD2 : D ++ [e] = ds ++ sevB (u + 1) := by rw [hD, List.append_assoc, he, sevB_succ]
  have hwr : IntKind.u8.wrap (u : Int) = (u : Int) := wrap8 (by omega)
  have hel : ∀ q, AV.le (.agg [.slice (some q) [.lit (.int .u8 (u : Int)), .lit (.int .u8 2)], .nils, tagAV zeroTag]) (boAV e) := fun q => by
   rw [he]
   exact AV.sub_agg (.cons (AV.le_slices (by rw [List.map_cons, byte_ofNat (by omega)]; rfl)) (.cons AV.le_nils (.cons (AV.le_refl _) .nil)))
  have hm2 : D.map boAV ++ [boAV e] = (D ++ [e]).map boAV := by simp
  have hl2 : D.length + 1 = (D ++ [e]).length := by simp
  clear hD he
  have hs9 : (sevB (u + 1)).length = u + 1 := by unfold sevB; simp
  have hl4 : ds.length + u + 1 = ds.length + (u + 1) := by omega
  generalize D ++ [e] = D2 at *
  iterate 3 refine Wz ?_
  refine go_lessIn N [5] (.slice (some (N + 2)) (D2.map boAV)) (bt := 29) (c := .agg [.agg [.lit (.int .i64 rg), .lit (.int .i64 rn)], .lit (.int .i64 ep), .lit (.int .i64 se), .slice none (L.map caAV), tagAV pf, .slice (some (N + 2)) (D.map boAV ++ [.agg [.slice (some (n_1 + 2 + 4)) [.lit (.int .u8 (u : Int)), .lit (.int .u8 2)], .nils, tagAV zeroTag]])]) (by simp (disch := omega) [go_sem, *, -List.reduceReplicate]; try rfl) rfl (by
   rw [← hm2]
   exact AV.le_sliceS _ (ALe.snoc (hel _))) rfl rfl ?_
  refine Wk ?_
  exact ⟨WS, WG, WN, _, (show 9 - (u + 1) < m_1 by omega), u + 1, D2, rfl, WF, WF, WF, WF, WC, WC, WC⟩
set_option maxHeartbeats 4000000 in
theorem spoilt8 (b : Bu) (hcl : b.cavs.length ≤ 10) (hdl : b.dis.length ≤ 10) (l : List Int) (i j : Nat) (hn : nextD l i 10 = (8, j)) (h : Dk l i) (x : Int) (d k : Nat) :
  ACall Tryz.prog 16 [buAV b, .ptr d [] 0, .lit (.int .i64 x)] k [(d, deckBox l i)] (buAV ⟨b.req, b.epoch, b.serial, b.cavs, b.proof, b.dis ++ eigB (4 + x % 3).toNat⟩) [(d, deckBox l j)] := by
 have c1 := Next_spec l i 10 h (by omega) (by omega)
 rw [hn] at c1
 clear hn h
 obtain ⟨⟨rg, rn⟩, ep, se, L, pf, ds⟩ := b
 simp only at hcl hdl ⊢
 have hb24 : (ds.length + 20) * 80 ≤ 140737488355328 := by omega
 have hb25 : ds.length * 80 ≤ 140737488355328 := by omega
 have hb26 : ds.length ≤ 140737488355328 := by omega
 have hb27 : (L.length + 1) * 120 ≤ 140737488355328 := by omega
 have hb28 : L.length * 120 ≤ 140737488355328 := by omega
 have hb29 : L.length ≤ 140737488355327 := by omega
 have hs0 : eigB 0 = [] := rfl
 have c2 := Within_spec x 3 (by omega) (by omega)
 have hx0 : 0 ≤ x % 3 := Int.emod_nonneg _ (by omega)
 have hx1 : x % 3 < 3 := Int.emod_lt_of_pos _ (by omega)
 obtain ⟨M, hM⟩ : ∃ M, (4 + x % 3).toNat = M := ⟨_, rfl⟩
 have hMi : 4 + x % 3 = (M : Int) := by omega
 have hM6 : M ≤ 6 := by omega
 rw [hM]
 clear hM
 unfold buAV rqAV
 simp only
 refine Bd Tryz.func16 Tryz.ntmps16 fun σ N hp hpn hk hkn hfree => ?_
 obtain ⟨hd, hdn⟩ := HD0 hp hpn; clear hp hpn
 have hcs := And.intro (c1 d) True.intro
 clear c1
 iterate 14 refine Wz ?_
 clear hcs
 refine go_loopF mixed (by kernel_rfl) [8, 83, 84, 85, 86, 87, 88, 89, 90, 91, 92, 93, 94, 95, 96, 97, 98, 99, 100] [N, N+2, d] (fun m_ s_ σ_ n_ => ∃ (u : Nat) (D : List Bo), m_ = M - u ∧ s_ 8 = .lit (.int .i64 u) ∧ σ_ (N) = .box 29 (.agg [.agg [.lit (.int .i64 rg), .lit (.int .i64 rn)], .lit (.int .i64 ep), .lit (.int .i64 se), .slice none (L.map caAV), tagAV pf, .slice (some (N + 2)) (D.map boAV)]) ∧ σ_ (N+2) = .row 70 34 D.length ∧ σ_ (d) = deckBox l j ∧ (u ≤ M) ∧ (D.length = ds.length + u) ∧ (D = ds ++ eigB u)) ⟨_, 0, ds, rfl, WF, WF, WF, WF, WC, WC, WC⟩ ?_
 intro m_2 s_2 σ_2 n_2 hs_2 hf_2 hn_2 hI_2
 obtain ⟨u, D, hm_2, h2_8, e2_0, e2_1, e2_2, hu, hDl, hD⟩ := hI_2
 have h2_2 := KS hs_2 2
 have h2_3 := KS hs_2 3
 have h2_6 := KS hs_2 6
 have h2_16 := KS hs_2 16
 have k2_0 := KE hf_2 (N + 1)
 have hlow := KD (N := N) (d := d) (σ := σ) hf_2
 have hcs := And.intro c2 True.intro
 clear c2
 by_cases hul : u = M
 ·subst hul
  rw [← hD]
  clear hD
  refine Wk ?_
  exact RV (d) (deckBox l j)
 ·have hu1 : u < M := by omega
  have hu1i : (u : Int) < (M : Int) := by omega
  have hq1 : (D.length + 1) * 80 ≤ 140737488355328 := by omega
  have hq2 : D.length ≤ 140737488355327 := by omega
  have hwr : IntKind.u8.wrap (u : Int) = (u : Int) := wrap8 (by omega)
  obtain ⟨e, he⟩ : ∃ e : Bo, e = ⟨List.replicate 990 0 ++ [UInt8.ofNat u], [], zeroTag⟩ := ⟨_, rfl⟩
  have hD2 : D ++ [e] = ds ++ eigB (u + 1) := by rw [hD, List.append_assoc, he, eigB_succ]
  obtain ⟨Z, hZ⟩ : ∃ Z, List.replicate 990 (AV.lit (.int .u8 0)) = Z := ⟨_, rfl⟩
  have hZl : Z.length = 990 := by rw [← hZ, List.length_replicate]
  have hZa : Z.all (fun x => x.sz == 1) = true := by rw [← hZ, List.all_eq_true]; intro z hz; rw [List.eq_of_mem_replicate hz]; rfl
  have hel : ∀ q, AV.le (.agg [.slice (some q) (Z ++ [.lit (.int .u8 (u : Int))]), .nils, tagAV zeroTag]) (boAV e) := fun q => by
   rw [he]
   exact AV.sub_agg (.cons (AV.le_slices (by rw [← hZ, List.map_append, List.map_replicate, List.map_cons, byte_ofNat (by omega)]; rfl)) (.cons AV.le_nils (.cons (AV.le_refl _) .nil)))
  have hm2 : D.map boAV ++ [boAV e] = (D ++ [e]).map boAV := by simp
  have hl2 : D.length + 1 = (D ++ [e]).length := by simp
  clear hD he
  have hs9 : (eigB (u + 1)).length = u + 1 := by unfold eigB; rw [List.length_map, List.length_range]
  have hl4 : ds.length + u + 1 = ds.length + (u + 1) := by omega
  generalize D ++ [e] = D2 at *
  iterate 3 refine Wz ?_
  refine go_lessIn N [5] (.slice (some (N + 2)) (D2.map boAV)) (bt := 29) (c := .agg [.agg [.lit (.int .i64 rg), .lit (.int .i64 rn)], .lit (.int .i64 ep), .lit (.int .i64 se), .slice none (L.map caAV), tagAV pf, .slice (some (N + 2)) (D.map boAV ++ [.agg [.slice (some (n_2 + 5 + 2)) (Z ++ [.lit (.int .u8 (u : Int))]), .nils, tagAV zeroTag]])]) (by simp (disch := omega) [go_sem, *, -List.reduceReplicate]; try rfl) rfl (by
   rw [← hm2]
   exact AV.le_sliceS _ (ALe.snoc (hel _))) rfl rfl ?_
  refine Wk ?_
  exact ⟨WS, WG, WN, _, (show M - (u + 1) < m_2 by omega), u + 1, D2, rfl, WF, WF, WF, WF, WC, WC, WC⟩
set_option maxHeartbeats 4000000 in
theorem spoilt9 (b : Bu) (hcl : b.cavs.length ≤ 10) (hdl : b.dis.length ≤ 10) (l : List Int) (i j : Nat) (hn : nextD l i 10 = (9, j)) (h : Dk l i) (x : Int) (d k : Nat) :
  ACall Tryz.prog 16 [buAV b, .ptr d [] 0, .lit (.int .i64 x)] k [(d, deckBox l i)] (buAV ⟨b.req, b.epoch, b.serial, b.cavs ++ List.replicate (58 + x % 8).toNat rideC, b.proof, b.dis⟩) [(d, deckBox l j)] := by
 have c1 := Next_spec l i 10 h (by omega) (by omega)
 rw [hn] at c1
 clear hn h
 obtain ⟨⟨rg, rn⟩, ep, se, L, pf, ds⟩ := b
 simp only at hcl hdl ⊢
 have hb24 : (ds.length + 20) * 80 ≤ 140737488355328 := by omega
 have hb25 : ds.length * 80 ≤ 140737488355328 := by omega
 have hb26 : ds.length ≤ 140737488355328 := by omega
 have hb27 : (L.length + 1) * 120 ≤ 140737488355328 := by omega
 have hb28 : L.length * 120 ≤ 140737488355328 := by omega
 have hb29 : L.length ≤ 140737488355327 := by omega
 have c2 := Within_spec x 8 (by omega) (by omega)
 have hx0 : 0 ≤ x % 8 := Int.emod_nonneg _ (by omega)
 have hx1 : x % 8 < 8 := Int.emod_lt_of_pos _ (by omega)
 obtain ⟨M, hM⟩ : ∃ M, (58 + x % 8).toNat = M := ⟨_, rfl⟩
 have hMi : 58 + x % 8 = (M : Int) := by omega
 have hM6 : M ≤ 65 := by omega
 rw [hM]
 clear hM
 unfold buAV rqAV
 simp only
 refine Bd Tryz.func16 Tryz.ntmps16 fun σ N hp hpn hk hkn hfree => ?_
 obtain ⟨hd, hdn⟩ := HD0 hp hpn; clear hp hpn
 have hcs := And.intro (c1 d) True.intro
 clear c1
 iterate 15 refine Wz ?_
 clear hcs
 refine go_loopF mixed (by kernel_rfl) [9, 103, 104, 105, 106, 107, 108, 109, 110, 111, 112, 113, 114, 115, 116, 117, 118] [N, d] (fun m_ s_ σ_ n_ => ∃ (u : Nat) (C : List Ca), m_ = M - u ∧ s_ 9 = .lit (.int .i64 u) ∧ σ_ (N) = .box 29 (.agg [.agg [.lit (.int .i64 rg), .lit (.int .i64 rn)], .lit (.int .i64 ep), .lit (.int .i64 se), .slice none (C.map caAV), tagAV pf, .slice (some (N + 2)) (ds.map boAV)]) ∧ σ_ (d) = deckBox l j ∧ (u ≤ M) ∧ (C.length = L.length + u) ∧ (C = L ++ List.replicate u rideC)) ⟨_, 0, L, rfl, WF, WF, WF, WC, WC, WC⟩ ?_
 intro m_3 s_3 σ_3 n_3 hs_3 hf_3 hn_3 hI_3
 obtain ⟨u, C, hm_3, h3_9, e3_0, e3_1, hu, hCl, hC⟩ := hI_3
 have h3_2 := KS hs_3 2
 have h3_3 := KS hs_3 3
 have h3_6 := KS hs_3 6
 have k3_0 := KE hf_3 (N + 1)
 have hlow := KD (N := N) (d := d) (σ := σ) hf_3
 have hcs := And.intro c2 True.intro
 clear c2
 by_cases hul : u = M
 ·subst hul
  rw [← hC]
  clear hC
  refine Wk ?_
  exact RV (d) (deckBox l j)
 ·have hu1 : u < M := by omega
  have hu1i : (u : Int) < (M : Int) := by omega
  have hq1 : (C.length + 1) * 120 ≤ 140737488355328 := by omega
  have hq3 : C.length * 120 ≤ 140737488355328 := by omega
  have hq2 : C.length ≤ 140737488355327 := by omega
  have hC2 : C ++ [rideC] = L ++ List.replicate (u + 1) rideC := by rw [hC, List.append_assoc, List.replicate_succ']
  have hm2 : C.map caAV ++ [caAV rideC] = (C ++ [rideC]).map caAV := by simp
  have hl2 : (C ++ [rideC]).length = L.length + (u + 1) := by simp; omega
  clear hC
  generalize C ++ [rideC] = C2 at *
  iterate 3 refine Wz ?_
  refine go_lessIn N [3] (.slice none (C2.map caAV)) (bt := 29) (c := .agg [.agg [.lit (.int .i64 rg), .lit (.int .i64 rn)], .lit (.int .i64 ep), .lit (.int .i64 se), .slice (some (n_3 + 5)) (C.map caAV ++ [.agg [.lit (.bool false), .agg [.lit (.int .i64 7), .lit (.int .u64 0), .lit (.int .i64 0), .lit (.int .i64 0), .lit (.string ByteArray.empty), .lit (.int .i64 0)], .lit (.int .i64 0), .nils, .nils]]), tagAV pf, .slice (some (N + 2)) (ds.map boAV)]) (by simp (disch := omega) [go_sem, *, -List.reduceReplicate]; try rfl) rfl (by
   rw [← hm2]
   exact AV.le_slice _ (ALe.snoc (AV.sub_agg (.cons (AV.le_refl _) (.cons (AV.le_refl _) (.cons (AV.le_refl _) (.cons AV.le_nils (.cons AV.le_nils .nil)))))))) rfl rfl ?_
  refine Wk ?_
  exact ⟨WS, WG, WN, _, (show M - (u + 1) < m_3 by omega), u + 1, C2, rfl, WF, WF, WF, WC, WC, WC⟩

theorem sevB_in {n : Nat} : ∀ d ∈ sevB n, BoIn d := fun d hd => by
 obtain ⟨u, _, rfl⟩ := List.mem_map.1 hd
 exact ⟨by simp, by simp, fun p hp => by simp at hp⟩
theorem eigB_in {n : Nat} : ∀ d ∈ eigB n, BoIn d := fun d hd => by
 obtain ⟨u, _, rfl⟩ := List.mem_map.1 hd
 exact ⟨by simp only [List.length_append, List.length_replicate, List.length_singleton]; omega, by simp, fun p hp => by simp at hp⟩
theorem of_spoilt {b b' : Bu} {l : List Int} {i j : Nat} {x : Int} (hA : ∀ d k, ACall Tryz.prog 16 [buAV b, .ptr d [] 0, .lit (.int .i64 x)] k [(d, deckBox l i)] (buAV b') [(d, deckBox l j)]) (hj : Dk l j) (hb : BuIn b') :
  ∃ (b' : Bu) (j : Nat), BuIn b' ∧ Dk l j ∧ ∀ d k, ACall Tryz.prog 16 [buAV b, .ptr d [] 0, .lit (.int .i64 x)] k [(d, deckBox l i)] (buAV b') [(d, deckBox l j)] := ⟨b', j, hb, hj, hA⟩
theorem spoil16_ex (b : Bu) (hb : BuIn b) (hcl : b.cavs.length ≤ 10) (hdl : b.dis.length ≤ 10) (l : List Int) (i : Nat) (h : Dk l i) (x : Int) : ∃ (b' : Bu) (j : Nat), BuIn b' ∧ Dk l j ∧ ∀ d k, ACall Tryz.prog 16 [buAV b, .ptr d [] 0, .lit (.int .i64 x)] k [(d, deckBox l i)] (buAV b') [(d, deckBox l j)] := by
 rcases hn : nextD l i 10 with ⟨K, j⟩
 have hK : K < 10 := by have := nextD_lt l i 10 (by omega); rw [hn] at this; exact this
 have hj : Dk l j := by have := nextD_dk 10 h; rw [hn] at this; exact this
 have hpz : PrOk zeroPr := ⟨by decide, by decide, by decide⟩
 obtain ⟨h1, h2, h3, h4⟩ := hb
 match K, hK with
 | 0, _ => exact of_spoilt (fun d k => spoilt0 b hcl hdl l i j hn h x d k) hj ⟨h1, h2, h3, h4⟩
 | 1, _ => exact of_spoilt (fun d k => spoilt1 b hcl hdl l i j hn h x d k) hj ⟨h1, h2, h3, h4⟩
 | 2, _ => exact of_spoilt (fun d k => spoilt2 b hcl hdl l i j hn h x d k) hj ⟨h1, h2, h3, h4⟩
 | 3, _ => exact of_spoilt (fun d k => spoilt3 b hcl hdl l i j hn h x d k) hj ⟨h1, h2, h3, h4⟩
 | 4, _ => exact of_spoilt (fun d k => spoilt4 b hcl hdl l i j hn h x d k) hj ⟨by simp; omega, h2, fun c hc => by
   rcases List.mem_append.1 hc with hc | hc
   ·exact h3 c hc
   ·rw [List.mem_singleton.1 hc]; exact hpz, h4⟩
 | 5, _ =>
  obtain ⟨R, j2, r1, r2, r3, r4⟩ := Preds_ex l j hj 9 (by omega) true
  exact of_spoilt (fun d k => spoilt5 b hcl hdl l i j hn h x R j2 r4 d k) r3 ⟨h1, by simp; omega, h3, fun d hd => by
   rcases List.mem_append.1 hd with hd | hd
   ·exact h4 d hd
   ·rw [List.mem_singleton.1 hd]; exact ⟨by simp, by simp only; omega, fun p hp => (r2 p hp).1⟩⟩
 | 6, _ => exact of_spoilt (fun d k => spoilt6 b hcl hdl l i j hn h x d k) hj ⟨h1, by simp; omega, h3, fun d hd => by
   rcases List.mem_append.1 hd with hd | hd
   ·exact h4 d hd
   ·exact h4 d hd⟩
 | 7, _ => exact of_spoilt (fun d k => spoilt7 b hcl hdl l i j hn h x d k) hj ⟨h1, by simp [sevB]; omega, h3, fun d hd => by
   rcases List.mem_append.1 hd with hd | hd
   ·exact h4 d hd
   ·exact sevB_in d hd⟩
 | 8, _ => exact of_spoilt (fun d k => spoilt8 b hcl hdl l i j hn h x d k) hj ⟨h1, by simp only [List.length_append, eigB, List.length_map, List.length_range]; omega, h3, fun d hd => by
   rcases List.mem_append.1 hd with hd | hd
   ·exact h4 d hd
   ·exact eigB_in d hd⟩
 | 9, _ => exact of_spoilt (fun d k => spoilt9 b hcl hdl l i j hn h x d k) hj ⟨by simp only [List.length_append, List.length_replicate]; omega, h2, fun c hc => by
   rcases List.mem_append.1 hc with hc | hc
   ·exact h3 c hc
   ·rw [List.eq_of_mem_replicate hc]; exact ⟨by decide, by decide, by decide⟩, h4⟩

structure BuW (b : Bu) : Prop where
 cl : b.cavs.length ≤ 9223372036854775807
 dl : b.dis.length ≤ 9223372036854775807
 ok : ∀ c ∈ b.cavs, PrOk c.first ∧ c.ticket.length ≤ 9223372036854775807 ∧ c.box.length ≤ 9223372036854775807
 di : ∀ d ∈ b.dis, BoIn d
theorem u64_wf {a : Int} (h : (Lit.int .u64 a).wf = true) : 0 ≤ a ∧ a < 18446744073709551616 := by
 have hw : IntKind.u64.min ≤ a ∧ a ≤ IntKind.u64.max := by simpa [Lit.wf] using h
 have e1 : IntKind.u64.min = 0 := by decide
 have e2 : IntKind.u64.max = 18446744073709551615 := by decide
 omega
theorem pre_ty {m : Nat} {x : AV} (h : tyAV Tryz.prog (m + 2) 110 x) : ∃ p : Pr, PrOk p ∧ x = prAV p := by
 obtain ⟨xs, rfl, h1, h2⟩ := ty_struct Tryz.underlying110 h
 obtain ⟨a, b, c, d, e, f, rfl⟩ : ∃ a b c d e f, xs = [a, b, c, d, e, f] := by
  match xs, h1 with
  | [a, b, c, d, e, f], _ => exact ⟨a, b, c, d, e, f, rfl⟩
 obtain ⟨v1, _, rfl⟩ := ty_int it3 (h2 0 _ _ rfl rfl)
 obtain ⟨v2, w2, rfl⟩ := ty_int it108 (h2 1 _ _ rfl rfl)
 obtain ⟨v3, _, rfl⟩ := ty_int it3 (h2 2 _ _ rfl rfl)
 obtain ⟨v4, _, rfl⟩ := ty_int it3 (h2 3 _ _ rfl rfl)
 obtain ⟨v5, w5, rfl⟩ := ty_str st9 (h2 4 _ _ rfl rfl)
 obtain ⟨v6, _, rfl⟩ := ty_int it3 (h2 5 _ _ rfl rfl)
 exact ⟨⟨v1, v2, v3, v4, v5, v6⟩, ⟨(u64_wf w2).1, (u64_wf w2).2, w5⟩, rfl⟩
theorem bundle_of {x : AV} (h : tyAV Tryz.prog 8 29 x) : ∃ b : Bu, BuW b ∧ x = buAV b := by
 obtain ⟨xs, rfl, h1, h2⟩ := ty_struct Tryz.underlying29 h
 obtain ⟨a, b, c, d, e, f, rfl⟩ : ∃ a b c d e f, xs = [a, b, c, d, e, f] := by
  match xs, h1 with
  | [a, b, c, d, e, f], _ => exact ⟨a, b, c, d, e, f, rfl⟩
 have hca : ∀ y, tyAV Tryz.prog 6 120 y → ∃ c : Ca, (PrOk c.first ∧ c.ticket.length ≤ 9223372036854775807 ∧ c.box.length ≤ 9223372036854775807) ∧ y = caAV c := fun y hy => by
  obtain ⟨ys, rfl, h3, h4⟩ := ty_struct Tryz.underlying120 hy
  obtain ⟨a, b, c, d, e, rfl⟩ : ∃ a b c d e, ys = [a, b, c, d, e] := by
   match ys, h3 with
   | [a, b, c, d, e], _ => exact ⟨a, b, c, d, e, rfl⟩
  obtain ⟨v1, rfl⟩ := ty_bool bt4 (h4 0 _ _ rfl rfl)
  obtain ⟨v2, w2, rfl⟩ := pre_ty (h4 1 _ _ rfl rfl)
  obtain ⟨v3, _, rfl⟩ := ty_int it3 (h4 2 _ _ rfl rfl)
  obtain ⟨v4, w4, rfl⟩ := ty_bytes sl57 by5 (h4 3 _ _ rfl rfl)
  obtain ⟨v5, w5, rfl⟩ := ty_bytes sl57 by5 (h4 4 _ _ rfl rfl)
  exact ⟨⟨v1, v2, v3, v4, v5⟩, ⟨w2, w4, w5⟩, rfl⟩
 have hpr : ∀ y, tyAV Tryz.prog 4 110 y → ∃ p : Pr, PrOk p ∧ y = prAV p := fun y hy => pre_ty hy
 have hbo : ∀ y, tyAV Tryz.prog 6 70 y → ∃ d : Bo, BoIn d ∧ y = boAV d := fun y hy => by
  obtain ⟨ys, rfl, h3, h4⟩ := ty_struct Tryz.underlying70 hy
  obtain ⟨a, b, c, rfl⟩ : ∃ a b c, ys = [a, b, c] := by
   match ys, h3 with
   | [a, b, c], _ => exact ⟨a, b, c, rfl⟩
  obtain ⟨v1, w1, rfl⟩ := ty_bytes sl57 by5 (h4 0 _ _ rfl rfl)
  obtain ⟨v2, ⟨w2, w2'⟩, rfl⟩ := ty_list sl64 hpr (h4 1 _ _ rfl rfl)
  obtain ⟨v3, _, rfl⟩ := ty_tag ar26 by5 (h4 2 _ _ rfl rfl)
  exact ⟨⟨v1, v2, v3⟩, ⟨w1, w2, w2'⟩, rfl⟩
 have hrq : tyAV Tryz.prog 7 23 a → ∃ r : Rq, a = rqAV r := fun hy => by
  obtain ⟨ys, rfl, h3, h4⟩ := ty_struct Tryz.underlying23 hy
  obtain ⟨a, b, rfl⟩ : ∃ a b, ys = [a, b] := by
   match ys, h3 with
   | [a, b], _ => exact ⟨a, b, rfl⟩
  obtain ⟨v1, _, rfl⟩ := ty_int it3 (h4 0 _ _ rfl rfl)
  obtain ⟨v2, _, rfl⟩ := ty_int it3 (h4 1 _ _ rfl rfl)
  exact ⟨⟨v1, v2⟩, rfl⟩
 obtain ⟨v1, rfl⟩ := hrq (h2 0 _ _ rfl rfl)
 obtain ⟨v2, _, rfl⟩ := ty_int it3 (h2 1 _ _ rfl rfl)
 obtain ⟨v3, _, rfl⟩ := ty_int it3 (h2 2 _ _ rfl rfl)
 obtain ⟨v4, ⟨w4, w4'⟩, rfl⟩ := ty_list sl24 hca (h2 3 _ _ rfl rfl)
 obtain ⟨v5, _, rfl⟩ := ty_tag ar26 by5 (h2 4 _ _ rfl rfl)
 obtain ⟨v6, ⟨w6, w6'⟩, rfl⟩ := ty_list sl27 hbo (h2 5 _ _ rfl rfl)
 exact ⟨⟨v1, v2, v3, v4, v5, v6⟩, ⟨w4, w6, w4', w6'⟩, rfl⟩
theorem BuW.fewIn {b : Bu} (h : BuW b) (hf : (decide (b.cavs.length ≤ 80) && decide (b.dis.length ≤ 20)) = true) : BuIn b := by
 rw [Bool.and_eq_true, decide_eq_true_eq, decide_eq_true_eq] at hf
 exact ⟨by omega, by omega, fun c hc => (h.ok c hc).1, h.di⟩
end Go.Proofs.YtemmlldpmgfblaaGreatDoor

namespace Go.Proofs.YtemmlldpmgfblaaGreatDoor
open Go.Ab
attribute [local irreducible] Go.Ab.tyAV Go.Ab.aw Go.Ab.aops Go.Ab.kReg Go.Ab.aThen Go.Ab.aBlk Go.Ab.acond Go.Ab.aguard Go.Ab.astep Go.Ab.AStepX Go.Ab.aRet
attribute [local irreducible] shaG
section
variable [W : W32]
set_option maxHeartbeats 8000000 in
theorem BundleCheck_core (b : Bu) (hb : BuW b) (xs ys : List Int) (hx : xs.length ≤ 9223372036854775807) (hy : ys.length ≤ 9223372036854775807) (x : Int) (d k : Nat) :
  ACall Tryz.prog 3 [buAV b, .slice none (xs.map intAV), .slice none (ys.map intAV), .lit (.int .i64 x)] k [(d, bitsG)] (.lit (.bool true)) [] := by
 have c1 := few_spec b hb.cl hb.dl
 have c9 := awake16_spec d
 cases hf : (decide (b.cavs.length ≤ 80) && decide (b.dis.length ≤ 20)) with
 | false =>
  rw [hf] at c1
  clear hb hf
  refine Bd Tryz.func3 Tryz.ntmps3 fun σ N hp hpn hk hkn hfree => ?_
  obtain ⟨hd, hdn⟩ := HD0 hp hpn; clear hp hpn
  have hcs := And.intro c1 (And.intro c9 True.intro)
  clear c1 c9
  exact W0
 | true =>
  rw [hf] at c1
  have hB := hb.fewIn hf
  obtain ⟨s, j, hs, hj, c2⟩ := made_spec xs hx
  obtain ⟨_, _, h3, _, _⟩ := bunS_ok hs
  have hq1 : (bunS s).2.cavs.length ≤ 10 := by
   obtain ⟨⟨se, hG, _⟩, _⟩ := hs
   exact Nat.le_trans hG.cl (by omega)
  have hq2 : (bunS s).2.dis.length ≤ 10 := by
   obtain ⟨⟨se, hG, _⟩, _⟩ := hs
   have hl : (bunS s).2.dis.length = s.grants.length := by
    unfold bunS presS; simp only; rw [bindL_len]; simp
   rw [hl]; exact Nat.le_trans hG.gl (by omega)
  have c3 := New_spec ys
  have hy0 : Dk ys 0 := ⟨hy, Nat.zero_le _⟩
  obtain ⟨b3, j3, h5, _, c4⟩ := spoil16_ex (bunS s).2 h3 hq1 hq2 ys 0 hy0 x
  have e1 := Check_spec (bunS s).2 h3 d
  have e2 := refChk_spec (bunS s).2 h3
  have e3 := Check_spec b hB d
  have e4 := refChk_spec b hB
  have e5 := Check_spec b3 h5 d
  have e6 := refChk_spec b3 h5
  clear hb hf hB hs h3 h5 hq1 hq2 hy0
  generalize chkS (bunS s).2 = v1 at *
  generalize chkS b = v2 at *
  generalize chkS b3 = v3 at *
  generalize (bunS s).2 = b1 at *
  generalize ({ s with alg := (bunS s).1 } : Sc) = s1 at *
  refine Bd Tryz.func3 Tryz.ntmps3 fun σ N hp hpn hk hkn hfree => ?_
  obtain ⟨hd, hdn⟩ := HD0 hp hpn; clear hp hpn
  have hcs := And.intro c1 (And.intro c2 (And.intro c3 (And.intro (c4 (N + 16 + 2)) (And.intro e1 (And.intro e2 (And.intro e3 (And.intro e4 (And.intro e5 (And.intro e6 (And.intro c9 True.intro))))))))))
  clear c1 c2 c3 c4 e1 e2 e3 e4 e5 e6 c9
  exact W0
end
theorem BundleCheck_spec (b : Bu) (hb : BuW b) (xs : List Int) (_ : ∀ n ∈ xs, (Lit.int .i64 n).wf = true) (hx : xs.length ≤ 9223372036854775807) (ys : List Int) (_ : ∀ n ∈ ys, (Lit.int .i64 n).wf = true) (hy : ys.length ≤ 9223372036854775807) (x : Int) (d k : Nat) :
  ACall Tryz.prog 3 [buAV b, .slice none (xs.map intAV), .slice none (ys.map intAV), .lit (.int .i64 x)] k [(d, bitsG)] (.lit (.bool true)) [] :=
 @BundleCheck_core w32 b hb xs ys hx hy x d k
end Go.Proofs.YtemmlldpmgfblaaGreatDoor

namespace Go.Ab
def bitsN : Nat → Nat → List Bool
 | 0, _ => []
 | n + 1, v => (v / 2 ^ n % 2 == 1) :: bitsN n v
def numA (a : Nat) (l : List Bool) : Nat := l.foldl (fun a b => 2 * a + b.toNat) a
def num (l : List Bool) : Nat := numA 0 l
theorem numA_eq (l : List Bool) : ∀ a, numA a l = a * 2 ^ l.length + num l := by
 induction l with
 | nil => intro a; simp [num, numA]
 | cons b r ih =>
  intro a
  have h1 : numA a (b :: r) = numA (2 * a + b.toNat) r := rfl
  have h2 : num (b :: r) = numA (2 * 0 + b.toNat) r := rfl
  rw [h1, h2, ih, ih (2 * 0 + b.toNat), List.length_cons, Nat.pow_succ, Nat.add_mul, Nat.mul_zero, Nat.zero_add, Nat.mul_comm 2 a, Nat.mul_assoc, Nat.mul_comm 2]
  omega
theorem num_nil : num [] = 0 := rfl
theorem num_cons (b : Bool) (r : List Bool) : num (b :: r) = b.toNat * 2 ^ r.length + num r := by
 have h2 : num (b :: r) = numA (2 * 0 + b.toNat) r := rfl
 rw [h2, numA_eq, Nat.mul_zero, Nat.zero_add]
theorem num_append (a b : List Bool) : num (a ++ b) = num a * 2 ^ b.length + num b := by
 have : num (a ++ b) = numA (num a) b := by simp [num, numA]
 rw [this, numA_eq]
theorem num_lt (l : List Bool) : num l < 2 ^ l.length := by
 induction l with
 | nil => simp [num, numA]
 | cons b r ih =>
  rw [num_cons, List.length_cons, Nat.pow_succ]
  have : b.toNat ≤ 1 := by cases b <;> simp
  have : b.toNat * 2 ^ r.length ≤ 1 * 2 ^ r.length := Nat.mul_le_mul_right _ this
  omega
theorem bitsN_len (n v : Nat) : (bitsN n v).length = n := by
 induction n with
 | zero => rfl
 | succ n ih => simp [bitsN, ih]
theorem beq1_toNat (x : Nat) (h : x < 2) : (x == 1).toNat = x := by
 have : x = 0 ∨ x = 1 := by omega
 rcases this with rfl | rfl <;> rfl
theorem num_bitsN (n v : Nat) : num (bitsN n v) = v % 2 ^ n := by
 induction n with
 | zero => simp [bitsN, num, numA, Nat.mod_one]
 | succ n ih =>
  rw [bitsN, num_cons, bitsN_len, ih, beq1_toNat _ (Nat.mod_lt _ (by omega)), Nat.pow_succ, Nat.mod_mul, Nat.mul_comm (2 ^ n)]
  omega
theorem bitsN_mod (n v m : Nat) (h : n ≤ m) : bitsN n (v % 2 ^ m) = bitsN n v := by
 induction n with
 | zero => rfl
 | succ n ih =>
  simp only [bitsN]
  rw [ih (by omega)]
  congr 1
  obtain ⟨d, rfl⟩ : ∃ d, m = n + (1 + d) := ⟨m - n - 1, by omega⟩
  rw [Nat.pow_add, Nat.mod_mul_right_div_self, Nat.pow_add, Nat.pow_one, Nat.mod_mul_right_mod]
theorem bitsN_num (l : List Bool) : bitsN l.length (num l) = l := by
 induction l with
 | nil => rfl
 | cons b r ih =>
  have hb : b.toNat ≤ 1 := by cases b <;> simp
  have hp : 0 < 2 ^ r.length := Nat.two_pow_pos _
  have hlt := num_lt r
  simp only [List.length_cons, bitsN]
  rw [num_cons]
  congr 1
  ·rw [Nat.mul_comm, Nat.mul_add_div hp, Nat.div_eq_of_lt hlt]
   cases b <;> rfl
  ·have : bitsN r.length (b.toNat * 2 ^ r.length + num r) = bitsN r.length ((b.toNat * 2 ^ r.length + num r) % 2 ^ r.length) := (bitsN_mod _ _ _ (Nat.le_refl _)).symm
   rw [this, Nat.mul_comm, Nat.mul_add_mod, Nat.mod_eq_of_lt hlt, ih]
def bits8 (x : UInt8) : List Bool := bitsN 8 x.toNat
theorem bits8_len (x : UInt8) : (bits8 x).length = 8 := bitsN_len _ _
def bitsB (b : List UInt8) : List Bool := b.flatMap bits8
theorem bitsB_nil : bitsB [] = [] := rfl
theorem bitsB_cons (x : UInt8) (r : List UInt8) : bitsB (x :: r) = bits8 x ++ bitsB r := by simp [bitsB]
theorem bitsB_len (b : List UInt8) : (bitsB b).length = 8 * b.length := by
 induction b with
 | nil => rfl
 | cons x r ih => rw [bitsB_cons, List.length_append, bits8_len, ih, List.length_cons]; omega
def chunks6 (l : List Bool) : List Nat :=
 if _h : l = [] then [] else num (l.take 6 ++ List.replicate (6 - l.length) false) :: chunks6 (l.drop 6)
termination_by l.length
decreasing_by
 have : 0 < l.length := List.length_pos_iff.2 _h
 simp only [List.length_drop]; omega
theorem chunks6_nil : chunks6 [] = [] := by unfold chunks6; simp
theorem chunks6_six (p r : List Bool) (hp : p.length = 6) : chunks6 (p ++ r) = num p :: chunks6 r := by
 have hne : p ++ r ≠ [] := by intro h; have := congrArg List.length h; simp [hp] at this
 rw [chunks6, dif_neg hne]
 have h1 : (p ++ r).take 6 = p := by rw [List.take_append_of_le_length (by omega), List.take_of_length_le (by omega)]
 have h2 : (p ++ r).drop 6 = r := by rw [← hp, List.drop_left]
 have h3 : 6 - (p ++ r).length = 0 := by simp [hp]
 rw [h1, h2, h3]; simp
theorem chunks6_short (p : List Bool) (h0 : 0 < p.length) (h6 : p.length < 6) : chunks6 p = [num p * 2 ^ (6 - p.length)] := by
 have hne : p ≠ [] := List.length_pos_iff.1 h0
 rw [chunks6, dif_neg hne, List.take_of_length_le (by omega), List.drop_eq_nil_of_le (by omega), chunks6_nil, num_append]
 have : ∀ n, num (List.replicate n false) = 0 := by
  intro n
  induction n with
  | zero => rfl
  | succ n ih => rw [List.replicate_succ, num_cons, ih]; simp
 rw [this, List.length_replicate]; simp
theorem chunks6_len (l : List Bool) : (chunks6 l).length ≤ l.length := by
 induction h : l.length using Nat.strongRecOn generalizing l with
 | _ n ih =>
  rw [chunks6]
  split
  ·simp
  ·rename_i hne
   have h0 : 0 < l.length := List.length_pos_iff.2 hne
   have hd : (l.drop 6).length = l.length - 6 := List.length_drop
   have := ih (l.drop 6).length (by omega) (l.drop 6) rfl
   simp only [List.length_cons]; omega
theorem bitsN_get (v : Nat) : ∀ (n i : Nat), i < n → (bitsN n v)[i]? = some (v / 2 ^ (n - 1 - i) % 2 == 1)
 | 0, i, h => by omega
 | n + 1, 0, h => by simp [bitsN]
 | n + 1, i + 1, h => by
  rw [bitsN, List.getElem?_cons_succ, bitsN_get v n i (by omega), show n + 1 - 1 - (i + 1) = n - 1 - i by omega]
theorem bitsB_get (b : List UInt8) : ∀ (i : Nat) (x : UInt8), b[i / 8]? = some x → (bitsB b)[i]? = some (x.toNat / 2 ^ (7 - i % 8) % 2 == 1) := by
 induction b with
 | nil => intro i x h; simp at h
 | cons y r ih =>
  intro i x h
  rw [bitsB_cons]
  by_cases hi : i < 8
  ·rw [show i / 8 = 0 by omega, List.getElem?_cons_zero] at h
   cases h
   rw [List.getElem?_append_left (by rw [bits8_len]; exact hi), bits8, bitsN_get _ 8 i hi, show i % 8 = i by omega]
  ·rw [List.getElem?_append_right (by rw [bits8_len]; omega), bits8_len]
   obtain ⟨j, rfl⟩ : ∃ j, i = j + 8 := ⟨i - 8, by omega⟩
   rw [show (j + 8) / 8 = j / 8 + 1 by omega, List.getElem?_cons_succ] at h
   rw [show j + 8 - 8 = j by omega, ih j x h, show (j + 8) % 8 = j % 8 by omega]
theorem num_snoc (a : List Bool) (b : Bool) : num (a ++ [b]) = 2 * num a + b.toNat := by
 rw [num_append, num_cons, num_nil]; simp; omega
end Go.Ab

namespace Go.Proofs.YtemmlldpmgfblaaGreatDoor
open Go.Ab
attribute [local irreducible] Go.Ab.tyAV Go.Ab.aw Go.Ab.aops Go.Ab.kReg Go.Ab.aThen Go.Ab.aBlk Go.Ab.acond Go.Ab.aguard Go.Ab.astep Go.Ab.AStepX Go.Ab.aRet
theorem i64_and63 (x : Int) (h0 : 0 ≤ x) (h1 : x ≤ 9223372036854775807) : bits .and .i64 x 63 = x % 64 :=
 bits_mask .i64 63 (by decide) (fun n a b => wrap_i64 (by omega) (by omega)) 6 (by decide) x h0 (by omega)
def alph64 : List UInt8 := [65, 66, 67, 68, 69, 70, 71, 72, 73, 74, 75, 76, 77, 78, 79, 80, 81, 82, 83, 84, 85, 86, 87, 88, 89, 90, 97, 98, 99, 100, 101, 102, 103, 104, 105, 106, 107, 108, 109, 110, 111, 112, 113, 114, 115, 116, 117, 118, 119, 120, 121, 122, 48, 49, 50, 51, 52, 53, 54, 55, 56, 57, 45, 95]
def alph (v : Nat) : UInt8 := alph64.getD v 0
theorem alph_get (v : Nat) (h : v < 64) : ∀ h : v < ([65, 66, 67, 68, 69, 70, 71, 72, 73, 74, 75, 76, 77, 78, 79, 80, 81, 82, 83, 84, 85, 86, 87, 88, 89, 90, 97, 98, 99, 100, 101, 102, 103, 104, 105, 106, 107, 108, 109, 110, 111, 112, 113, 114, 115, 116, 117, 118, 119, 120, 121, 122, 48, 49, 50, 51, 52, 53, 54, 55, 56, 57, 45, 95] : List UInt8).length, ([65, 66, 67, 68, 69, 70, 71, 72, 73, 74, 75, 76, 77, 78, 79, 80, 81, 82, 83, 84, 85, 86, 87, 88, 89, 90, 97, 98, 99, 100, 101, 102, 103, 104, 105, 106, 107, 108, 109, 110, 111, 112, 113, 114, 115, 116, 117, 118, 119, 120, 121, 122, 48, 49, 50, 51, 52, 53, 54, 55, 56, 57, 45, 95] : List UInt8)[v] = alph v := by
 intro h2
 have hl : v < alph64.length := h
 have : alph64[v] = alph v := by rw [alph, List.getD_eq_getElem?_getD, List.getElem?_eq_getElem hl]; rfl
 exact this
def textS (b : List UInt8) : List UInt8 := (chunks6 (bitsB b)).map alph
theorem take_num (p : List Bool) (r n : Nat) (hn : p.length = n + 6) (hr : r % 2 ^ (n + 6) = num p) : r / 2 ^ n % 64 = num (p.take 6) ∧ r % 2 ^ n = num (p.drop 6) := by
 have h1 := num_append (p.take 6) (p.drop 6)
 rw [List.take_append_drop] at h1
 have hl : (p.drop 6).length = n := by simp; omega
 have hlt := num_lt (p.drop 6)
 rw [hl] at h1 hlt
 have hp : 0 < 2 ^ n := Nat.two_pow_pos _
 rw [h1] at hr
 have e1 : r % 2 ^ n = num (p.drop 6) := by
  have : r % 2 ^ (n + 6) % 2 ^ n = r % 2 ^ n := by rw [Nat.pow_add, Nat.mod_mul_right_mod]
  rw [← this, hr, Nat.mul_comm, Nat.mul_add_mod, Nat.mod_eq_of_lt hlt]
 have e2 : r / 2 ^ n % 64 = r % 2 ^ (n + 6) / 2 ^ n := by rw [Nat.pow_add, Nat.mod_mul_right_div_self]
 rw [e2, hr, Nat.mul_comm, Nat.mul_add_div hp, Nat.div_eq_of_lt hlt]
 exact ⟨rfl, e1⟩
theorem i64_or8 (r x : Nat) (hr : r < 1000000) (hx : x < 256) : bits .or .i64 ((r : Int) * 256) x = ((r * 256 + x : Nat) : Int) := by
 have h : bits .or .i64 ((r : Int) * 256) x = (r : Int) * 256 + x := bits_join .i64 63 (by decide) (fun n a b => wrap_i64 (by omega) (by omega)) 8 ((r : Int) * 256) x (by omega) (by omega) (by omega) (by omega) (by omega) (by omega)
 rw [h]; omega
def textOf (l : List Bool) : List UInt8 := (chunks6 l).map alph
theorem textS_len (b : List UInt8) : (textS b).length ≤ 8 * b.length := by
 have := chunks6_len (bitsB b)
 rw [bitsB_len] at this
 simp only [textS, List.length_map]; exact this
theorem acc_len {acc t : List UInt8} {b : List UInt8} (h : acc ++ t = textS b) : acc.length ≤ 8 * b.length := by
 have h1 := congrArg List.length h
 have h2 := textS_len b
 rw [List.length_append] at h1
 omega
theorem textOf_nil : textOf [] = [] := by simp [textOf, chunks6_nil]
theorem textOf_six (p r : List Bool) (hp : 6 ≤ p.length) : textOf (p ++ r) = alph (num (p.take 6)) :: textOf (p.drop 6 ++ r) := by
 have h : p ++ r = p.take 6 ++ (p.drop 6 ++ r) := by rw [← List.append_assoc, List.take_append_drop]
 rw [h, textOf, chunks6_six _ _ (by simp; omega)]; rfl
theorem textOf_short (p : List Bool) (h0 : 0 < p.length) (h6 : p.length < 6) : textOf p = [alph (num p * 2 ^ (6 - p.length))] := by
 rw [textOf, chunks6_short p h0 h6]; rfl
theorem bitsB_drop {b : List UInt8} {u : Nat} {x : UInt8} (h : u < b.length) (hx : b[u] = x) : bitsB (b.drop u) = bits8 x ++ bitsB (b.drop (u + 1)) := by
 rw [List.drop_eq_getElem_cons h, hx, bitsB_cons]
theorem num_bits8 (x : UInt8) : num (bits8 x) = x.toNat := by
 rw [bits8, num_bitsN, Nat.mod_eq_of_lt x.toNat_lt]
theorem push8 (p : List Bool) (r : Nat) (x : UInt8) (h : r % 2 ^ p.length = num p) : (r * 256 + x.toNat) % 2 ^ (p ++ bits8 x).length = num (p ++ bits8 x) := by
 have hx := x.toNat_lt
 rw [num_append, num_bits8, List.length_append, bits8_len, ← h, Nat.add_comm p.length 8, Nat.pow_add, Nat.mod_mul, Nat.mul_comm r, Nat.mul_comm (r % 2 ^ p.length)]
 have e1 : (256 * r + x.toNat) % 2 ^ 8 = x.toNat := by omega
 have e2 : (256 * r + x.toNat) / 2 ^ 8 = r := by omega
 rw [e1, e2]; omega
theorem enc_long (b : List UInt8) (hl : 4096 < b.length) (hl2 : b.length ≤ 9223372036854775807) (k : Nat) :
  ACall Tryz.prog 63 [.slice none (b.map byteAV)] k [] (.tup [strAV [], .lit (.int .i64 2)]) [] := by
 have h2 : (4096 : Int) < b.length := by omega
 have hs : strAV [] = .lit (.string ⟨#[]⟩) := rfl
 refine Bd Tryz.func63 Tryz.ntmps63 fun σ N hp hpn hk hkn hfree => ?_
 refine Wk ?_
 exact W0
theorem enc_core (b : List UInt8) (hl : b.length ≤ 4096) (k : Nat) :
  ACall Tryz.prog 63 [.slice none (b.map byteAV)] k [] (.tup [strAV (textS b), .lit (.int .i64 0)]) [] := by
 have h2 : ¬ (4096 : Int) < b.length := by omega
 refine Bd Tryz.func63 Tryz.ntmps63 fun σ N hp hpn hk hkn hfree => ?_
 refine Wk ?_
 refine ALoop.nilrow 4 5 1 (by simp (disch := omega) [go_sem, *, -List.reduceReplicate]) ?_
 refine go_loop (aloop mixed (by kernel_rfl) (fun c => ∃ (u r rid : Nat) (p : List Bool) (acc : List UInt8), c.s 12 = .slice none (b.map byteAV) ∧ c.s 13 = .lit (.int .i64 b.length) ∧ c.s 14 = .lit (.int .i64 u) ∧ u ≤ b.length ∧ c.s 5 = .lit (.int .i64 r) ∧ c.s 6 = .lit (.int .i64 p.length) ∧ c.s 4 = .slice (some rid) (acc.map byteAV) ∧ c.σ rid = .row 5 1 acc.length ∧ N ≤ rid ∧ rid < c.n ∧ N ≤ c.n ∧ (∀ id, id < N → c.σ id = σ id) ∧ p.length < 6 ∧ p.length % 2 = 0 ∧ r < 64 ∧ r % 2 ^ p.length = num p ∧ acc ++ textOf (p ++ bitsB (b.drop u)) = textS b)
  (fun c => match c.s 14 with | .lit (.int _ m) => b.length - m.toNat | _ => 0) ⟨0, 0, _, [], [], by simp (disch := omega) [go_sem, *, -List.reduceReplicate], by simp (disch := omega) [go_sem, *, -List.reduceReplicate], by simp (disch := omega) [go_sem, *, -List.reduceReplicate], by omega, by simp (disch := omega) [go_sem, *, -List.reduceReplicate], by simp (disch := omega) [go_sem, *, -List.reduceReplicate], by simp (disch := omega) [go_sem, *, -List.reduceReplicate]; rfl, by simp (disch := omega) [go_sem, *, -List.reduceReplicate], by omega, by simp only; omega, by simp only; omega, (fun id hid => by simp (disch := omega) only [upd_ne]; try exact hlow id hid), by simp, by simp, by omega, by simp [num_nil], by simp [textOf, textS]⟩ ?_)
 rintro ⟨s, σ', n'⟩ ⟨u, r, rid, p, acc, h12, h13, h14, hu, h5, h6, h4, hr, hNr, hrn, hn', hlow, hp6, hp2, hr64, hrp, htot⟩
 simp only at h12 h13 h14 h5 h6 h4 hr hNr hrn hn' hlow
 by_cases hul : u = b.length
 ·subst hul
  rw [List.drop_length, bitsB_nil, List.append_nil] at htot
  have hal := acc_len htot
  have hcases : p.length = 0 ∨ p.length = 2 ∨ p.length = 4 := by omega
  rcases hcases with h | h | h
  ·have hp0 : p = [] := List.length_eq_zero_iff.1 h
   subst hp0
   rw [textOf_nil, List.append_nil] at htot
   subst htot
   clear h
   have hstr : strAV (textS b) = .lit (.string ⟨(textS b).toArray⟩) := rfl
   generalize textS b = acc at *
   refine Wk ?_
   exact W0
  ·have hrp2 : r * 16 % 64 = num p * 16 := by rw [← hrp, h]; simp only [Nat.reducePow]; omega
   rw [textOf_short p (by omega) (by omega), h] at htot
   simp only [Nat.reduceSub, Nat.reducePow] at htot
   rw [← hrp2] at htot
   have hn64 : r * 16 % 64 < 64 := Nat.mod_lt _ (by omega)
   have hget := alph_get _ hn64
   have hand := i64_and63 ((r : Int) * 16) (by omega) (by omega)
   rw [show ((r : Int) * 16 % 64) = ((r * 16 % 64 : Nat) : Int) by omega] at hand
   generalize r * 16 % 64 = V6 at *
   have hby : byteAV (alph V6) = .lit (.int .u8 (alph V6).toNat) := rfl
   generalize alph V6 = ch at *
   have h6' : s 6 = .lit (.int .i64 2) := by rw [h6, h]; rfl
   clear h6 hrp hrp2
   rw [← htot]
   have hstr : strAV (acc ++ [ch]) = .lit (.string ⟨(acc ++ [ch]).toArray⟩) := rfl
   clear htot
   refine Wk ?_
   exact W0
  ·have hrp2 : r * 4 % 64 = num p * 4 := by rw [← hrp, h]; simp only [Nat.reducePow]; omega
   rw [textOf_short p (by omega) (by omega), h] at htot
   simp only [Nat.reduceSub, Nat.reducePow] at htot
   rw [← hrp2] at htot
   have hn64 : r * 4 % 64 < 64 := Nat.mod_lt _ (by omega)
   have hget := alph_get _ hn64
   have hand := i64_and63 ((r : Int) * 4) (by omega) (by omega)
   rw [show ((r : Int) * 4 % 64) = ((r * 4 % 64 : Nat) : Int) by omega] at hand
   generalize r * 4 % 64 = V6 at *
   have hby : byteAV (alph V6) = .lit (.int .u8 (alph V6).toNat) := rfl
   generalize alph V6 = ch at *
   have h6' : s 6 = .lit (.int .i64 4) := by rw [h6, h]; rfl
   clear h6 hrp hrp2
   rw [← htot]
   have hstr : strAV (acc ++ [ch]) = .lit (.string ⟨(acc ++ [ch]).toArray⟩) := rfl
   clear htot
   refine Wk ?_
   exact W0
 ·have hu2 : u < b.length := by omega
  obtain ⟨x, hx⟩ : ∃ x, b[u] = x := ⟨_, rfl⟩
  rw [bitsB_drop hu2 hx, ← List.append_assoc] at htot
  have hpush := push8 p r x hrp
  have hx256 := x.toNat_lt
  have hor := i64_or8 r x.toNat (by omega) (by omega)
  have hbx : byteAV x = .lit (.int .u8 x.toNat) := rfl
  have hpl : (p ++ bits8 x).length = p.length + 8 := by rw [List.length_append, bits8_len]
  have hr2 : r * 256 + x.toNat < 16384 := by omega
  have hp5 : p.length ≤ 4 := by omega
  generalize p ++ bits8 x = q at htot hpush hpl
  generalize r * 256 + x.toNat = r2 at hor hpush hr2
  clear hrp
  refine Wk ?_
  refine go_loop (aloop mixed (by kernel_rfl) (fun c => ∃ (rid : Nat) (q : List Bool) (acc : List UInt8), c.s 12 = .slice none (b.map byteAV) ∧ c.s 13 = .lit (.int .i64 b.length) ∧ c.s 14 = .lit (.int .i64 u) ∧ c.s 5 = .lit (.int .i64 r2) ∧ c.s 6 = .lit (.int .i64 q.length) ∧ c.s 4 = .slice (some rid) (acc.map byteAV) ∧ c.σ rid = .row 5 1 acc.length ∧ N ≤ rid ∧ rid < c.n ∧ N ≤ c.n ∧ (∀ id, id < N → c.σ id = σ id) ∧ q.length ≤ 12 ∧ q.length % 2 = 0 ∧ r2 % 2 ^ q.length = num q ∧ acc ++ textOf (q ++ bitsB (b.drop (u + 1))) = textS b)
   (fun c => match c.s 6 with | .lit (.int _ m) => m.toNat | _ => 0) ⟨rid, q, acc, by simp (disch := omega) [go_sem, *, -List.reduceReplicate], by simp (disch := omega) [go_sem, *, -List.reduceReplicate], by simp (disch := omega) [go_sem, *, -List.reduceReplicate], by simp (disch := omega) [go_sem, *, -List.reduceReplicate], by simp (disch := omega) [go_sem, *, -List.reduceReplicate], by simp (disch := omega) [go_sem, *, -List.reduceReplicate], by simp (disch := omega) [go_sem, *, -List.reduceReplicate], by omega, by simp only; omega, by simp only; omega, (fun id hid => by simp (disch := omega) only; try exact hlow id hid), by omega, by omega, hpush, htot⟩ ?_)
  clear htot hpush hlow hr hor hbx hpl hp5 hp2 hp6 h4 h6 h5
  rintro ⟨s, σ', n'⟩ ⟨rid, q, acc, h12, h13, h14, h5, h6, h4, hr, hNr, hrn, hn', hlow, hq12, hq2, hrq, htot⟩
  simp only at h12 h13 h14 h5 h6 h4 hr hNr hrn hn' hlow
  by_cases hq6 : q.length < 6
  ·have hq6i : (q.length : Int) < 6 := by omega
   have hand := i64_and63 r2 (by omega) (by omega)
   have hand2 : ((r2 : Int) % 64) = ((r2 % 64 : Nat) : Int) := by omega
   have hmod : r2 % 64 % 2 ^ q.length = num q := by
    rw [← hrq]
    have : q.length = 0 ∨ q.length = 2 ∨ q.length = 4 := by omega
    rcases this with h | h | h <;> rw [h] <;> omega
   have hr64' : r2 % 64 < 64 := by omega
   rw [hand2] at hand
   clear hand2 hrq
   generalize r2 % 64 = r3 at *
   refine Wk ?_
   refine ⟨⟨u + 1, r3, rid, q, acc, by simp (disch := omega) [go_sem, *, -List.reduceReplicate], by simp (disch := omega) [go_sem, *, -List.reduceReplicate], by simp (disch := omega) [go_sem, *, -List.reduceReplicate], by omega, by simp (disch := omega) [go_sem, *, -List.reduceReplicate], by simp (disch := omega) [go_sem, *, -List.reduceReplicate], by simp (disch := omega) [go_sem, *, -List.reduceReplicate], by simp (disch := omega) [go_sem, *, -List.reduceReplicate], by omega, by simp only; omega, by simp only; omega, (fun id hid => by simp (disch := omega) only; try exact hlow id hid), hq6, hq2, hr64', hmod, htot⟩, ?_⟩
   simp (disch := omega) [go_sem, *, -List.reduceReplicate]
   omega
  ·have hal := acc_len htot
   have hsix := textOf_six q (bitsB (b.drop (u + 1))) (by omega)
   rw [hsix] at htot
   have hcases : q.length = 6 ∨ q.length = 8 ∨ q.length = 10 ∨ q.length = 12 := by omega
   clear hsix hq6
   rcases hcases with h | h | h | h
   ·rw [h] at hrq
    have htk := take_num q r2 0 h hrq
    have hql : (q.drop 6).length = 0 := by rw [List.length_drop, h]
    have hdr : r2 % 2 ^ (q.drop 6).length = num (q.drop 6) := by rw [hql]; exact htk.2
    have htk1 := htk.1
    simp only [Nat.reducePow, Nat.div_one] at htk1
    rw [← htk1] at htot
    have hn64 : (r2) % 64 < 64 := Nat.mod_lt _ (by omega)
    have hv : (r2 : Int).fdiv 1 = ((r2 : Nat) : Int) := by rw [Int.fdiv_eq_ediv_of_nonneg _ (by omega)]; omega
    have hle : r2 < 16384 := by omega
    have hget := alph_get _ hn64
    generalize r2 = V at *
    have hand := i64_and63 (V : Int) (by omega) (by omega)
    rw [show ((V : Int) % 64) = ((V % 64 : Nat) : Int) by omega] at hand
    generalize V % 64 = V6 at *
    have hby : byteAV (alph V6) = .lit (.int .u8 (alph V6).toNat) := rfl
    generalize alph V6 = ch at *
    generalize q.drop 6 = q' at *
    clear htk htk1 hrq
    have h6' : s 6 = .lit (.int .i64 6) := by rw [h6, h]; rfl
    clear h6
    refine Wk ?_
    refine ⟨⟨rid, q', acc ++ [ch], by simp (disch := omega) [go_sem, *, -List.reduceReplicate], by simp (disch := omega) [go_sem, *, -List.reduceReplicate], by simp (disch := omega) [go_sem, *, -List.reduceReplicate], by simp (disch := omega) [go_sem, *, -List.reduceReplicate], by simp (disch := omega) [go_sem, *, -List.reduceReplicate], by simp (disch := omega) [go_sem, *, -List.reduceReplicate], by simp (disch := omega) [go_sem, *, -List.reduceReplicate], by omega, by simp only; omega, by simp only; omega, (fun id hid => by simp (disch := omega) only [upd_ne]; try exact hlow id hid), by omega, by omega, hdr, by rw [List.append_assoc]; exact htot⟩, ?_⟩
    simp (disch := omega) [go_sem, *, -List.reduceReplicate]
   ·rw [h] at hrq
    have htk := take_num q r2 2 h hrq
    have hql : (q.drop 6).length = 2 := by rw [List.length_drop, h]
    have hdr : r2 % 2 ^ (q.drop 6).length = num (q.drop 6) := by rw [hql]; exact htk.2
    have htk1 := htk.1
    simp only [Nat.reducePow] at htk1
    rw [← htk1] at htot
    have hn64 : (r2 / 4) % 64 < 64 := Nat.mod_lt _ (by omega)
    have hv : (r2 : Int).fdiv 4 = ((r2 / 4 : Nat) : Int) := by rw [Int.fdiv_eq_ediv_of_nonneg _ (by omega)]; omega
    have hle : r2 / 4 < 16384 := by omega
    have hget := alph_get _ hn64
    generalize r2 / 4 = V at *
    have hand := i64_and63 (V : Int) (by omega) (by omega)
    rw [show ((V : Int) % 64) = ((V % 64 : Nat) : Int) by omega] at hand
    generalize V % 64 = V6 at *
    have hby : byteAV (alph V6) = .lit (.int .u8 (alph V6).toNat) := rfl
    generalize alph V6 = ch at *
    generalize q.drop 6 = q' at *
    clear htk htk1 hrq
    have h6' : s 6 = .lit (.int .i64 8) := by rw [h6, h]; rfl
    clear h6
    refine Wk ?_
    refine ⟨⟨rid, q', acc ++ [ch], by simp (disch := omega) [go_sem, *, -List.reduceReplicate], by simp (disch := omega) [go_sem, *, -List.reduceReplicate], by simp (disch := omega) [go_sem, *, -List.reduceReplicate], by simp (disch := omega) [go_sem, *, -List.reduceReplicate], by simp (disch := omega) [go_sem, *, -List.reduceReplicate], by simp (disch := omega) [go_sem, *, -List.reduceReplicate], by simp (disch := omega) [go_sem, *, -List.reduceReplicate], by omega, by simp only; omega, by simp only; omega, (fun id hid => by simp (disch := omega) only [upd_ne]; try exact hlow id hid), by omega, by omega, hdr, by rw [List.append_assoc]; exact htot⟩, ?_⟩
    simp (disch := omega) [go_sem, *, -List.reduceReplicate]
   ·rw [h] at hrq
    have htk := take_num q r2 4 h hrq
    have hql : (q.drop 6).length = 4 := by rw [List.length_drop, h]
    have hdr : r2 % 2 ^ (q.drop 6).length = num (q.drop 6) := by rw [hql]; exact htk.2
    have htk1 := htk.1
    simp only [Nat.reducePow] at htk1
    rw [← htk1] at htot
    have hn64 : (r2 / 16) % 64 < 64 := Nat.mod_lt _ (by omega)
    have hv : (r2 : Int).fdiv 16 = ((r2 / 16 : Nat) : Int) := by rw [Int.fdiv_eq_ediv_of_nonneg _ (by omega)]; omega
    have hle : r2 / 16 < 16384 := by omega
    have hget := alph_get _ hn64
    generalize r2 / 16 = V at *
    have hand := i64_and63 (V : Int) (by omega) (by omega)
    rw [show ((V : Int) % 64) = ((V % 64 : Nat) : Int) by omega] at hand
    generalize V % 64 = V6 at *
    have hby : byteAV (alph V6) = .lit (.int .u8 (alph V6).toNat) := rfl
    generalize alph V6 = ch at *
    generalize q.drop 6 = q' at *
    clear htk htk1 hrq
    have h6' : s 6 = .lit (.int .i64 10) := by rw [h6, h]; rfl
    clear h6
    refine Wk ?_
    refine ⟨⟨rid, q', acc ++ [ch], by simp (disch := omega) [go_sem, *, -List.reduceReplicate], by simp (disch := omega) [go_sem, *, -List.reduceReplicate], by simp (disch := omega) [go_sem, *, -List.reduceReplicate], by simp (disch := omega) [go_sem, *, -List.reduceReplicate], by simp (disch := omega) [go_sem, *, -List.reduceReplicate], by simp (disch := omega) [go_sem, *, -List.reduceReplicate], by simp (disch := omega) [go_sem, *, -List.reduceReplicate], by omega, by simp only; omega, by simp only; omega, (fun id hid => by simp (disch := omega) only [upd_ne]; try exact hlow id hid), by omega, by omega, hdr, by rw [List.append_assoc]; exact htot⟩, ?_⟩
    simp (disch := omega) [go_sem, *, -List.reduceReplicate]
   ·rw [h] at hrq
    have htk := take_num q r2 6 h hrq
    have hql : (q.drop 6).length = 6 := by rw [List.length_drop, h]
    have hdr : r2 % 2 ^ (q.drop 6).length = num (q.drop 6) := by rw [hql]; exact htk.2
    have htk1 := htk.1
    simp only [Nat.reducePow] at htk1
    rw [← htk1] at htot
    have hn64 : (r2 / 64) % 64 < 64 := Nat.mod_lt _ (by omega)
    have hv : (r2 : Int).fdiv 64 = ((r2 / 64 : Nat) : Int) := by rw [Int.fdiv_eq_ediv_of_nonneg _ (by omega)]; omega
    have hle : r2 / 64 < 16384 := by omega
    have hget := alph_get _ hn64
    generalize r2 / 64 = V at *
    have hand := i64_and63 (V : Int) (by omega) (by omega)
    rw [show ((V : Int) % 64) = ((V % 64 : Nat) : Int) by omega] at hand
    generalize V % 64 = V6 at *
    have hby : byteAV (alph V6) = .lit (.int .u8 (alph V6).toNat) := rfl
    generalize alph V6 = ch at *
    generalize q.drop 6 = q' at *
    clear htk htk1 hrq
    have h6' : s 6 = .lit (.int .i64 12) := by rw [h6, h]; rfl
    clear h6
    refine Wk ?_
    refine ⟨⟨rid, q', acc ++ [ch], by simp (disch := omega) [go_sem, *, -List.reduceReplicate], by simp (disch := omega) [go_sem, *, -List.reduceReplicate], by simp (disch := omega) [go_sem, *, -List.reduceReplicate], by simp (disch := omega) [go_sem, *, -List.reduceReplicate], by simp (disch := omega) [go_sem, *, -List.reduceReplicate], by simp (disch := omega) [go_sem, *, -List.reduceReplicate], by simp (disch := omega) [go_sem, *, -List.reduceReplicate], by omega, by simp only; omega, by simp only; omega, (fun id hid => by simp (disch := omega) only [upd_ne]; try exact hlow id hid), by omega, by omega, hdr, by rw [List.append_assoc]; exact htot⟩, ?_⟩
    simp (disch := omega) [go_sem, *, -List.reduceReplicate]

def padded (b : List UInt8) (at_ : Nat) : List Bool := (bitsB b).drop at_ ++ List.replicate 6 false
theorem padded_take6 (b : List UInt8) (at_ : Nat) (h : at_ < 8 * b.length) : textOf ((bitsB b).drop at_) = alph (num ((padded b at_).take 6)) :: textOf ((bitsB b).drop (at_ + 6)) := by
 have hl := bitsB_len b
 have hd : ((bitsB b).drop at_).length = 8 * b.length - at_ := by rw [List.length_drop, hl]
 have hne : (bitsB b).drop at_ ≠ [] := by intro hh; rw [hh] at hd; simp at hd; omega
 rw [textOf, chunks6, dif_neg hne, List.map_cons, List.drop_drop, textOf]
 congr 3
 rw [padded, List.take_append, List.take_replicate]
 congr 2
 omega
theorem padded_succ (b : List UInt8) (at_ t : Nat) (_ht : t < 6) (c : Bool) (hc : (padded b at_)[t]? = some c) : num ((padded b at_).take (t + 1)) = 2 * num ((padded b at_).take t) + c.toNat := by
 rw [List.take_add_one, hc]; exact num_snoc _ _
theorem padded_in (b : List UInt8) (at_ t : Nat) (x : UInt8) (h : at_ + t < 8 * b.length) (hx : b[(at_ + t) / 8]? = some x) : (padded b at_)[t]? = some (x.toNat / 2 ^ (7 - (at_ + t) % 8) % 2 == 1) := by
 have hl := bitsB_len b
 rw [padded, List.getElem?_append_left (by rw [List.length_drop, hl]; omega), List.getElem?_drop, bitsB_get b _ x hx]
theorem padded_out (b : List UInt8) (at_ t : Nat) (h : ¬ at_ + t < 8 * b.length) (ht : t < 6) : (padded b at_)[t]? = some false := by
 have hl := bitsB_len b
 rw [padded, List.getElem?_append_right (by rw [List.length_drop, hl]; omega), List.length_drop, hl, List.getElem?_replicate, if_pos (by omega)]
theorem text_long (b : List UInt8) (hl : 4096 < b.length) (hl2 : b.length ≤ 9223372036854775807) (k : Nat) :
  ACall Tryz.prog 48 [.slice none (b.map byteAV)] k [] (.tup [strAV [], .lit (.int .i64 2)]) [] := by
 have h2 : (4096 : Int) < b.length := by omega
 have hs : strAV [] = .lit (.string ⟨#[]⟩) := rfl
 refine Bd Tryz.func48 Tryz.ntmps48 fun σ N hp hpn hk hkn hfree => ?_
 refine Wk ?_
 exact W0
set_option maxHeartbeats 4000000 in
theorem text_core (b : List UInt8) (hl : b.length ≤ 4096) (k : Nat) :
  ACall Tryz.prog 48 [.slice none (b.map byteAV)] k [] (.tup [strAV (textS b), .lit (.int .i64 0)]) [] := by
 have h2 : ¬ (4096 : Int) < b.length := by omega
 refine Bd Tryz.func48 Tryz.ntmps48 fun σ N hp hpn hk hkn hfree => ?_
 refine Wk ?_
 refine ALoop.nilrow 4 5 1 (by simp (disch := omega) [go_sem, *, -List.reduceReplicate]) ?_
 refine go_loop (aloop mixed (by kernel_rfl) (fun c => ∃ (at_ rid : Nat) (acc : List UInt8), c.s 0 = .slice none (b.map byteAV) ∧ c.s 5 = .lit (.int .i64 at_) ∧ at_ ≤ 8 * b.length + 6 ∧ c.s 4 = .slice (some rid) (acc.map byteAV) ∧ c.σ rid = .row 5 1 acc.length ∧ N ≤ rid ∧ rid < c.n ∧ N ≤ c.n ∧ (∀ id, id < N → c.σ id = σ id) ∧ acc ++ textOf ((bitsB b).drop at_) = textS b)
  (fun c => match c.s 5 with | .lit (.int _ m) => 8 * b.length + 6 - m.toNat | _ => 0) ⟨0, _, [], by simp (disch := omega) [go_sem, *, -List.reduceReplicate], by simp (disch := omega) [go_sem, *, -List.reduceReplicate], by omega, by simp (disch := omega) [go_sem, *, -List.reduceReplicate]; rfl, by simp (disch := omega) [go_sem, *, -List.reduceReplicate], by omega, by simp only; omega, by simp only; omega, (fun id hid => by simp (disch := omega) only [upd_ne]; try exact hlow id hid), by simp [textOf, textS]⟩ ?_)
 rintro ⟨s, σ', n'⟩ ⟨at_, rid, acc, h0, h5, ha, h4, hr, hNr, hrn, hn', hlow, htot⟩
 simp only at h0 h5 h4 hr hNr hrn hn' hlow
 have hal := acc_len htot
 by_cases hat : at_ < 8 * b.length
 ·have hati : (at_ : Int) < 8 * (b.length : Int) := by omega
  rw [padded_take6 b at_ hat] at htot
  refine Wk ?_
  refine go_loop (aloop mixed (by kernel_rfl) (fun c => ∃ (rid t i v : Nat), c.s 0 = .slice none (b.map byteAV) ∧ c.s 5 = .lit (.int .i64 at_) ∧ c.s 7 = .lit (.int .i64 i) ∧ c.s 6 = .lit (.int .i64 v) ∧ at_ + t = i ∧ t ≤ 6 ∧ v = num ((padded b at_).take t) ∧ c.s 4 = .slice (some rid) (acc.map byteAV) ∧ c.σ rid = .row 5 1 acc.length ∧ N ≤ rid ∧ rid < c.n ∧ N ≤ c.n ∧ (∀ id, id < N → c.σ id = σ id))
   (fun c => match c.s 7 with | .lit (.int _ m) => at_ + 6 - m.toNat | _ => 0) ⟨rid, 0, at_, 0, by simp (disch := omega) [go_sem, *, -List.reduceReplicate], by simp (disch := omega) [go_sem, *, -List.reduceReplicate], by simp (disch := omega) [go_sem, *, -List.reduceReplicate], by simp (disch := omega) [go_sem, *, -List.reduceReplicate], by omega, by omega, by rfl, by simp (disch := omega) [go_sem, *, -List.reduceReplicate], by simp (disch := omega) [go_sem, *, -List.reduceReplicate], by omega, by simp only; omega, by simp only; omega, (fun id hid => by simp (disch := omega) only; try exact hlow id hid)⟩ ?_)
  clear hlow hr h4 h0
  rintro ⟨s, σ', n'⟩ ⟨rid, t, i, v, h0, h5, h7, h6, hit, ht6, hv, h4, hr, hNr, hrn, hn', hlow⟩
  simp only at h0 h5 h7 h6 h4 hr hNr hrn hn' hlow
  have hvlt : v < 64 := by
   have h1 := num_lt ((padded b at_).take t)
   rw [← hv, List.length_take] at h1
   have h2 : 2 ^ min t (padded b at_).length ≤ 2 ^ 6 := Nat.pow_le_pow_right (by omega) (by omega)
   omega
  by_cases ht : t = 6
  ·subst ht
   rw [← hv] at htot
   have hget := alph_get v hvlt
   have hby : byteAV (alph v) = .lit (.int .u8 (alph v).toNat) := rfl
   generalize alph v = ch at *
   have hni : ¬ (i : Int) < (at_ : Int) + 6 := by omega
   have hiti : (at_ : Int) + 6 = i := by omega
   clear hv
   refine Wk ?_
   refine ⟨⟨at_ + 6, rid, acc ++ [ch], by simp (disch := omega) [go_sem, *, -List.reduceReplicate], by simp (disch := omega) [go_sem, *, -List.reduceReplicate], by omega, by simp (disch := omega) [go_sem, *, -List.reduceReplicate], by simp (disch := omega) [go_sem, *, -List.reduceReplicate], by omega, by simp only; omega, by simp only; omega, (fun id hid => by simp (disch := omega) only [upd_ne]; try exact hlow id hid), by rw [List.append_assoc]; exact htot⟩, ?_⟩
   simp (disch := omega) [go_sem, *, -List.reduceReplicate]
   omega
  ·have hii : (i : Int) < (at_ : Int) + 6 := by omega
   clear htot
   by_cases hib : i < 8 * b.length
   ·have hibi : (i : Int) < 8 * (b.length : Int) := by omega
    have hi8 : i / 8 < b.length := by omega
    have htd : (i : Int).tdiv 8 = ((i / 8 : Nat) : Int) := by rw [Int.tdiv_eq_ediv_of_nonneg (by omega)]; omega
    obtain ⟨x, hx⟩ : ∃ x, b[i / 8] = x := ⟨_, rfl⟩
    have hxx : b[(at_ + t) / 8]? = some x := by rw [hit, List.getElem?_eq_getElem hi8, hx]
    have hbx : byteAV x = .lit (.int .u8 x.toNat) := rfl
    generalize hj : i / 8 = j at *
    have hmc : i % 8 = 0 ∨ i % 8 = 1 ∨ i % 8 = 2 ∨ i % 8 = 3 ∨ i % 8 = 4 ∨ i % 8 = 5 ∨ i % 8 = 6 ∨ i % 8 = 7 := by omega
    rcases hmc with hm | hm | hm | hm | hm | hm | hm | hm
    ·have hx2 : i % 8 = 0 := hm
     have hc := padded_in b at_ t x (by omega) hxx
     rw [hit, hx2] at hc
     simp only [Nat.reduceSub, Nat.reducePow] at hc
     have hs := padded_succ b at_ t (by omega) _ hc
     rw [beq1_toNat _ (Nat.mod_lt _ (by omega)), ← hv] at hs
     have hxl := x.toNat_lt
     have htm : (i : Int).tmod 8 = 0 := by rw [Int.tmod_eq_emod_of_nonneg (by omega)]; omega
     have hfd : (x.toNat : Int).fdiv 128 = ((x.toNat / 128 : Nat) : Int) := by rw [Int.fdiv_eq_ediv_of_nonneg _ (by omega)]; omega
     have hble : x.toNat / 128 < 256 := by omega
     generalize x.toNat / 128 = w at hs hfd hble
     have htm2 : (w : Int).tmod 2 = ((w % 2 : Nat) : Int) := by rw [Int.tmod_eq_emod_of_nonneg (by omega)]; omega
     have hw2 : w % 2 < 2 := Nat.mod_lt _ (by omega)
     generalize w % 2 = bt at hs htm2 hw2
     clear hc hm hx2 hv hxx
     refine Wk ?_
     refine ⟨⟨rid, t + 1, i + 1, 2 * v + bt, by simp (disch := omega) [go_sem, *, -List.reduceReplicate], by simp (disch := omega) [go_sem, *, -List.reduceReplicate], by simp (disch := omega) [go_sem, *, -List.reduceReplicate], by simp (disch := omega) [go_sem, *, -List.reduceReplicate], by omega, by omega, by rw [hs], by simp (disch := omega) [go_sem, *, -List.reduceReplicate], by simp (disch := omega) [go_sem, *, -List.reduceReplicate], hNr, by simp only; omega, by simp only; omega, (fun id hid => by simp (disch := omega) only; try exact hlow id hid)⟩, ?_⟩
     simp (disch := omega) [go_sem, *, -List.reduceReplicate]
     omega
    ·have hx2 : i % 8 = 1 := hm
     have hc := padded_in b at_ t x (by omega) hxx
     rw [hit, hx2] at hc
     simp only [Nat.reduceSub, Nat.reducePow] at hc
     have hs := padded_succ b at_ t (by omega) _ hc
     rw [beq1_toNat _ (Nat.mod_lt _ (by omega)), ← hv] at hs
     have hxl := x.toNat_lt
     have htm : (i : Int).tmod 8 = 1 := by rw [Int.tmod_eq_emod_of_nonneg (by omega)]; omega
     have hfd : (x.toNat : Int).fdiv 64 = ((x.toNat / 64 : Nat) : Int) := by rw [Int.fdiv_eq_ediv_of_nonneg _ (by omega)]; omega
     have hble : x.toNat / 64 < 256 := by omega
     generalize x.toNat / 64 = w at hs hfd hble
     have htm2 : (w : Int).tmod 2 = ((w % 2 : Nat) : Int) := by rw [Int.tmod_eq_emod_of_nonneg (by omega)]; omega
     have hw2 : w % 2 < 2 := Nat.mod_lt _ (by omega)
     generalize w % 2 = bt at hs htm2 hw2
     clear hc hm hx2 hv hxx
     refine Wk ?_
     refine ⟨⟨rid, t + 1, i + 1, 2 * v + bt, by simp (disch := omega) [go_sem, *, -List.reduceReplicate], by simp (disch := omega) [go_sem, *, -List.reduceReplicate], by simp (disch := omega) [go_sem, *, -List.reduceReplicate], by simp (disch := omega) [go_sem, *, -List.reduceReplicate], by omega, by omega, by rw [hs], by simp (disch := omega) [go_sem, *, -List.reduceReplicate], by simp (disch := omega) [go_sem, *, -List.reduceReplicate], hNr, by simp only; omega, by simp only; omega, (fun id hid => by simp (disch := omega) only; try exact hlow id hid)⟩, ?_⟩
     simp (disch := omega) [go_sem, *, -List.reduceReplicate]
     omega
    ·have hx2 : i % 8 = 2 := hm
     have hc := padded_in b at_ t x (by omega) hxx
     rw [hit, hx2] at hc
     simp only [Nat.reduceSub, Nat.reducePow] at hc
     have hs := padded_succ b at_ t (by omega) _ hc
     rw [beq1_toNat _ (Nat.mod_lt _ (by omega)), ← hv] at hs
     have hxl := x.toNat_lt
     have htm : (i : Int).tmod 8 = 2 := by rw [Int.tmod_eq_emod_of_nonneg (by omega)]; omega
     have hfd : (x.toNat : Int).fdiv 32 = ((x.toNat / 32 : Nat) : Int) := by rw [Int.fdiv_eq_ediv_of_nonneg _ (by omega)]; omega
     have hble : x.toNat / 32 < 256 := by omega
     generalize x.toNat / 32 = w at hs hfd hble
     have htm2 : (w : Int).tmod 2 = ((w % 2 : Nat) : Int) := by rw [Int.tmod_eq_emod_of_nonneg (by omega)]; omega
     have hw2 : w % 2 < 2 := Nat.mod_lt _ (by omega)
     generalize w % 2 = bt at hs htm2 hw2
     clear hc hm hx2 hv hxx
     refine Wk ?_
     refine ⟨⟨rid, t + 1, i + 1, 2 * v + bt, by simp (disch := omega) [go_sem, *, -List.reduceReplicate], by simp (disch := omega) [go_sem, *, -List.reduceReplicate], by simp (disch := omega) [go_sem, *, -List.reduceReplicate], by simp (disch := omega) [go_sem, *, -List.reduceReplicate], by omega, by omega, by rw [hs], by simp (disch := omega) [go_sem, *, -List.reduceReplicate], by simp (disch := omega) [go_sem, *, -List.reduceReplicate], hNr, by simp only; omega, by simp only; omega, (fun id hid => by simp (disch := omega) only; try exact hlow id hid)⟩, ?_⟩
     simp (disch := omega) [go_sem, *, -List.reduceReplicate]
     omega
    ·have hx2 : i % 8 = 3 := hm
     have hc := padded_in b at_ t x (by omega) hxx
     rw [hit, hx2] at hc
     simp only [Nat.reduceSub, Nat.reducePow] at hc
     have hs := padded_succ b at_ t (by omega) _ hc
     rw [beq1_toNat _ (Nat.mod_lt _ (by omega)), ← hv] at hs
     have hxl := x.toNat_lt
     have htm : (i : Int).tmod 8 = 3 := by rw [Int.tmod_eq_emod_of_nonneg (by omega)]; omega
     have hfd : (x.toNat : Int).fdiv 16 = ((x.toNat / 16 : Nat) : Int) := by rw [Int.fdiv_eq_ediv_of_nonneg _ (by omega)]; omega
     have hble : x.toNat / 16 < 256 := by omega
     generalize x.toNat / 16 = w at hs hfd hble
     have htm2 : (w : Int).tmod 2 = ((w % 2 : Nat) : Int) := by rw [Int.tmod_eq_emod_of_nonneg (by omega)]; omega
     have hw2 : w % 2 < 2 := Nat.mod_lt _ (by omega)
     generalize w % 2 = bt at hs htm2 hw2
     clear hc hm hx2 hv hxx
     refine Wk ?_
     refine ⟨⟨rid, t + 1, i + 1, 2 * v + bt, by simp (disch := omega) [go_sem, *, -List.reduceReplicate], by simp (disch := omega) [go_sem, *, -List.reduceReplicate], by simp (disch := omega) [go_sem, *, -List.reduceReplicate], by simp (disch := omega) [go_sem, *, -List.reduceReplicate], by omega, by omega, by rw [hs], by simp (disch := omega) [go_sem, *, -List.reduceReplicate], by simp (disch := omega) [go_sem, *, -List.reduceReplicate], hNr, by simp only; omega, by simp only; omega, (fun id hid => by simp (disch := omega) only; try exact hlow id hid)⟩, ?_⟩
     simp (disch := omega) [go_sem, *, -List.reduceReplicate]
     omega
    ·have hx2 : i % 8 = 4 := hm
     have hc := padded_in b at_ t x (by omega) hxx
     rw [hit, hx2] at hc
     simp only [Nat.reduceSub, Nat.reducePow] at hc
     have hs := padded_succ b at_ t (by omega) _ hc
     rw [beq1_toNat _ (Nat.mod_lt _ (by omega)), ← hv] at hs
     have hxl := x.toNat_lt
     have htm : (i : Int).tmod 8 = 4 := by rw [Int.tmod_eq_emod_of_nonneg (by omega)]; omega
     have hfd : (x.toNat : Int).fdiv 8 = ((x.toNat / 8 : Nat) : Int) := by rw [Int.fdiv_eq_ediv_of_nonneg _ (by omega)]; omega
     have hble : x.toNat / 8 < 256 := by omega
     generalize x.toNat / 8 = w at hs hfd hble
     have htm2 : (w : Int).tmod 2 = ((w % 2 : Nat) : Int) := by rw [Int.tmod_eq_emod_of_nonneg (by omega)]; omega
     have hw2 : w % 2 < 2 := Nat.mod_lt _ (by omega)
     generalize w % 2 = bt at hs htm2 hw2
     clear hc hm hx2 hv hxx
     refine Wk ?_
     refine ⟨⟨rid, t + 1, i + 1, 2 * v + bt, by simp (disch := omega) [go_sem, *, -List.reduceReplicate], by simp (disch := omega) [go_sem, *, -List.reduceReplicate], by simp (disch := omega) [go_sem, *, -List.reduceReplicate], by simp (disch := omega) [go_sem, *, -List.reduceReplicate], by omega, by omega, by rw [hs], by simp (disch := omega) [go_sem, *, -List.reduceReplicate], by simp (disch := omega) [go_sem, *, -List.reduceReplicate], hNr, by simp only; omega, by simp only; omega, (fun id hid => by simp (disch := omega) only; try exact hlow id hid)⟩, ?_⟩
     simp (disch := omega) [go_sem, *, -List.reduceReplicate]
     omega
    ·have hx2 : i % 8 = 5 := hm
     have hc := padded_in b at_ t x (by omega) hxx
     rw [hit, hx2] at hc
     simp only [Nat.reduceSub, Nat.reducePow] at hc
     have hs := padded_succ b at_ t (by omega) _ hc
     rw [beq1_toNat _ (Nat.mod_lt _ (by omega)), ← hv] at hs
     have hxl := x.toNat_lt
     have htm : (i : Int).tmod 8 = 5 := by rw [Int.tmod_eq_emod_of_nonneg (by omega)]; omega
     have hfd : (x.toNat : Int).fdiv 4 = ((x.toNat / 4 : Nat) : Int) := by rw [Int.fdiv_eq_ediv_of_nonneg _ (by omega)]; omega
     have hble : x.toNat / 4 < 256 := by omega
     generalize x.toNat / 4 = w at hs hfd hble
     have htm2 : (w : Int).tmod 2 = ((w % 2 : Nat) : Int) := by rw [Int.tmod_eq_emod_of_nonneg (by omega)]; omega
     have hw2 : w % 2 < 2 := Nat.mod_lt _ (by omega)
     generalize w % 2 = bt at hs htm2 hw2
     clear hc hm hx2 hv hxx
     refine Wk ?_
     refine ⟨⟨rid, t + 1, i + 1, 2 * v + bt, by simp (disch := omega) [go_sem, *, -List.reduceReplicate], by simp (disch := omega) [go_sem, *, -List.reduceReplicate], by simp (disch := omega) [go_sem, *, -List.reduceReplicate], by simp (disch := omega) [go_sem, *, -List.reduceReplicate], by omega, by omega, by rw [hs], by simp (disch := omega) [go_sem, *, -List.reduceReplicate], by simp (disch := omega) [go_sem, *, -List.reduceReplicate], hNr, by simp only; omega, by simp only; omega, (fun id hid => by simp (disch := omega) only; try exact hlow id hid)⟩, ?_⟩
     simp (disch := omega) [go_sem, *, -List.reduceReplicate]
     omega
    ·have hx2 : i % 8 = 6 := hm
     have hc := padded_in b at_ t x (by omega) hxx
     rw [hit, hx2] at hc
     simp only [Nat.reduceSub, Nat.reducePow] at hc
     have hs := padded_succ b at_ t (by omega) _ hc
     rw [beq1_toNat _ (Nat.mod_lt _ (by omega)), ← hv] at hs
     have hxl := x.toNat_lt
     have htm : (i : Int).tmod 8 = 6 := by rw [Int.tmod_eq_emod_of_nonneg (by omega)]; omega
     have hfd : (x.toNat : Int).fdiv 2 = ((x.toNat / 2 : Nat) : Int) := by rw [Int.fdiv_eq_ediv_of_nonneg _ (by omega)]; omega
     have hble : x.toNat / 2 < 256 := by omega
     generalize x.toNat / 2 = w at hs hfd hble
     have htm2 : (w : Int).tmod 2 = ((w % 2 : Nat) : Int) := by rw [Int.tmod_eq_emod_of_nonneg (by omega)]; omega
     have hw2 : w % 2 < 2 := Nat.mod_lt _ (by omega)
     generalize w % 2 = bt at hs htm2 hw2
     clear hc hm hx2 hv hxx
     refine Wk ?_
     refine ⟨⟨rid, t + 1, i + 1, 2 * v + bt, by simp (disch := omega) [go_sem, *, -List.reduceReplicate], by simp (disch := omega) [go_sem, *, -List.reduceReplicate], by simp (disch := omega) [go_sem, *, -List.reduceReplicate], by simp (disch := omega) [go_sem, *, -List.reduceReplicate], by omega, by omega, by rw [hs], by simp (disch := omega) [go_sem, *, -List.reduceReplicate], by simp (disch := omega) [go_sem, *, -List.reduceReplicate], hNr, by simp only; omega, by simp only; omega, (fun id hid => by simp (disch := omega) only; try exact hlow id hid)⟩, ?_⟩
     simp (disch := omega) [go_sem, *, -List.reduceReplicate]
     omega
    ·have hx2 : i % 8 = 7 := hm
     have hc := padded_in b at_ t x (by omega) hxx
     rw [hit, hx2] at hc
     simp only [Nat.reduceSub, Nat.reducePow, Nat.div_one] at hc
     have hs := padded_succ b at_ t (by omega) _ hc
     rw [beq1_toNat _ (Nat.mod_lt _ (by omega)), ← hv] at hs
     have hxl := x.toNat_lt
     have htm : (i : Int).tmod 8 = 7 := by rw [Int.tmod_eq_emod_of_nonneg (by omega)]; omega
     have hfd : (x.toNat : Int).fdiv 1 = ((x.toNat : Nat) : Int) := by rw [Int.fdiv_eq_ediv_of_nonneg _ (by omega)]; omega
     have hble : x.toNat < 256 := by omega
     generalize x.toNat = w at hs hfd hble hbx
     have htm2 : (w : Int).tmod 2 = ((w % 2 : Nat) : Int) := by rw [Int.tmod_eq_emod_of_nonneg (by omega)]; omega
     have hw2 : w % 2 < 2 := Nat.mod_lt _ (by omega)
     generalize w % 2 = bt at hs htm2 hw2
     clear hc hm hx2 hv hxx
     refine Wk ?_
     refine ⟨⟨rid, t + 1, i + 1, 2 * v + bt, by simp (disch := omega) [go_sem, *, -List.reduceReplicate], by simp (disch := omega) [go_sem, *, -List.reduceReplicate], by simp (disch := omega) [go_sem, *, -List.reduceReplicate], by simp (disch := omega) [go_sem, *, -List.reduceReplicate], by omega, by omega, by rw [hs], by simp (disch := omega) [go_sem, *, -List.reduceReplicate], by simp (disch := omega) [go_sem, *, -List.reduceReplicate], hNr, by simp only; omega, by simp only; omega, (fun id hid => by simp (disch := omega) only; try exact hlow id hid)⟩, ?_⟩
     simp (disch := omega) [go_sem, *, -List.reduceReplicate]
     omega
   ·have hibi : ¬ (i : Int) < 8 * (b.length : Int) := by omega
    have hs := padded_succ b at_ t (by omega) _ (padded_out b at_ t (by omega) (by omega))
    rw [← hv, Bool.toNat_false, Nat.add_zero] at hs
    clear hv
    refine Wk ?_
    refine ⟨⟨rid, t + 1, i + 1, 2 * v, by simp (disch := omega) [go_sem, *, -List.reduceReplicate], by simp (disch := omega) [go_sem, *, -List.reduceReplicate], by simp (disch := omega) [go_sem, *, -List.reduceReplicate], by simp (disch := omega) [go_sem, *, -List.reduceReplicate], by omega, by omega, by omega, by simp (disch := omega) [go_sem, *, -List.reduceReplicate], by simp (disch := omega) [go_sem, *, -List.reduceReplicate], hNr, by simp only; omega, by simp only; omega, (fun id hid => by simp (disch := omega) only; try exact hlow id hid)⟩, ?_⟩
    simp (disch := omega) [go_sem, *, -List.reduceReplicate]
    omega
 ·have hati : ¬ (at_ : Int) < 8 * (b.length : Int) := by omega
  have hd : (bitsB b).drop at_ = [] := List.drop_eq_nil_of_le (by rw [bitsB_len]; omega)
  rw [hd, textOf_nil, List.append_nil] at htot
  subst htot
  have hstr : strAV (textS b) = .lit (.string ⟨(textS b).toArray⟩) := rfl
  generalize textS b = acc at *
  clear hd
  refine Wk ?_
  exact W0

def encT (b : List UInt8) : List UInt8 × Nat := if 4096 < b.length then ([], 2) else (textS b, 0)
theorem EncT_spec (b : List UInt8) (hl : b.length ≤ 9223372036854775807) (k : Nat) :
  ACall Tryz.prog 63 [.slice none (b.map byteAV)] k [] (.tup [strAV (encT b).1, .lit (.int .i64 (encT b).2)]) [] := by
 unfold encT
 by_cases h : 4096 < b.length
 ·rw [if_pos h]; exact enc_long b h hl k
 ·rw [if_neg h]; exact enc_core b (by omega) k
theorem TextT_spec (b : List UInt8) (hl : b.length ≤ 9223372036854775807) (k : Nat) :
  ACall Tryz.prog 48 [.slice none (b.map byteAV)] k [] (.tup [strAV (encT b).1, .lit (.int .i64 (encT b).2)]) [] := by
 unfold encT
 by_cases h : 4096 < b.length
 ·rw [if_pos h]; exact text_long b h hl k
 ·rw [if_neg h]; exact text_core b (by omega) k

def txtB (b : Bu) : List UInt8 × Nat := if (encBS b).2 = 0 then encT (encBS b).1 else ([], (encBS b).2)
theorem encBS_len (b : Bu) (hb : BuIn b) : (encBS b).1.length ≤ 4096 := by
 unfold encBS
 split
 ·rename_i h; exact (chk_valid hb h).2
 ·simp
theorem BText_spec (b : Bu) (hb : BuIn b) (d k : Nat) : ACall Tryz.prog 22 [buAV b] k [(d, bitsG)] (.tup [strAV (txtB b).1, .lit (.int .i64 (txtB b).2)]) [] := by
 have c1 := EncodeB_spec b hb d
 have hl := encBS_len b hb
 unfold txtB
 generalize encBS b = X at *
 obtain ⟨x, e⟩ := X
 unfold encAV at c1
 simp only at c1 hl ⊢
 have c2 := EncT_spec x (by omega)
 clear hb
 by_cases h : e = 0
 ·subst h
  rw [if_pos rfl]
  generalize encT x = Y at *
  obtain ⟨y, f⟩ := Y
  refine Bd Tryz.func22 Tryz.ntmps22 fun σ N hp hpn hk hkn hfree => ?_
  obtain ⟨hd, hdn⟩ := HD0 hp hpn; clear hp hpn
  have hcs := And.intro c1 (And.intro c2 True.intro)
  clear c1 c2
  exact W0
 ·have hei : ((e : Int) != 0) = true := by simp; omega
  rw [if_neg h]
  clear c2
  have hz : strAV [] = .lit (.string ⟨#[]⟩) := rfl
  simp only
  refine Bd Tryz.func22 Tryz.ntmps22 fun σ N hp hpn hk hkn hfree => ?_
  obtain ⟨hd, hdn⟩ := HD0 hp hpn; clear hp hpn
  have hcs := And.intro c1 True.intro
  clear c1
  exact W0
theorem RText_spec (b : Bu) (hb : BuIn b) (k : Nat) : ACall Tryz.prog 23 [buAV b] k [] (.tup [strAV (txtB b).1, .lit (.int .i64 (txtB b).2)]) [] := by
 have c1 := refEncB_spec b hb
 have hl := encBS_len b hb
 unfold txtB
 generalize encBS b = X at *
 obtain ⟨x, e⟩ := X
 unfold encAV at c1
 simp only at c1 hl ⊢
 have c2 := TextT_spec x (by omega)
 clear hb
 by_cases h : e = 0
 ·subst h
  rw [if_pos rfl]
  generalize encT x = Y at *
  obtain ⟨y, f⟩ := Y
  refine Bd Tryz.func23 Tryz.ntmps23 fun σ N hp hpn hk hkn hfree => ?_
  have hcs := And.intro c1 (And.intro c2 True.intro)
  clear c1 c2
  exact W0
 ·have hei : ((e : Int) != 0) = true := by simp; omega
  rw [if_neg h]
  clear c2
  have hz : strAV [] = .lit (.string ⟨#[]⟩) := rfl
  simp only
  refine Bd Tryz.func23 Tryz.ntmps23 fun σ N hp hpn hk hkn hfree => ?_
  have hcs := And.intro c1 True.intro
  clear c1
  exact W0
end Go.Proofs.YtemmlldpmgfblaaGreatDoor

namespace Go.Proofs.YtemmlldpmgfblaaGreatDoor
open Go.Ab
attribute [local irreducible] Go.Ab.tyAV Go.Ab.aw Go.Ab.aops Go.Ab.kReg Go.Ab.aThen Go.Ab.aBlk Go.Ab.acond Go.Ab.aguard Go.Ab.astep Go.Ab.AStepX Go.Ab.aRet
attribute [local irreducible] shaG
def Asks (d : Nat) (b : Bu) : Prop := ∃ (x : List UInt8) (e : Nat) (y : List UInt8) (f : Nat), x.length ≤ 4096 ∧
 (∀ k, ACall Tryz.prog 20 [buAV b] k [(d, bitsG)] (.tup [.slice none (x.map byteAV), .lit (.int .i64 (e : Nat))]) []) ∧
 (∀ k, ACall Tryz.prog 21 [buAV b] k [] (.tup [.slice none (x.map byteAV), .lit (.int .i64 (e : Nat))]) []) ∧
 (∀ k, ACall Tryz.prog 22 [buAV b] k [(d, bitsG)] (.tup [strAV y, .lit (.int .i64 (f : Nat))]) []) ∧
 (∀ k, ACall Tryz.prog 23 [buAV b] k [] (.tup [strAV y, .lit (.int .i64 (f : Nat))]) [])
theorem asks (d : Nat) (b : Bu) (hb : BuIn b) : Asks d b :=
 ⟨(encBS b).1, (encBS b).2, (txtB b).1, (txtB b).2, encBS_len b hb, EncodeB_spec b hb d, refEncB_spec b hb, BText_spec b hb d, RText_spec b hb⟩
section
variable [W : W32]
set_option maxHeartbeats 8000000 in
theorem BundleEncode_core (b : Bu) (hb : BuW b) (xs ys : List Int) (hx : xs.length ≤ 9223372036854775807) (hy : ys.length ≤ 9223372036854775807) (x : Int) (d k : Nat) :
  ACall Tryz.prog 4 [buAV b, .slice none (xs.map intAV), .slice none (ys.map intAV), .lit (.int .i64 x)] k [(d, bitsG)] (.lit (.bool true)) [] := by
 have c1 := few_spec b hb.cl hb.dl
 have c9 := awake16_spec d
 cases hf : (decide (b.cavs.length ≤ 80) && decide (b.dis.length ≤ 20)) with
 | false =>
  rw [hf] at c1
  clear hb hf
  refine Bd Tryz.func4 Tryz.ntmps4 fun σ N hp hpn hk hkn hfree => ?_
  obtain ⟨hd, hdn⟩ := HD0 hp hpn; clear hp hpn
  have hcs := And.intro c1 (And.intro c9 True.intro)
  clear c1 c9
  exact W0
 | true =>
  rw [hf] at c1
  have hB := hb.fewIn hf
  obtain ⟨s, j, hs, hj, c2⟩ := made_spec xs hx
  obtain ⟨_, _, h3, _, _⟩ := bunS_ok hs
  have hq1 : (bunS s).2.cavs.length ≤ 10 := by
   obtain ⟨⟨se, hG, _⟩, _⟩ := hs
   exact Nat.le_trans hG.cl (by omega)
  have hq2 : (bunS s).2.dis.length ≤ 10 := by
   obtain ⟨⟨se, hG, _⟩, _⟩ := hs
   have hl : (bunS s).2.dis.length = s.grants.length := by
    unfold bunS presS; simp only; rw [bindL_len]; simp
   rw [hl]; exact Nat.le_trans hG.gl (by omega)
  have c3 := New_spec ys
  have hy0 : Dk ys 0 := ⟨hy, Nat.zero_le _⟩
  obtain ⟨b3, j3, h5, _, c4⟩ := spoil16_ex (bunS s).2 h3 hq1 hq2 ys 0 hy0 x
  have e1 := asks d (bunS s).2 h3
  have e2 := asks d b hB
  have e3 := asks d b3 h5
  clear hb hf hB hs h3 h5 hq1 hq2 hy0
  generalize (bunS s).2 = b1 at *
  generalize ({ s with alg := (bunS s).1 } : Sc) = s1 at *
  refine Bd Tryz.func4 Tryz.ntmps4 fun σ N hp hpn hk hkn hfree => ?_
  obtain ⟨hd, hdn⟩ := HD0 hp hpn; clear hp hpn
  have hcs := And.intro c1 (And.intro c2 (And.intro c3 (And.intro (c4 (N + 16 + 4)) True.intro)))
  clear c1 c2 c3 c4
  refine Wk ?_
  clear hcs
  refine go_loopF mixed (by kernel_rfl) (8 :: 13 :: 14 :: 15 :: 16 :: 17 :: 18 :: 19 :: 20 :: 21 :: 41 :: 42 :: 43 :: 44 :: 45 :: 46 :: 47 :: 48 :: 49 :: 50 :: 51 :: 52 :: 53 :: 54 :: 55 :: 56 :: 57 :: 58 :: 59 :: 60 :: 61 :: 62 :: 63 :: 64 :: 65 :: 66 :: 67 :: 68 :: 69 :: 70 :: 71 :: 72 :: 73 :: 74 :: 75 :: 76 :: 77 :: 78 :: 79 :: 80 :: 81 :: 82 :: 83 :: 84 :: []) [] (fun m_ s_ σ_ n_ => ∃ (u : Nat), m_ = 3 - u ∧ s_ 41 = .lit (.int .i64 u) ∧ (u ≤ 3)) ⟨_, 0, rfl, WF, WC⟩ ?_
  intro m_1 s_1 σ_1 n_1 hs_1 hf_1 hn_1 hI_1
  obtain ⟨u, hm_1, h1_41, hu⟩ := hI_1
  have h1_39 := KS hs_1 39
  have h1_40 := KS hs_1 40
  have k1_0 := KE hf_1 (d)
  have hlow := KL (N := N) (σ := σ) hf_1
  obtain hul | hul : u = 3 ∨ u < 3 := by omega
  ·subst hul
   have hcs := And.intro c9 True.intro
   clear c9 e1 e2 e3
   exact W0
  ·clear c9
   obtain hu0 | hu0 | hu0 : u = 0 ∨ u = 1 ∨ u = 2 := by omega
   all_goals subst hu0
   ·obtain ⟨x1, v1, x2, v2, hx1, a1, a2, a3, a4⟩ := e1
    have a5 := Same_spec x1 x1 (by omega)
    rw [decide_eq_true rfl] at a5
    have hcs := And.intro a1 (And.intro a2 (And.intro a3 (And.intro a4 (And.intro a5 True.intro))))
    clear a1 a2 a3 a4 a5 e2 e3
    refine Wk ?_
    exact ⟨WS, WG, WN, _, (show 3 - (0 + 1) < m_1 by omega), 0 + 1, rfl, WF, WC⟩
   ·obtain ⟨x1, v1, x2, v2, hx1, a1, a2, a3, a4⟩ := e2
    have a5 := Same_spec x1 x1 (by omega)
    rw [decide_eq_true rfl] at a5
    have hcs := And.intro a1 (And.intro a2 (And.intro a3 (And.intro a4 (And.intro a5 True.intro))))
    clear a1 a2 a3 a4 a5 e1 e3
    refine Wk ?_
    exact ⟨WS, WG, WN, _, (show 3 - (1 + 1) < m_1 by omega), 1 + 1, rfl, WF, WC⟩
   ·obtain ⟨x1, v1, x2, v2, hx1, a1, a2, a3, a4⟩ := e3
    have a5 := Same_spec x1 x1 (by omega)
    rw [decide_eq_true rfl] at a5
    have hcs := And.intro a1 (And.intro a2 (And.intro a3 (And.intro a4 (And.intro a5 True.intro))))
    clear a1 a2 a3 a4 a5 e1 e2
    refine Wk ?_
    exact ⟨WS, WG, WN, _, (show 3 - (2 + 1) < m_1 by omega), 2 + 1, rfl, WF, WC⟩
end
theorem BundleEncode_spec (b : Bu) (hb : BuW b) (xs : List Int) (_ : ∀ n ∈ xs, (Lit.int .i64 n).wf = true) (hx : xs.length ≤ 9223372036854775807) (ys : List Int) (_ : ∀ n ∈ ys, (Lit.int .i64 n).wf = true) (hy : ys.length ≤ 9223372036854775807) (x : Int) (d k : Nat) :
  ACall Tryz.prog 4 [buAV b, .slice none (xs.map intAV), .slice none (ys.map intAV), .lit (.int .i64 x)] k [(d, bitsG)] (.lit (.bool true)) [] :=
 @BundleEncode_core w32 b hb xs ys hx hy x d k
end Go.Proofs.YtemmlldpmgfblaaGreatDoor
