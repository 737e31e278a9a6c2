/- Texts O4, O5, O7, O8, C13, U15, U17, U18, U19, W17, W14, joined. -/
import Derived.Test.YtdmjpolnbmoehaaGreatDoorMR1

namespace Go.Proofs.YtdmjpolnbmoehaaGreatDoor
open Go.Ab
attribute [local irreducible] Go.Ab.tyAV Go.Ab.aw Go.Ab.aops Go.Ab.kReg Go.Ab.aThen Go.Ab.aBlk Go.Ab.acond Go.Ab.aguard Go.Ab.astep Go.Ab.AStepX Go.Ab.aRet
structure BoIn (d : Bo) : Prop where
 tl : d.ticket.length ≤ 9223372036854775807
 cl : d.conds.length ≤ 9223372036854775807
 ok : ∀ p ∈ d.conds, PrOk p
structure BuIn (b : Bu) : Prop where
 cl : b.cavs.length ≤ 1000
 dl : b.dis.length ≤ 1000
 ok : ∀ c ∈ b.cavs, PrOk c.first
 di : ∀ d ∈ b.dis, BoIn d





end Go.Proofs.YtdmjpolnbmoehaaGreatDoor

namespace Go.Ab
open Go.RowKit
attribute [local irreducible] Go.Ab.tyAV Go.Ab.aw Go.Ab.aops Go.Ab.kReg Go.Ab.aThen Go.Ab.aBlk Go.Ab.acond Go.Ab.aguard Go.Ab.astep Go.Ab.AStepX Go.Ab.aRet
mutual
def AV.shut : AV → Bool
 | .any => true
 | .lit _ => true
 | .nils => true
 | .slice none xs => AV.shutl xs
 | .slice (some _) _ => false
 | .agg xs => AV.shutl xs
 | .ptr _ _ _ => false
 | .view x => AV.shut x
 | .fn _ xs => AV.shutl xs
 | .tup xs => AV.shutl xs
 | .clip xs => AV.shutl xs
 | .ms _ _ _ _ _ => false
 | .mp _ _ _ _ => false
 | .bs _ _ _ _ _ => false
 | .iface _ x => AV.shut x
def AV.shutl : List AV → Bool
 | [] => true
 | x :: r => AV.shut x && AV.shutl r
end
theorem AV.shutl_at {xs : List AV} (h : AV.shutl xs = true) : ∀ {i : Nat} {x : AV}, xs[i]? = some x → x.shut = true := by
 induction xs with
 | nil => intro i x hx; simp at hx
 | cons y r ih =>
  intro i x hx
  simp only [AV.shutl, Bool.and_eq_true] at h
  cases i with
  | zero => simp at hx; subst hx; exact h.1
  | succ i => exact ih h.2 (by simpa using hx)
theorem AV.shutl_map {α : Type} (f : α → AV) (hf : ∀ x, (f x).shut = true) : ∀ l : List α, AV.shutl (l.map f) = true
 | [] => rfl
 | x :: r => by simp only [List.map_cons, AV.shutl, hf x, AV.shutl_map f hf r, Bool.and_self]
theorem Rep.shut {g g' : Ghost} (hG : ∀ b o u, g.G b o = some u → g'.G b o = some u) {x : AV} {v : Value} (h : Rep g x v) : x.shut = true → Rep g' x v := by
 induction h with
 | any v h => exact fun _ => .any v h
 | lit v h => exact fun _ => .lit v h
 | nils => exact fun _ => .nils
 | slice own xs vs A c size hl hc hm h hs hcell hown ih =>
  intro hx
  cases own with
  | some o => simp [AV.shut] at hx
  | none =>
   simp only [AV.shut] at hx
   exact .slice none xs vs A c size hl hc hm (fun i x v h1 h2 => ih i x v h1 h2 (AV.shutl_at hx h1)) hs (hcell.imp (fun h => h) (fun ⟨b, o, h1, h2⟩ => ⟨b, o, h1, fun j u hu => hG _ _ _ (h2 j u hu)⟩)) (fun id hid => by cases hid)
 | agg xs vs hl h ih => exact fun hx => .agg xs vs hl fun i x v h1 h2 => ih i x v h1 h2 (AV.shutl_at (by simpa only [AV.shut] using hx) h1)
 | ptr id path off b h => intro hx; simp [AV.shut] at hx
 | view x v b o h hc ih => exact fun hx => .view x v b o (ih (by simpa only [AV.shut] using hx)) fun j u hu => hG _ _ _ (hc j u hu)
 | fn f xs vs hl h ih => exact fun hx => .fn f xs vs hl fun i x v h1 h2 => ih i x v h1 h2 (AV.shutl_at (by simpa only [AV.shut] using hx) h1)
 | tup xs vs hl h ih => exact fun hx => .tup xs vs hl fun i x v h1 h2 => ih i x v h1 h2 (AV.shutl_at (by simpa only [AV.shut] using hx) h1)
 | clip xs A n h ih => exact fun hx => .clip xs A n (ih (by simpa only [AV.shut] using hx))
 | ms id ver size lo len ver' u A c hm hv hl hc h => intro hx; simp [AV.shut] at hx
 | mp id ver path off ver' u a hm hv h => intro hx; simp [AV.shut] at hx
 | bs id path lo off len b c h hl hc => intro hx; simp [AV.shut] at hx
 | iface t x v h ih => exact fun hx => .iface t x v (ih (by simpa only [AV.shut] using hx))
theorem Sim.grown {W0 : World} {g : Ghost} {σ : Nat → Ent} {n : Nat} {w w' : World} (h : Sim W0 g σ n w) (hb : Below w.heap.size w w') : Sim W0 g σ n w' := by
 refine ⟨h.below.trans (hb.mono h.below.size), fun b o v hv => ?_, h.bound, fun id => (h.ents id).same g.le_refl rfl rfl rfl rfl fun b hbk => ⟨hb.block b (h.fresh id b hbk).2, fun _ => rfl⟩, h.sep, fun i b hbk => ⟨(h.fresh i b hbk).1, Nat.lt_of_lt_of_le (h.fresh i b hbk).2 hb.size⟩⟩
 have hc := h.imm b o v hv
 have hlt : b < w.heap.size := World.block_lt_of_cell? w ⟨b, o, none⟩ hc
 unfold World.cell? at hc ⊢
 rw [hb.block b hlt]
 exact hc
mutual
inductive Lend (pre : Foot) : AV → AV → Prop where
 | shut {x y : AV} : AV.le x y → y.shut = true → Lend pre x y
 | ms {r ver size k : Nat} {e : TypeId} {xs : List AV} : (r, Ent.mrow ver e size xs) ∈ pre → k = xs.length → AV.shutl xs = true → Lend pre (.ms r ver size 0 k) (.slice none xs)
 | agg {xs ys : List AV} : LendL pre xs ys → Lend pre (.agg xs) (.agg ys)
inductive LendL (pre : Foot) : List AV → List AV → Prop where
 | nil : LendL pre [] []
 | cons {x y : AV} {xs ys : List AV} : Lend pre x y → LendL pre xs ys → LendL pre (x :: xs) (y :: ys)
end
section
variable {P : Program} {o : Oper} {s : Slots} {id : Nat}
end
section
variable {P : Program} {ops : Array Oper} {m i n : Nat} {T : Trace} {k : Cfg → Trace → Prop} {ty : TypeId} {pos : String} {after : Array Edge} {r : List Oper} {s : Slots} {σ : Nat → Ent}
end
attribute [go_sem] AV.shut AV.shutl
end Go.Ab

namespace Go.Proofs.YtdmjpolnbmoehaaGreatDoor
open Go.Ab
attribute [local irreducible] Go.Ab.tyAV Go.Ab.aw Go.Ab.aops Go.Ab.kReg Go.Ab.aThen Go.Ab.aBlk Go.Ab.acond Go.Ab.aguard Go.Ab.astep Go.Ab.AStepX Go.Ab.aRet
attribute [local irreducible] shaG
@[go_sem] theorem tagAV_shut (t : Tg) : (tagAV t).shut = true := AV.shutl_map byteAV (fun _ => rfl) t.1
@[go_sem] theorem bytes_shut (l : List UInt8) : AV.shutl (l.map byteAV) = true := AV.shutl_map byteAV (fun _ => rfl) l
@[go_sem] theorem prAV_shut (p : Pr) : (prAV p).shut = true := by simp only [prAV, AV.shut, AV.shutl, Bool.and_self]
@[go_sem] theorem prs_shut (l : List Pr) : AV.shutl (l.map prAV) = true := AV.shutl_map prAV prAV_shut l
@[go_sem] theorem caAV_shut (p : Ca) : (caAV p).shut = true := by simp only [caAV, AV.shut, AV.shutl, prAV_shut, bytes_shut, Bool.and_self]
@[go_sem] theorem cas_shut (l : List Ca) : AV.shutl (l.map caAV) = true := AV.shutl_map caAV caAV_shut l
@[go_sem] theorem boAV_shut (p : Bo) : (boAV p).shut = true := by simp only [boAV, AV.shut, AV.shutl, tagAV_shut, prs_shut, bytes_shut, Bool.and_self]
@[go_sem] theorem bos_shut (l : List Bo) : AV.shutl (l.map boAV) = true := AV.shutl_map boAV boAV_shut l
section
variable [W : W32]
end

section
variable [W : W32]
end

section
variable [W : W32]
end
end Go.Proofs.YtdmjpolnbmoehaaGreatDoor

namespace Go.Proofs.YtdmjpolnbmoehaaGreatDoor
open Go.Ab
attribute [local irreducible] Go.Ab.tyAV Go.Ab.aw Go.Ab.aops Go.Ab.kReg Go.Ab.aThen Go.Ab.aBlk Go.Ab.acond Go.Ab.aguard Go.Ab.astep Go.Ab.AStepX Go.Ab.aRet
def pRun (l : List Int) (r : Bool) : Nat → Nat → List Pr → (List Pr × Nat) → Prop
 | 0, j, acc, R => R = (acc, j)
 | f + 1, j, acc, R => ∃ p j1, PRD l j r p j1 ∧ pRun l r f j1 (acc ++ [p]) R
theorem pRun_ex {l : List Int} {r : Bool} : ∀ (f j : Nat) (acc : List Pr), Dk l j → (∀ p ∈ acc, PrOk p ∧ predB p = true) → ∃ R, pRun l r f j acc R ∧ Dk l R.2 ∧ (∀ p ∈ R.1, PrOk p ∧ predB p = true) ∧ R.1.length = acc.length + f
 | 0, j, acc, h, ha => ⟨_, rfl, h, ha, rfl⟩
 | f + 1, j, acc, h, ha => by
  obtain ⟨p, j1, hp⟩ := PRD_ex h r
  obtain ⟨R, hR, h1, h2, h3⟩ := pRun_ex (r := r) f j1 (acc ++ [p]) hp.2.2.2.1 (fun q hq => by
   rcases List.mem_append.1 hq with hq | hq
   ·exact ha q hq
   ·rw [List.mem_singleton.1 hq]; exact ⟨hp.2.1, hp.1⟩)
  exact ⟨R, ⟨p, j1, hp, hR⟩, h1, h2, by rw [h3]; simp; omega⟩
set_option maxHeartbeats 2000000 in
theorem Preds_core (l : List Int) (i : Nat) (h : Dk l i) (n : Nat) (hn : n ≤ 1000) (r : Bool) (R : List Pr) (j : Nat) (hR : pRun l r (nextD l i (n + 1)).1 (nextD l i (n + 1)).2 [] (R, j)) (d k : Nat) :
  ACall Tryz.prog 17 [.ptr d [] 0, .lit (.int .i64 n), .lit (.bool r)] k [(d, deckBox l i)] (.slice none (R.map prAV)) [(d, deckBox l j)] := by
 have c1 := Next_spec l i (n + 1) h (by omega) (by omega)
 have h1 := nextD_dk (n + 1) h
 have h2 := nextD_lt l i (n + 1) (by omega)
 clear h
 generalize nextD l i (n + 1) = X at *
 obtain ⟨f0, j0⟩ := X
 simp only at *
 rw [show ((n + 1 : Nat) : Int) = (n : Int) + 1 by omega] at c1
 refine Bd Tryz.func17 Tryz.ntmps17 fun σ N hp hpn hk hkn hfree => ?_
 obtain ⟨hd, hdn⟩ := HD0 hp hpn; clear hp hpn
 have hcs := And.intro (c1 d) True.intro
 clear c1
 refine Wk ?_
 clear hcs
 refine ALoop.nilrow 7 25 6 (by simp (disch := omega) [go_sem, *, -List.reduceReplicate]) ?_
 refine go_loopB (N) mixed (by kernel_rfl) [7, 8, 13, 14, 15, 16, 17, 18, 19, 20, 21, 22] [d] (fun m_ s_ σ_ n_ => ∃ (f : Nat) (q : Nat) (acc : List Pr) (j' : Nat), m_ = f ∧ s_ 8 = .lit (.int .i64 f) ∧ s_ 7 = .slice (some q) (acc.map prAV) ∧ σ_ (d) = deckBox l j' ∧ σ_ (q) = .row 25 6 acc.length ∧ (N ≤ q) ∧ (q < n_) ∧ (acc.length + f ≤ 1000) ∧ (Dk l j') ∧ (pRun l r f j' acc (R, j))) ⟨_, f0, _, [], j0, rfl, WF, WF, WF, WF, WC, WC, WC, WC, WC⟩ ?_
 intro m_1 s_1 σ_1 n_1 hs_1 hf_1 hn_1 hI_1
 obtain ⟨f, q, acc, j', hm_1, h1_8, h1_7, e1_0, e1_1, hq, hqn, hal, hj, hrun⟩ := hI_1
 have h1_0 := KS hs_1 0
 have h1_2 := KS hs_1 2
 have h1_6 := KS hs_1 6
 have hlow := KD (N := N) (d := d) (σ := σ) hf_1
 clear hR
 cases f with
 | zero =>
  have hrun : (R, j) = (acc, j') := hrun
  simp only [Prod.mk.injEq] at hrun
  obtain ⟨rfl, rfl⟩ := hrun
  clear hj
  refine Wk ?_
  exact RV (d) (deckBox l j)
 | succ f =>
  obtain ⟨p, j1, ⟨p1, p2, p3, p4, p5⟩, hrun⟩ := hrun
  have hcs := And.intro (p5 d) True.intro
  clear p5 p1 p2 p3 hj
  refine Wk ?_
  exact ⟨WS, WG, WN, _, (show (f) < m_1 by omega), f, q, acc ++ [p], j1, rfl, WF, WF, WF, WF, WC, WC, WC, WC, WC⟩
theorem Preds_ex (l : List Int) (i : Nat) (h : Dk l i) (n : Nat) (hn : n ≤ 1000) (r : Bool) : ∃ (R : List Pr) (j : Nat), R.length ≤ n ∧ (∀ p ∈ R, PrOk p ∧ predB p = true) ∧ Dk l j ∧ ∀ d k, ACall Tryz.prog 17 [.ptr d [] 0, .lit (.int .i64 n), .lit (.bool r)] k [(d, deckBox l i)] (.slice none (R.map prAV)) [(d, deckBox l j)] := by
 obtain ⟨⟨R, j⟩, hR, h1, h2, h3⟩ := pRun_ex (r := r) (nextD l i (n + 1)).1 (nextD l i (n + 1)).2 [] (nextD_dk _ h) (fun p hp => by cases hp)
 have := nextD_lt l i (n + 1) (by omega)
 exact ⟨R, j, by simp only [List.length_nil] at h3; omega, h2, h1, fun d k => Preds_core l i h n hn r R j hR d k⟩

theorem u64W {a : Int} (h : (Lit.int .u64 a).wf = true) : 0 ≤ a ∧ a < 18446744073709551616 := by
 have hw : IntKind.u64.min ≤ a ∧ a ≤ IntKind.u64.max := by simpa [Lit.wf] using h
 have e1 : IntKind.u64.min = 0 := by decide
 have e2 : IntKind.u64.max = 18446744073709551615 := by decide
 omega
theorem predW {m : Nat} {x : AV} (h : tyAV Tryz.prog (m + 2) 25 x) : ∃ p : Pr, PrOk p ∧ x = prAV p := by
 obtain ⟨xs, rfl, h1, h2⟩ := ty_struct Tryz.underlying25 h
 obtain ⟨a, b, c, d, e, f, rfl⟩ : ∃ a b c d e f, xs = [a, b, c, d, e, f] := by
  match xs, h1 with
  | [a, b, c, d, e, f], _ => exact ⟨a, b, c, d, e, f, rfl⟩
 obtain ⟨v1, _, rfl⟩ := ty_int it3 (h2 0 _ _ rfl rfl)
 obtain ⟨v2, w2, rfl⟩ := ty_int it23 (h2 1 _ _ rfl rfl)
 obtain ⟨v3, _, rfl⟩ := ty_int it3 (h2 2 _ _ rfl rfl)
 obtain ⟨v4, _, rfl⟩ := ty_int it3 (h2 3 _ _ rfl rfl)
 obtain ⟨v5, w5, rfl⟩ := ty_str st9 (h2 4 _ _ rfl rfl)
 obtain ⟨v6, _, rfl⟩ := ty_int it3 (h2 5 _ _ rfl rfl)
 exact ⟨⟨v1, v2, v3, v4, v5, v6⟩, ⟨(u64W w2).1, (u64W w2).2, w5⟩, rfl⟩
theorem predW_of {x : AV} (h : tyAV Tryz.prog 8 25 x) : ∃ p : Pr, PrOk p ∧ x = prAV p := predW h
structure DiW (d : Di) : Prop where
 tl : d.ticket.length ≤ 140737488351232
 cl : d.conds.length ≤ 9223372036854775807
 ok : ∀ p ∈ d.conds, PrOk p
theorem dischargeW_of {x : AV} (h : tyAV Tryz.prog 8 31 x) : ∃ d : Di, DiW d ∧ x = diAV d := by
 obtain ⟨ys, rfl, h3, h4⟩ := ty_struct Tryz.underlying31 h
 obtain ⟨a, b, c, rfl⟩ : ∃ a b c, ys = [a, b, c] := by
  match ys, h3 with
  | [a, b, c], _ => exact ⟨a, b, c, rfl⟩
 obtain ⟨v1, w1, rfl⟩ := ty_bytesW sl26 by5 (by kernel_rfl) (h4 0 _ _ rfl rfl)
 obtain ⟨v2, ⟨w2, w2'⟩, rfl⟩ := ty_list sl27 (fun y hy => predW hy) (h4 1 _ _ rfl rfl)
 obtain ⟨v3, _, rfl⟩ := ty_tag ar29 by5 (h4 2 _ _ rfl rfl)
 exact ⟨⟨v1, v2, v3⟩, ⟨w1, w2, w2'⟩, rfl⟩
def CaW (c : Ca) : Prop := PrOk c.first ∧ CaSm c
structure PaW (p : Pa) : Prop where
 cl : p.cavs.length ≤ 9223372036854775807
 ok : ∀ c ∈ p.cavs, CaW c
end Go.Proofs.YtdmjpolnbmoehaaGreatDoor

namespace Go.Proofs.YtdmjpolnbmoehaaGreatDoor
open Go.Ab
attribute [local irreducible] Go.Ab.tyAV Go.Ab.aw Go.Ab.aops Go.Ab.kReg Go.Ab.aThen Go.Ab.aBlk Go.Ab.acond Go.Ab.aguard Go.Ab.astep Go.Ab.AStepX Go.Ab.aRet
attribute [local irreducible] shaG
theorem awake15_spec (k : Nat) : ACall Tryz.prog 14 [] k [] (.lit (.bool true)) [] := by
 have c1 := Age_spec [97] 0 525600 (by decide)
 have c2 := Age_spec [97] 0 525599 (by decide)
 rw [show ageS 0 525600 = 1 by decide +kernel] at c1
 rw [show ageS 0 525599 = 0 by decide +kernel] at c2
 refine Bd Tryz.func14 Tryz.ntmps14 fun σ N hp hpn hk hkn hfree => ?_
 have hcs := And.intro c1 (And.intro c2 True.intro)
 clear c1 c2
 exact W0
theorem ALe.refl : ∀ (xs : List AV), ALe xs xs
 | [] => .nil
 | x :: r => .cons (AV.le_refl x) (ALe.refl r)
section
variable [W : W32]
theorem restrS_small (a : Alg) (d : Di) (p : Pr) : (restrS a d p).2.1.ticket.length ≤ d.ticket.length ∧ (restrS a d p).2.1.conds.length ≤ d.conds.length + 1 := by
 unfold restrS
 repeat' split
 all_goals simp [di0]
def RsQ (a : Alg) (z : Di) (q : Pr) (g h : Nat) : Prop := ∃ r : Alg × Di × Nat, (∀ k, ACall Tryz.prog 20 [algAV a, diAV z, prAV q] k [(g, shaG), (h, bitsG)] (mdAV r) []) ∧
 (∀ k, ACall Tryz.prog 21 [algAV a, diAV z, prAV q] k [] (mdAV r) []) ∧
 (∀ k, ACall Tryz.prog 22 [algAV r.1, algAV r.1] k [] (.lit (.bool true)) []) ∧
 (∀ k, ACall Tryz.prog 23 [diAV r.2.1, diAV r.2.1] k [] (.lit (.bool true)) [])
theorem RsQ_ex {a : Alg} (ha : AlgIn a 1000) {z : Di} (hz : z.ticket.length ≤ 1000 ∧ z.conds.length ≤ 100) {q : Pr} (hq : PrOk q) {g h : Nat} (hgh : g ≠ h) : RsQ a z q g h := by
 obtain ⟨s1, s2⟩ := restrS_small a z q
 exact ⟨restrS a z q, Restr_spec a 1000 ha (by decide) z (by omega) (by omega) q hq g h hgh, refRestr_spec a 1000 ha (by decide) z (by omega) q hq, SameAlg_refl _ 1001 (restrS_in ha z q) (by decide), SameDis_refl _ (by omega) (by omega)⟩
set_option maxHeartbeats 16000000 in
theorem DischargeRestrict_core (xs : List Int) (hx : xs.length ≤ 9223372036854775807) (p : Pr) (hp0 : PrOk p) (raw : Di) (hrt : raw.ticket.length ≤ 9223372036854775807) (hrc : raw.conds.length ≤ 9223372036854775807) (g h : Nat) (hgh : g ≠ h) (k : Nat) :
  ACall Tryz.prog 3 [.slice none (xs.map intAV), prAV p, diAV raw] k [(g, shaG), (h, bitsG)] (.lit (.bool true)) [] := by
 have c9 := awake15_spec
 obtain ⟨rt, rc, rg⟩ := raw
 have hrA : diAV ⟨rt, rc, rg⟩ = .agg [.slice none (rt.map byteAV), .slice none (rc.map prAV), tagAV rg] := rfl
 simp only at hrt hrc
 by_cases h1 : 30 < rc.length
 ·have h1i : (30 : Int) < (rc.length : Int) := by omega
  rw [hrA]
  clear hp0 hrA
  refine Bd Tryz.func3 Tryz.ntmps3 fun σ N hp hpn hk hkn hfree => ?_
  simp only [List.mem_cons, List.not_mem_nil, or_false, forall_eq_or_imp, forall_eq] at hp hpn; obtain ⟨hd1, hd2⟩ := hp; obtain ⟨hdn1, hdn2⟩ := hpn
  have hcs := And.intro c9 True.intro
  clear c9
  exact W0
 ·have h1i : ¬ (30 : Int) < (rc.length : Int) := by omega
  by_cases h2 : 300 < rt.length
  ·have h2i : (300 : Int) < (rt.length : Int) := by omega
   rw [hrA]
   clear hp0 hrA
   refine Bd Tryz.func3 Tryz.ntmps3 fun σ N hp hpn hk hkn hfree => ?_
   simp only [List.mem_cons, List.not_mem_nil, or_false, forall_eq_or_imp, forall_eq] at hp hpn; obtain ⟨hd1, hd2⟩ := hp; obtain ⟨hdn1, hdn2⟩ := hpn
   have hcs := And.intro c9 True.intro
   clear c9
   exact W0
  ·have h2i : ¬ (300 : Int) < (rt.length : Int) := by omega
   rw [hrA]
   have c1 := New_spec xs
   obtain ⟨s, j, hs, hj, c2⟩ := Scene_ex xs 0 ⟨hx, Nat.zero_le _⟩
   obtain ⟨R, j2, hRl, _, hj2, c3⟩ := Preds_ex xs j hj 9 (by omega) true
   have c4 := Tag_spec xs j2 hj2
   have hj3 := tagD_dk hj2
   generalize tagD xs j2 = TD at *
   obtain ⟨t, j3⟩ := TD
   simp only at c4 hj3
   obtain ⟨se, hG, _⟩ := hs.good
   have hin := hG.ain
   have hgv := hG.gv
   have hgl := hG.gl
   obtain ⟨sa, sr, sc, sp, sg, sq, sh, sm⟩ := s
   simp only at *
   have hsA : scAV ⟨sa, sr, sc, sp, sg, sq, sh, sm⟩ = .agg [algAV sa, rgAV sr, concAV sc, paAV sp, .slice none (sg.map diAV), rqAV sq, .lit (.string ⟨sh.toArray⟩), .lit (.int .i64 sm)] := rfl
   rw [hsA] at c2
   obtain ⟨all, hall⟩ : ∃ all : List Di, all = ⟨rt, rc, rg⟩ :: ⟨[], R, t⟩ :: sg := ⟨_, rfl⟩
   have hav : ∀ z ∈ all, z.ticket.length ≤ 1000 ∧ z.conds.length ≤ 100 := fun z hz => by
    rw [hall] at hz
    rcases List.mem_cons.1 hz with rfl | hz
    ·exact ⟨by simp only; omega, by simp only; omega⟩
    ·rcases List.mem_cons.1 hz with rfl | hz
     ·exact ⟨by simp, by simp only; omega⟩
     ·have := hgv z hz
      exact ⟨Nat.le_trans this.t2 (by omega), Nat.le_trans this.cl (by omega)⟩
   have hle : ∀ r : Nat, AV.le (.slice (some r) (.agg [.slice none (rt.map byteAV), .slice none (rc.map prAV), tagAV rg] :: .agg [.nils, .slice none (R.map prAV), tagAV t] :: sg.map diAV)) (.slice none (all.map diAV)) := fun r g0 v0 hv0 => by
    rw [hall]
    refine AV.le_own _ _ g0 v0 (AV.le_sliceS (some r) (ALe.cons (AV.le_refl _) (ALe.cons (AV.sub_agg (.cons AV.le_nils0 (.cons (AV.le_refl _) (.cons (AV.le_refl _) .nil)))) (ALe.refl _))) g0 v0 hv0)
   have hle2 : ∀ (r : Nat) (q2 : Pr), AV.le (.slice (some r) [prAV p, prAV q2, .agg [.lit (.int .i64 7), .lit (.int .u64 0), .lit (.int .i64 0), .lit (.int .i64 0), .lit (.string ⟨#[]⟩), .lit (.int .i64 1)]]) (.slice none ([p, q2, ⟨7, 0, 0, 0, [], 1⟩].map prAV)) := fun r q2 => AV.le_own _ _
   have hdl : (sg.length + 2) * 80 ≤ 140737488355328 := by omega
   have hal : all.length ≤ 100 := by rw [hall]; simp only [List.length_cons]; omega
   clear hG hs hj hj2 hrA hsA hgv hall
   refine Bd Tryz.func3 Tryz.ntmps3 fun σ N hp hpn hk hkn hfree => ?_
   simp only [List.mem_cons, List.not_mem_nil, or_false, forall_eq_or_imp, forall_eq] at hp hpn; obtain ⟨hd1, hd2⟩ := hp; obtain ⟨hdn1, hdn2⟩ := hpn
   have hcs := And.intro c1 (And.intro (c2 (N + 13 + 1)) (And.intro (c3 (N + 13 + 1)) (And.intro (c4 (N + 13 + 1)) True.intro)))
   clear c1 c2 c3 c4
   refine Wk ?_
   clear hcs
   refine go_less 9 (by simp (disch := omega) [go_sem, *, -List.reduceReplicate]; rfl) (hle _) ?_
   clear hle
   refine go_loopF mixed (by kernel_rfl) (6 :: 10 :: 12 :: 13 :: 14 :: 15 :: 16 :: 17 :: 18 :: 44 :: 45 :: 46 :: 47 :: 48 :: 49 :: 50 :: 51 :: 52 :: 53 :: 54 :: 55 :: 56 :: 57 :: 58 :: 59 :: 60 :: 61 :: 62 :: 63 :: 64 :: 65 :: 66 :: 67 :: 68 :: 69 :: 70 :: 71 :: 72 :: 73 :: 74 :: 75 :: 76 :: 77 :: 78 :: 79 :: 80 :: 81 :: 82 :: 83 :: 84 :: 85 :: 86 :: 87 :: 88 :: 89 :: 90 :: 91 :: 92 :: 93 :: 94 :: 95 :: 96 :: 97 :: 98 :: 99 :: []) [N+13+1] (fun m_ s_ σ_ n_ => ∃ (i : Nat) (jd : Nat), m_ = all.length - i ∧ s_ 10 = .lit (.int .i64 i) ∧ σ_ (N+13+1) = deckBox xs jd ∧ (i ≤ all.length) ∧ (Dk xs jd)) ⟨_, 0, j3, rfl, WF, WF, WC, WC⟩ ?_
   intro m_1 s_1 σ_1 n_1 hs_1 hf_1 hn_1 hI_1
   obtain ⟨i, jd, hm_1, h1_10, e1_0, hi, hd⟩ := hI_1
   have h1_4 := KS hs_1 4
   have h1_7 := KS hs_1 7
   have h1_8 := KS hs_1 8
   have h1_9 := KS hs_1 9
   have k1_0 := KE hf_1 (N)
   have k1_1 := KE hf_1 (N + 16 + 2)
   have k1_2 := KE hf_1 (g)
   have k1_3 := KE hf_1 (h)
   have hlow := KL (N := N) (σ := σ) hf_1
   by_cases hil : i = all.length
   ·subst hil
    have hcs := And.intro c9 True.intro
    clear c9 hav hle2 hin
    exact W0
   ·have hi1 : i < all.length := by omega
    obtain ⟨z, hz⟩ : ∃ z, all[i] = z := ⟨_, rfl⟩
    have hzm : (all.map diAV)[i]? = some (diAV z) := by rw [List.getElem?_map, List.getElem?_eq_getElem hi1, hz]; rfl
    have hzv := hav z (by rw [← hz]; exact List.getElem_mem _)
    obtain ⟨q2, jd1, _, hq2, _, hjd1, c5⟩ := PRD_ex hd true
    have e1 := RsQ_ex hin hzv hp0 hgh
    have e2 := RsQ_ex hin hzv hq2 hgh
    have e3 := RsQ_ex hin hzv (q := ⟨7, 0, 0, 0, [], 1⟩) ⟨by decide, by decide, by decide⟩ hgh
    clear hav hin hzv c9
    have hcs := And.intro (c5 (N + 13 + 1)) True.intro
    clear c5
    refine Wk ?_
    clear hcs
    refine go_less 54 (by simp (disch := omega) [go_sem, *]; try rfl) (hle2 _ q2) ?_
    clear hle2
    refine go_loopF mixed (by kernel_rfl) (6 :: 12 :: 13 :: 14 :: 15 :: 16 :: 17 :: 18 :: 56 :: 57 :: 58 :: 59 :: 60 :: 61 :: 62 :: 63 :: 64 :: 65 :: 66 :: 67 :: 68 :: 69 :: 70 :: 71 :: 72 :: 73 :: 74 :: 75 :: 76 :: 77 :: 78 :: 79 :: 80 :: 81 :: 82 :: 83 :: 84 :: 85 :: 86 :: 87 :: 88 :: 89 :: 90 :: 91 :: 92 :: 93 :: 94 :: 95 :: 96 :: 97 :: 98 :: 99 :: []) [] (fun m_ s_ σ_ n_ => ∃ (v : Nat), m_ = 3 - v ∧ s_ 56 = .lit (.int .i64 v) ∧ (v ≤ 3)) ⟨_, 0, rfl, WF, WC⟩ ?_
    intro m_2 s_2 σ_2 n_2 hs_2 hf_2 hn_2 hI_2
    obtain ⟨v, hm_2, h2_56, hv⟩ := hI_2
    have h2_4 := KS hs_2 4
    have h2_7 := KS hs_2 7
    have h2_8 := KS hs_2 8
    have h2_9 := KS hs_2 9
    have h2_10 := KS hs_2 10
    have h2_44 := KS hs_2 44
    have h2_45 := KS hs_2 45
    have h2_46 := KS hs_2 46
    have h2_47 := KS hs_2 47
    have h2_50 := KS hs_2 50
    have h2_51 := KS hs_2 51
    have h2_52 := KS hs_2 52
    have h2_53 := KS hs_2 53
    have h2_54 := KS hs_2 54
    have h2_55 := KS hs_2 55
    have k2_0 := KE hf_2 (N)
    have k2_1 := KE hf_2 (N + 16 + 2)
    have k2_2 := KE hf_2 (N + 13 + 1)
    have k2_3 := KE hf_2 (g)
    have k2_4 := KE hf_2 (h)
    have hlow := KL (N := N) (σ := σ) hf_2
    obtain hvl | hvl : v = 3 ∨ v < 3 := by omega
    ·subst hvl
     refine Wk ?_
     exact ⟨WS, WG, WN, _, (show all.length - (i + 1) < m_1 by omega), i + 1, jd1, rfl, WF, WF, WC, WC⟩
    ·obtain hv0 | hv0 | hv0 : v = 0 ∨ v = 1 ∨ v = 2 := by omega
     all_goals subst hv0
     ·obtain ⟨⟨x, u, e⟩, a1, a2, a3, a4⟩ := e1
      unfold mdAV at a1 a2
      simp only at a1 a2 a3 a4
      have hcs := And.intro a1 (And.intro a2 (And.intro a3 (And.intro a4 True.intro)))
      clear a1 a2 a3 a4 e2 e3
      refine Wk ?_
      exact ⟨WS, WG, WN, _, (show 3 - (0 + 1) < m_2 by omega), 0 + 1, rfl, WF, WC⟩
     ·obtain ⟨⟨x, u, e⟩, a1, a2, a3, a4⟩ := e2
      unfold mdAV at a1 a2
      simp only at a1 a2 a3 a4
      have hcs := And.intro a1 (And.intro a2 (And.intro a3 (And.intro a4 True.intro)))
      clear a1 a2 a3 a4 e1 e3
      refine Wk ?_
      exact ⟨WS, WG, WN, _, (show 3 - (1 + 1) < m_2 by omega), 1 + 1, rfl, WF, WC⟩
     ·obtain ⟨⟨x, u, e⟩, a1, a2, a3, a4⟩ := e3
      unfold mdAV at a1 a2
      simp only at a1 a2 a3 a4
      have hcs := And.intro a1 (And.intro a2 (And.intro a3 (And.intro a4 True.intro)))
      clear a1 a2 a3 a4 e1 e2
      refine Wk ?_
      exact ⟨WS, WG, WN, _, (show 3 - (2 + 1) < m_2 by omega), 2 + 1, rfl, WF, WC⟩
end
theorem DischargeRestrict_spec (xs : List Int) (_ : ∀ n ∈ xs, (Lit.int .i64 n).wf = true) (hx : xs.length ≤ 9223372036854775807) (p : Pr) (hp : PrOk p) (raw : Di) (hr : DiW raw) (g h : Nat) (hgh : g ≠ h) (k : Nat) :
  ACall Tryz.prog 3 [.slice none (xs.map intAV), prAV p, diAV raw] k [(g, shaG), (h, bitsG)] (.lit (.bool true)) [] :=
 @DischargeRestrict_core w32 xs hx p hp raw (by have := hr.tl; omega) hr.cl g h hgh k
end Go.Proofs.YtdmjpolnbmoehaaGreatDoor
