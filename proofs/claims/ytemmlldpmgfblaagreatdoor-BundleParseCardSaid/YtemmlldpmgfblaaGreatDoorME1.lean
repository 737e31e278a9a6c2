/- Texts S1p, Y1, Y2, Y3, Y4, Y5, Y6, C14, Y7, U9, Y8, P1, joined. -/
import Derived.Test.YtemmlldpmgfblaaGreatDoorM10

namespace Go.Proofs.YtemmlldpmgfblaaGreatDoor
open Go.Ab
attribute [local irreducible] Go.Ab.tyAV Go.Ab.aw Go.Ab.aops Go.Ab.kReg Go.Ab.aThen Go.Ab.aBlk Go.Ab.acond Go.Ab.aguard Go.Ab.astep Go.Ab.AStepX Go.Ab.aRet
theorem cutStr (n : Nat) (b : List UInt8) : ∃ (m : Nat) (t : List UInt8), (if (n : Int) < (b.length : Int) then (n : Int) else (b.length : Int)) = (m : Int) ∧ m ≤ b.length ∧ m ≤ n ∧ t.length = m ∧ b.take m = t := by
 refine ⟨min n b.length, b.take (min n b.length), ?_, by omega, by omega, by simp, rfl⟩
 split <;> omega
theorem str_of {x : AV} (h : tyAV Tryz.prog 8 9 x) : ∃ l : List UInt8, l.length ≤ 9223372036854775807 ∧ x = strAV l := ty_str st9 h

def numO (b : List UInt8) (u e : Nat) : Nat × Nat × Nat := if e ≠ 0 then (0, u, e) else numR b u
def cntO (b : List UInt8) (m u e : Nat) : Nat × Nat × Nat :=
 if (numO b u e).2.2 ≠ 0 then (0, (numO b u e).2) else if m < (numO b u e).1 then (0, (numO b u e).2.1, 2) else numO b u e
def tagO (b : List UInt8) (u e : Nat) : Tg × Nat × Nat :=
 if e ≠ 0 then (zeroTag, u, e) else if h : u + 32 ≤ b.length then (⟨(b.drop u).take 32, by rw [List.length_take, List.length_drop]; omega⟩, u + 32, 0) else (zeroTag, u, 3)
def cavO (b : List UInt8) (u e : Nat) : Ca × Nat × Nat := if e ≠ 0 then (zeroCa, u, e) else ((decC (b.drop u)).1, u + (decC (b.drop u)).2.1, (decC (b.drop u)).2.2)
def prdO (b : List UInt8) (u e : Nat) : Pr × Nat × Nat := if e ≠ 0 then (zeroPr, u, e) else predR b u
def itO {α : Type} (f : Nat → Nat → α × Nat × Nat) : Nat → Nat → Nat → List α × Nat × Nat
 | 0, u, e => ([], u, e)
 | n + 1, u, e => ((itO f n u e).1 ++ [(f (itO f n u e).2.1 (itO f n u e).2.2).1], (f (itO f n u e).2.1 (itO f n u e).2.2).2)
def itS {α : Type} (f : Nat → Nat → α × Nat × Nat) : Nat → Nat → Nat → List α × Nat × Nat
 | 0, u, e => ([], u, e)
 | n + 1, u, e => if (itS f n u e).2.2 ≠ 0 then itS f n u e else ((itS f n u e).1 ++ [(f (itS f n u e).2.1 0).1], (f (itS f n u e).2.1 0).2)
theorem itS_e {α : Type} (f : Nat → Nat → α × Nat × Nat) : ∀ (n u e : Nat), e ≠ 0 → itS f n u e = ([], u, e)
 | 0, _, _, _ => rfl
 | n + 1, u, e, h => by rw [itS, itS_e f n u e h, if_pos h]
theorem itS_stop {α : Type} (f : Nat → Nat → α × Nat × Nat) {i u e : Nat} (h : (itS f i u e).2.2 ≠ 0) : ∀ n, i ≤ n → itS f n u e = itS f i u e
 | 0, hn => by obtain rfl : i = 0 := by omega
               rfl
 | n + 1, hn => by
  rcases Nat.lt_or_ge n i with h' | h'
  ·obtain rfl : i = n + 1 := by omega
   rfl
  ·have := itS_stop f h n h'
   rw [itS, this, if_pos h]
theorem itS_len {α : Type} (f : Nat → Nat → α × Nat × Nat) : ∀ (n u e : Nat), (itS f n u e).1.length ≤ n
 | 0, _, _ => Nat.le_refl _
 | n + 1, u, e => by
  have := itS_len f n u e
  rw [itS]
  split
  ·omega
  ·simp; omega
theorem itO_len {α : Type} (f : Nat → Nat → α × Nat × Nat) : ∀ (n u e : Nat), (itO f n u e).1.length = n
 | 0, _, _ => rfl
 | n + 1, u, e => by
  have := itO_len f n u e
  rw [itO]; simp; omega
theorem itO_S {α : Type} {f : Nat → Nat → α × Nat × Nat} (hf : ∀ u e, e ≠ 0 → (f u e).2 = (u, e)) : ∀ (n u e : Nat), (itO f n u e).2 = (itS f n u e).2 ∧ ((itS f n u e).2.2 = 0 → (itO f n u e).1 = (itS f n u e).1)
 | 0, _, _ => ⟨rfl, fun _ => rfl⟩
 | n + 1, u, e => by
  obtain ⟨h1, h2⟩ := itO_S hf n u e
  rw [itO, itS]
  simp only
  rw [h1]
  by_cases h : (itS f n u e).2.2 ≠ 0
  ·rw [if_pos h, hf _ _ h]
   exact ⟨rfl, fun h' => absurd h' h⟩
  ·rw [if_neg h]
   have h0 : (itS f n u e).2.2 = 0 := by omega
   rw [h0, h2 h0]
   exact ⟨rfl, fun _ => rfl⟩
theorem itS_ok {α : Type} {f : Nat → Nat → α × Nat × Nat} {Q : α → Prop} {m : Nat} (hf : ∀ u, u ≤ m → Q (f u 0).1 ∧ (f u 0).2.1 ≤ m) : ∀ (n u e : Nat), u ≤ m → (∀ x ∈ (itS f n u e).1, Q x) ∧ (itS f n u e).2.1 ≤ m
 | 0, _, _, h => ⟨fun x hx => (by cases hx), h⟩
 | n + 1, u, e, h => by
  obtain ⟨h1, h2⟩ := itS_ok hf n u e h
  rw [itS]
  split
  ·exact ⟨h1, h2⟩
  ·obtain ⟨h3, h4⟩ := hf _ h2
   refine ⟨fun x hx => ?_, h4⟩
   rcases List.mem_append.1 hx with hx | hx
   ·exact h1 x hx
   ·obtain rfl := List.mem_singleton.1 hx; exact h3
theorem itO_ok {α : Type} {f : Nat → Nat → α × Nat × Nat} {Q : α → Prop} {m : Nat} (hf : ∀ u e, u ≤ m → Q (f u e).1 ∧ (f u e).2.1 ≤ m) : ∀ (n u e : Nat), u ≤ m → (∀ x ∈ (itO f n u e).1, Q x) ∧ (itO f n u e).2.1 ≤ m
 | 0, _, _, h => ⟨fun x hx => (by cases hx), h⟩
 | n + 1, u, e, h => by
  obtain ⟨h1, h2⟩ := itO_ok hf n u e h
  rw [itO]
  obtain ⟨h3, h4⟩ := hf _ (itO f n u e).2.2 h2
  refine ⟨fun x hx => ?_, h4⟩
  rcases List.mem_append.1 hx with hx | hx
  ·exact h1 x hx
  ·obtain rfl := List.mem_singleton.1 hx; exact h3
def bndS (b : List UInt8) (u : Nat) : Bo × Nat × Nat :=
 let t := fldR b u
 let n := cntO b 8 t.2.1 t.2.2
 let c := itS (prdO b) n.1 n.2.1 n.2.2
 let p := tagO b c.2.1 c.2.2
 (⟨t.1, c.1, p.1⟩, p.2)
def bndO (b : List UInt8) (u e : Nat) : Bo × Nat × Nat := if e ≠ 0 then (bo0, u, e) else bndS b u
def bunW (b : List UInt8) (i1 : (Nat → Nat → Ca × Nat × Nat) → Nat → Nat → Nat → List Ca × Nat × Nat) (i2 : (Nat → Nat → Bo × Nat × Nat) → Nat → Nat → Nat → List Bo × Nat × Nat) : Bu × Nat × Nat :=
 let v := numO b 0 0
 let g := numO b v.2.1 (if v.2.2 = 0 ∧ v.1 ≠ 1 then 6 else v.2.2)
 let n := numO b g.2.1 g.2.2
 let p := numO b n.2.1 n.2.2
 let s := numO b p.2.1 p.2.2
 let c := cntO b 64 s.2.1 s.2.2
 let cs := i1 (cavO b) c.1 c.2.1 c.2.2
 let t := tagO b cs.2.1 cs.2.2
 let d := cntO b 8 t.2.1 t.2.2
 let ds := i2 (bndO b) d.1 d.2.1 d.2.2
 (⟨⟨g.1, n.1⟩, p.1, s.1, cs.1, t.1, ds.1⟩, ds.2.1, if ds.2.2 = 0 ∧ ds.2.1 < b.length then 4 else ds.2.2)
def decB (b : List UInt8) : Bu × Nat :=
 if 4096 < b.length then (bu0, 2) else
 if (bunW b itS itS).2.2 ≠ 0 then (bu0, (bunW b itS itS).2.2) else
 if chkS (bunW b itS itS).1 ≠ 0 then (bu0, chkS (bunW b itS itS).1) else ((bunW b itS itS).1, 0)
def decBAV (r : Bu × Nat) : AV := .tup [buAV r.1, .lit (.int .i64 r.2)]
theorem numO_le {b : List UInt8} {u e : Nat} (h : u ≤ b.length) : (numO b u e).2.1 ≤ b.length := by
 unfold numO
 split
 ·exact h
 ·exact numR_le h
theorem cntO_le {b : List UInt8} {m u e : Nat} (h : u ≤ b.length) : (cntO b m u e).2.1 ≤ b.length := by
 have := numO_le (e := e) h
 unfold cntO
 split
 ·exact this
 split <;> exact this
theorem cntO_m (b : List UInt8) (m u e : Nat) : (cntO b m u e).1 ≤ m := by
 unfold cntO
 split
 ·simp
 split
 ·simp
 ·omega
theorem tagO_le {b : List UInt8} {u e : Nat} (h : u ≤ b.length) : (tagO b u e).2.1 ≤ b.length := by
 unfold tagO
 split
 ·exact h
 split
 ·assumption
 ·exact h
theorem cavO_off (b : List UInt8) (u e : Nat) (h : e ≠ 0) : (cavO b u e).2 = (u, e) := by unfold cavO; rw [if_pos h]
theorem bndO_off (b : List UInt8) (u e : Nat) (h : e ≠ 0) : (bndO b u e).2 = (u, e) := by unfold bndO; rw [if_pos h]
theorem finC_ok (c : Ca) (hp : PrOk c.first) (u n : Nat) (hu : u ≤ n) : PrOk (finC c u).1.first ∧ (finC c u).2.1 ≤ n := by
 unfold finC
 split
 ·exact ⟨hp, hu⟩
 ·exact ⟨zeroPr_ok, Nat.zero_le _⟩
theorem decC_ok (b : List UInt8) : PrOk (decC b).1.first ∧ (decC b).2.1 ≤ b.length := by
 have h0 := numR_le (b := b) (u := 0) (Nat.zero_le _)
 have z : ∀ e : Nat, PrOk ((zeroCa, 0, e) : Ca × Nat × Nat).1.first ∧ ((zeroCa, 0, e) : Ca × Nat × Nat).2.1 ≤ b.length := fun e => ⟨zeroPr_ok, Nat.zero_le _⟩
 unfold decC
 split
 ·exact z _
 split
 ·have := predR_ok h0
  split
  ·exact z _
  ·exact finC_ok _ this.1 _ _ this.2
 split
 ·simp only
  split
  ·exact z _
  ·exact finC_ok _ zeroPr_ok _ _ (fldO_le (fldO_le (numR_le h0)))
 ·exact z _
theorem cavO_ok {b : List UInt8} (u e : Nat) (h : u ≤ b.length) : PrOk (cavO b u e).1.first ∧ (cavO b u e).2.1 ≤ b.length := by
 have := decC_ok (b.drop u)
 rw [List.length_drop] at this
 unfold cavO
 split
 ·exact ⟨zeroPr_ok, h⟩
 ·exact ⟨this.1, by simp only; omega⟩
theorem prdO_ok {b : List UInt8} (u e : Nat) (h : u ≤ b.length) : PrOk (prdO b u e).1 ∧ (prdO b u e).2.1 ≤ b.length := by
 unfold prdO
 split
 ·exact ⟨zeroPr_ok, h⟩
 ·exact predR_ok h
theorem bndS_ok {b : List UInt8} (u : Nat) (h : u ≤ b.length) : BoIn (bndS b u).1 ∧ (bndS b u).2.1 ≤ b.length ∧ (bndS b u).1.conds.length ≤ 8 ∧ (bndS b u).1.ticket.length ≤ 1024 := by
 have h1 := fldR_le h
 have h2 := cntO_le (m := 8) (e := (fldR b u).2.2) h1
 have h3 := cntO_m b 8 (fldR b u).2.1 (fldR b u).2.2
 have h4 := itS_len (prdO b) (cntO b 8 (fldR b u).2.1 (fldR b u).2.2).1 (cntO b 8 (fldR b u).2.1 (fldR b u).2.2).2.1 (cntO b 8 (fldR b u).2.1 (fldR b u).2.2).2.2
 have h5 := itS_ok (f := prdO b) (Q := PrOk) (fun u hu => prdO_ok u 0 hu) (cntO b 8 (fldR b u).2.1 (fldR b u).2.2).1 (cntO b 8 (fldR b u).2.1 (fldR b u).2.2).2.1 (cntO b 8 (fldR b u).2.1 (fldR b u).2.2).2.2 h2
 have h6 := fldR_len b u
 exact ⟨⟨Nat.le_trans h6 (by decide), Nat.le_trans h4 (by omega), h5.1⟩, tagO_le h5.2, Nat.le_trans h4 h3, h6⟩
theorem bo0_in : BoIn bo0 := ⟨by decide, by decide, fun p hp => (by cases hp)⟩
theorem bndO_ok {b : List UInt8} (u e : Nat) (h : u ≤ b.length) : BoIn (bndO b u e).1 ∧ (bndO b u e).2.1 ≤ b.length := by
 unfold bndO
 split
 ·exact ⟨bo0_in, h⟩
 ·exact ⟨(bndS_ok u h).1, (bndS_ok u h).2.1⟩
theorem bunS_in (b : List UInt8) : BuIn (bunW b itS itS).1 := by
 have h1 : (numO b 0 0).2.1 ≤ b.length := numO_le (Nat.zero_le _)
 unfold bunW
 simp only
 generalize (numO b 0 0) = v at *
 have h2 := numO_le (e := if v.2.2 = 0 ∧ v.1 ≠ 1 then 6 else v.2.2) h1
 generalize numO b v.2.1 (if v.2.2 = 0 ∧ v.1 ≠ 1 then 6 else v.2.2) = g at *
 have h3 := numO_le (e := g.2.2) h2
 generalize numO b g.2.1 g.2.2 = n at *
 have h4 := numO_le (e := n.2.2) h3
 generalize numO b n.2.1 n.2.2 = p at *
 have h5 := numO_le (e := p.2.2) h4
 generalize numO b p.2.1 p.2.2 = s at *
 have h6 := cntO_le (m := 64) (e := s.2.2) h5
 have m6 := cntO_m b 64 s.2.1 s.2.2
 generalize cntO b 64 s.2.1 s.2.2 = c at *
 have h7 := itS_ok (f := cavO b) (Q := fun c => PrOk c.first) (fun u hu => cavO_ok u 0 hu) c.1 c.2.1 c.2.2 h6
 have l7 := itS_len (cavO b) c.1 c.2.1 c.2.2
 generalize itS (cavO b) c.1 c.2.1 c.2.2 = cs at *
 have h8 := tagO_le (e := cs.2.2) h7.2
 generalize tagO b cs.2.1 cs.2.2 = t at *
 have h9 := cntO_le (m := 8) (e := t.2.2) h8
 have m9 := cntO_m b 8 t.2.1 t.2.2
 generalize cntO b 8 t.2.1 t.2.2 = d at *
 have h10 := itS_ok (f := bndO b) (Q := BoIn) (fun u hu => bndO_ok u 0 hu) d.1 d.2.1 d.2.2 h9
 have l10 := itS_len (bndO b) d.1 d.2.1 d.2.2
 exact ⟨by simp only; omega, by simp only; omega, h7.1, h10.1⟩
theorem bunW_O (b : List UInt8) : (bunW b itO itO).2 = (bunW b itS itS).2 ∧ ((bunW b itS itS).2.2 = 0 → (bunW b itO itO).1 = (bunW b itS itS).1) := by
 unfold bunW
 simp only
 generalize (numO b 0 0) = v
 generalize numO b v.2.1 (if v.2.2 = 0 ∧ v.1 ≠ 1 then 6 else v.2.2) = g
 generalize numO b g.2.1 g.2.2 = n
 generalize numO b n.2.1 n.2.2 = p
 generalize numO b p.2.1 p.2.2 = s
 generalize cntO b 64 s.2.1 s.2.2 = c
 obtain ⟨h1, h2⟩ := itO_S (cavO_off b) c.1 c.2.1 c.2.2
 rw [h1]
 generalize itS (cavO b) c.1 c.2.1 c.2.2 = cs at *
 have ht : cs.2.2 ≠ 0 → (tagO b cs.2.1 cs.2.2).2.2 ≠ 0 := fun h => by unfold tagO; rw [if_pos h]; exact h
 generalize tagO b cs.2.1 cs.2.2 = t at *
 have hd : t.2.2 ≠ 0 → (cntO b 8 t.2.1 t.2.2).2.2 ≠ 0 := fun h => by
  have : numO b t.2.1 t.2.2 = (0, t.2.1, t.2.2) := by unfold numO; rw [if_pos h]
  unfold cntO; rw [this, if_pos h]; exact h
 generalize cntO b 8 t.2.1 t.2.2 = d at *
 obtain ⟨h3, h4⟩ := itO_S (bndO_off b) d.1 d.2.1 d.2.2
 have hi := itS_e (bndO b) d.1 d.2.1 d.2.2
 rw [h3]
 generalize itS (bndO b) d.1 d.2.1 d.2.2 = ds at *
 refine ⟨rfl, fun h => ?_⟩
 have e1 : ds.2.2 = 0 := by
  by_cases hq : ds.2.2 = 0 ∧ ds.2.1 < b.length
  ·exact hq.1
  ·rw [if_neg hq] at h; exact h
 have e2 : d.2.2 = 0 := by
  by_cases hq : d.2.2 = 0
  ·exact hq
  ·have := hi hq; rw [this] at e1; exact absurd e1 hq
 have e3 : t.2.2 = 0 := by
  by_cases hq : t.2.2 = 0
  ·exact hq
  ·exact absurd e2 (hd hq)
 have e4 : cs.2.2 = 0 := by
  by_cases hq : cs.2.2 = 0
  ·exact hq
  ·exact absurd e3 (ht hq)
 rw [h2 e4, h4 e1]

def brBox (t : List UInt8) (e : Nat) : Ent := .box 166 (.agg [.slice none (t.map byteAV), .lit (.int .i64 e)])
@[simp, go_sem] theorem brBox_ne (t : List UInt8) (e : Nat) : (brBox t e = .none) = False := by simp [brBox]
@[go_sem] theorem brBox_ren (t : List UInt8) (e : Nat) (f : Nat → Option Nat) : (brBox t e).ren f = brBox t e := by
 simp only [brBox, ent_ren_box, AV.ren, AV.renl, renl_bytes, Option.bind_none]
attribute [go_sem high] brBox
theorem took_spec (t : List UInt8) (q e0 e : Nat) (hq : q ≤ t.length) (_ht : t.length ≤ 1000000) (d k : Nat) :
  ACall Tryz.prog 206 [.ptr d [] 0, .lit (.int .i64 q), .lit (.int .i64 e)] k [(d, brBox t e0)] (.tup []) [(d, brBox (t.drop q) e)] := by
 have hd1 : (t.map byteAV).drop q = (t.drop q).map byteAV := by rw [List.map_drop]
 generalize t.drop q = T at *
 simp only [brBox]
 refine Bd Tryz.func206 Tryz.ntmps206 fun σ N hp hpn hk hkn hfree => ?_
 obtain ⟨hd, hdn⟩ := HD0 hp hpn; clear hp hpn
 refine Wk ?_
 refine go_fall ?_
 exact RW (d) (.box 166 (.agg [.slice none (T.map byteAV), .lit (.int .i64 (e : Int))]))
theorem bnumO_spec (b : List UInt8) (u e : Nat) (hu : u ≤ b.length) (hb : b.length ≤ 1000000) (d k : Nat) :
  ACall Tryz.prog 158 [.ptr d [] 0] k [(d, brBox (b.drop u) e)] (.lit (.int .i64 (numO b u e).1)) [(d, brBox (b.drop (numO b u e).2.1) (numO b u e).2.2)] := by
 unfold numO
 by_cases he : e ≠ 0
 ·rw [if_pos he]
  have he' : ((e : Int) == 0) = false := by rw [beq_eq_false_iff_ne]; omega
  simp only
  generalize b.drop u = t at *
  simp only [brBox]
  refine Bd Tryz.func158 Tryz.ntmps158 fun σ N hp hpn hk hkn hfree => ?_
  obtain ⟨hd, hdn⟩ := HD0 hp hpn; clear hp hpn
  refine Wk ?_
  exact RW (d) (.box 166 (.agg [.slice none (t.map byteAV), .lit (.int .i64 (e : Int))]))
 ·obtain rfl : e = 0 := by omega
  rw [if_neg he]
  have c1 := Read_spec (b.drop u) (by rw [List.length_drop]; omega)
  have hl := rdS_le (b.drop u)
  have hb' : (b.drop u).length ≤ 1000000 := by rw [List.length_drop]; omega
  unfold numR
  simp only
  rw [← List.drop_drop]
  generalize b.drop u = t at *
  generalize rdS t = R at *
  obtain ⟨n, q, e⟩ := R
  have c2 := took_spec t q 0 e hl hb' d
  simp only [rdAV] at *
  generalize t.drop q = T at *
  simp only [brBox] at *
  refine Bd Tryz.func158 Tryz.ntmps158 fun σ N hp hpn hk hkn hfree => ?_
  obtain ⟨hd, hdn⟩ := HD0 hp hpn; clear hp hpn
  have hcs := And.intro c1 (And.intro c2 True.intro)
  clear c1 c2
  refine Wk ?_
  exact RW (d) (.box 166 (.agg [.slice none (T.map byteAV), .lit (.int .i64 (e : Int))]))
theorem bcnt_spec (b : List UInt8) (m u e : Nat) (hu : u ≤ b.length) (hb : b.length ≤ 1000000) (d k : Nat) :
  ACall Tryz.prog 159 [.ptr d [] 0, .lit (.int .i64 m)] k [(d, brBox (b.drop u) e)] (.lit (.int .i64 (cntO b m u e).1)) [(d, brBox (b.drop (cntO b m u e).2.1) (cntO b m u e).2.2)] := by
 have c1 := bnumO_spec b u e hu hb d
 unfold cntO
 generalize numO b u e = R at *
 obtain ⟨n, v, x⟩ := R
 simp only at *
 generalize b.drop u = t at *
 by_cases hx : x ≠ 0
 ·rw [if_pos hx]
  have he' : ((x : Int) == 0) = false := by rw [beq_eq_false_iff_ne]; omega
  have he'' : ((x : Int) != 0) = true := by rw [bne, he']; rfl
  generalize b.drop v = T at *
  simp only [brBox] at *
  refine Bd Tryz.func159 Tryz.ntmps159 fun σ N hp hpn hk hkn hfree => ?_
  obtain ⟨hd, hdn⟩ := HD0 hp hpn; clear hp hpn
  have hcs := And.intro c1 True.intro
  clear c1
  refine Wk ?_
  exact RW (d) (.box 166 (.agg [.slice none (T.map byteAV), .lit (.int .i64 (x : Int))]))
 ·obtain rfl : x = 0 := by omega
  rw [if_neg hx]
  by_cases hm : m < n
  ·rw [if_pos hm]
   have hi : (m : Int) < (n : Int) := by omega
   simp only
   generalize b.drop v = T at *
   simp only [brBox] at *
   refine Bd Tryz.func159 Tryz.ntmps159 fun σ N hp hpn hk hkn hfree => ?_
   obtain ⟨hd, hdn⟩ := HD0 hp hpn; clear hp hpn
   have hcs := And.intro c1 True.intro
   clear c1
   refine Wk ?_
   exact RW (d) (.box 166 (.agg [.slice none (T.map byteAV), .lit (.int .i64 2)]))
  ·rw [if_neg hm]
   have hi : ¬ (m : Int) < (n : Int) := by omega
   simp only
   generalize b.drop v = T at *
   simp only [brBox] at *
   refine Bd Tryz.func159 Tryz.ntmps159 fun σ N hp hpn hk hkn hfree => ?_
   obtain ⟨hd, hdn⟩ := HD0 hp hpn; clear hp hpn
   have hcs := And.intro c1 True.intro
   clear c1
   refine Wk ?_
   exact RW (d) (.box 166 (.agg [.slice none (T.map byteAV), .lit (.int .i64 0)]))
theorem btag_spec (b : List UInt8) (u e : Nat) (hu : u ≤ b.length) (hb : b.length ≤ 1000000) (d k : Nat) :
  ACall Tryz.prog 161 [.ptr d [] 0] k [(d, brBox (b.drop u) e)] (tagAV (tagO b u e).1) [(d, brBox (b.drop (tagO b u e).2.1) (tagO b u e).2.2)] := by
 have hl : (b.drop u).length = b.length - u := by rw [List.length_drop]
 unfold tagO
 by_cases he : e ≠ 0
 ·rw [if_pos he]
  have he' : ((e : Int) == 0) = false := by rw [beq_eq_false_iff_ne]; omega
  simp only
  generalize b.drop u = t at *
  simp only [brBox]
  refine Bd Tryz.func161 Tryz.ntmps161 fun σ N hp hpn hk hkn hfree => ?_
  obtain ⟨hd, hdn⟩ := HD0 hp hpn; clear hp hpn
  refine Wk ?_
  exact RW (d) (.box 166 (.agg [.slice none (t.map byteAV), .lit (.int .i64 (e : Int))]))
 ·obtain rfl : e = 0 := by omega
  rw [if_neg he]
  by_cases hs : u + 32 ≤ b.length
  ·rw [dif_pos hs]
   have hi : ¬ ((b.drop u).length : Int) < 32 := by omega
   have h32 : 32 ≤ (b.drop u).length := by omega
   simp only
   rw [← List.drop_drop]
   have hb' : (b.drop u).length ≤ 1000000 := by omega
   obtain ⟨T, hT⟩ : ∃ T : Tg, T = ⟨(b.drop u).take 32, by rw [List.length_take]; omega⟩ := ⟨⟨(b.drop u).take 32, by rw [List.length_take]; omega⟩, rfl⟩
   have hT1 : ((b.drop u).map byteAV).take 32 = T.1.map byteAV := by rw [hT, List.map_take]
   have c1 := took_spec (b.drop u) 32 0 0 h32 hb' d
   have hmin : Nat.min (b.drop u).length 32 = 32 := Nat.min_eq_right h32
   rw [← hT]
   clear hT hs
   generalize b.drop u = t at *
   obtain ⟨T, hTl⟩ := T
   generalize t.drop 32 = t' at *
   have hs1 : (AV.agg (T.map byteAV)).sz = 32 := by simp only [AV.sz, szl_bytes]; exact hTl
   have hs2 : (AV.agg (T.map byteAV)).cell = true := celll_bytes T
   have hz32 : (zeroTag.val.map byteAV).drop 32 = [] := rfl
   simp only [tagAV, brBox] at *
   refine Bd Tryz.func161 Tryz.ntmps161 fun σ N hp hpn hk hkn hfree => ?_
   obtain ⟨hd, hdn⟩ := HD0 hp hpn; clear hp hpn
   have M : Mut (N + 20) := ⟨⟩
   have hcs := And.intro c1 True.intro
   clear c1
   refine Wk ?_
   exact RW (d) (.box 166 (.agg [.slice none (t'.map byteAV), .lit (.int .i64 0)]))
  ·rw [dif_neg hs]
   have hi : ((b.drop u).length : Int) < 32 := by omega
   simp only
   generalize b.drop u = t at *
   simp only [brBox]
   refine Bd Tryz.func161 Tryz.ntmps161 fun σ N hp hpn hk hkn hfree => ?_
   obtain ⟨hd, hdn⟩ := HD0 hp hpn; clear hp hpn
   refine Wk ?_
   exact RW (d) (.box 166 (.agg [.slice none (t.map byteAV), .lit (.int .i64 3)]))
theorem bcav_spec (b : List UInt8) (u e : Nat) (hu : u ≤ b.length) (hb : b.length ≤ 1000000) (d g k : Nat) (_hdg : d ≠ g) :
  ACall Tryz.prog 160 [.ptr d [] 0] k [(d, brBox (b.drop u) e), (g, bitsG)] (caAV (cavO b u e).1) [(d, brBox (b.drop (cavO b u e).2.1) (cavO b u e).2.2)] := by
 unfold cavO
 by_cases he : e ≠ 0
 ·rw [if_pos he]
  have he' : ((e : Int) == 0) = false := by rw [beq_eq_false_iff_ne]; omega
  simp only
  generalize b.drop u = t at *
  simp only [brBox, zeroCa, caAV, prAV, zeroPr, List.map_nil]
  refine Bd Tryz.func160 Tryz.ntmps160 fun σ N hp hpn hk hkn hfree => ?_
  simp only [List.mem_cons, List.not_mem_nil, or_false, forall_eq_or_imp, forall_eq] at hp hpn; obtain ⟨hd1, hd2⟩ := hp; obtain ⟨hdn1, hdn2⟩ := hpn
  refine Wk ?_
  exact RV (d) (.box 166 (.agg [.slice none (t.map byteAV), .lit (.int .i64 (e : Int))]))
 ·obtain rfl : e = 0 := by omega
  rw [if_neg he]
  have c1 := cDec_spec (b.drop u) (by rw [List.length_drop]; omega) g
  have hl := (decC_ok (b.drop u)).2
  have hb' : (b.drop u).length ≤ 1000000 := by rw [List.length_drop]; omega
  simp only
  rw [← List.drop_drop]
  generalize b.drop u = t at *
  generalize decC t = R at *
  obtain ⟨c, q, e⟩ := R
  have c2 := took_spec t q 0 e hl hb' d
  simp only [decCAV] at *
  generalize t.drop q = T at *
  simp only [brBox] at *
  refine Bd Tryz.func160 Tryz.ntmps160 fun σ N hp hpn hk hkn hfree => ?_
  simp only [List.mem_cons, List.not_mem_nil, or_false, forall_eq_or_imp, forall_eq] at hp hpn; obtain ⟨hd1, hd2⟩ := hp; obtain ⟨hdn1, hdn2⟩ := hpn
  have hcs := And.intro c1 (And.intro c2 True.intro)
  clear c1 c2
  refine Wk ?_
  exact RW (d) (.box 166 (.agg [.slice none (T.map byteAV), .lit (.int .i64 (e : Int))]))

@[simp, go_sem] theorem itS_zero {α : Type} (f : Nat → Nat → α × Nat × Nat) (u e : Nat) : itS f 0 u e = ([], u, e) := rfl
@[simp, go_sem] theorem itO_zero {α : Type} (f : Nat → Nat → α × Nat × Nat) (u e : Nat) : itO f 0 u e = ([], u, e) := rfl
theorem itS_succ {α : Type} (f : Nat → Nat → α × Nat × Nat) (n u e : Nat) {l : List α} {v : Nat} (h : itS f n u e = (l, v, 0)) : itS f (n + 1) u e = (l ++ [(f v 0).1], (f v 0).2) := by
 rw [itS, h, if_neg (by simp)]
theorem itO_succ {α : Type} (f : Nat → Nat → α × Nat × Nat) (n u e : Nat) {l : List α} {v x : Nat} (h : itO f n u e = (l, v, x)) : itO f (n + 1) u e = (l ++ [(f v x).1], (f v x).2) := by
 rw [itO, h]
set_option maxHeartbeats 4000000 in
theorem bbnd_spec (b : List UInt8) (u e : Nat) (hu : u ≤ b.length) (hb : b.length ≤ 1000000) (d g k : Nat) (hdg : d ≠ g) :
  ACall Tryz.prog 162 [.ptr d [] 0] k [(d, brBox (b.drop u) e), (g, bitsG)] (boAV (bndO b u e).1) [(d, brBox (b.drop (bndO b u e).2.1) (bndO b u e).2.2)] := by
 have hgd : g ≠ d := fun h => hdg h.symm
 unfold bndO
 by_cases he : e ≠ 0
 ·rw [if_pos he]
  have he' : ((e : Int) == 0) = false := by rw [beq_eq_false_iff_ne]; omega
  have he'' : ((e : Int) != 0) = true := by rw [bne, he']; rfl
  simp only
  generalize b.drop u = t at *
  simp only [brBox, bo0, boAV, List.map_nil]
  refine Bd Tryz.func162 Tryz.ntmps162 fun σ N hp hpn hk hkn hfree => ?_
  simp only [List.mem_cons, List.not_mem_nil, or_false, forall_eq_or_imp, forall_eq] at hp hpn; obtain ⟨hd1, hd2⟩ := hp; obtain ⟨hdn1, hdn2⟩ := hpn
  refine Wk ?_
  exact RV (d) (.box 166 (.agg [.slice none (t.map byteAV), .lit (.int .i64 (e : Int))]))
 ·obtain rfl : e = 0 := by omega
  rw [if_neg he]
  have c1 := fieldRead_spec (b.drop u) (by rw [List.length_drop]; omega)
  have hl := rdF_le (b.drop u)
  have hb' : (b.drop u).length ≤ 1000000 := by rw [List.length_drop]; omega
  have hf : fldR b u = ((rdF (b.drop u)).1, u + (rdF (b.drop u)).2.1, (rdF (b.drop u)).2.2) := rfl
  have hv1 : (fldR b u).2.1 ≤ b.length := fldR_le hu
  unfold bndS
  simp only
  have c2 := took_spec (b.drop u) (rdF (b.drop u)).2.1 0 (rdF (b.drop u)).2.2 hl hb' d
  rw [List.drop_drop] at c2
  rw [hf] at hv1 ⊢
  simp only at hv1 ⊢
  generalize hR : rdF (b.drop u) = R at *
  obtain ⟨ti, q, e1⟩ := R
  simp only [rdFAV] at *
  generalize u + q = v1 at *
  clear hf
  have c3 := bcnt_spec b 8 v1 e1 hv1 hb d
  have hv2 := cntO_le (m := 8) (e := e1) hv1
  have hm := cntO_m b 8 v1 e1
  generalize cntO b 8 v1 e1 = R at *
  obtain ⟨m, v2, e2⟩ := R
  simp only at *
  obtain ⟨⟨L, v3, e3⟩, hit⟩ : ∃ R, itS (prdO b) m v2 e2 = R := ⟨_, rfl⟩
  have hv3 : v3 ≤ b.length := by have := (itS_ok (f := prdO b) (Q := PrOk) (fun u hu => prdO_ok u 0 hu) m v2 e2 hv2).2; rw [hit] at this; exact this
  rw [hit]
  simp only
  have c5 := btag_spec b v3 e3 hv3 hb d
  generalize tagO b v3 e3 = R at *
  obtain ⟨tg, v4, e4⟩ := R
  simp only at *
  simp only [boAV]
  generalize hT : b.drop u = T at *
  have h8 : ((8 : Nat) : Int) = 8 := rfl
  rw [h8] at c3
  clear h8 hl hb' hR hu
  refine Bd Tryz.func162 Tryz.ntmps162 fun σ N hp hpn hk hkn hfree => ?_
  simp only [List.mem_cons, List.not_mem_nil, or_false, forall_eq_or_imp, forall_eq] at hp hpn; obtain ⟨hd1, hd2⟩ := hp; obtain ⟨hdn1, hdn2⟩ := hpn
  have hcs := And.intro c1 (And.intro c2 (And.intro c3 True.intro))
  clear c1 c2 c3
  refine Wm ?_
  iterate 3 refine Wz ?_
  refine go_nilrowIn (N + 6) [1] 110 6 (bt := 70) (c := .agg [.nils, .nils, tagAV zeroTag]) (by simp (disch := omega) [go_sem, *, -List.reduceReplicate]) rfl ?_
  refine Wk ?_
  clear hcs
  refine go_loopF mixed (by kernel_rfl) [7, 8, 9, 10, 34, 35, 36, 37, 38, 39, 40, 41, 42, 43, 44, 45, 46, 47, 48, 49, 50, 51, 52, 53, 54, 55, 56, 57, 58, 59, 60, 61, 62, 63] [d, N+6, N+7] (fun m_ s_ σ_ n_ => ∃ (w : Nat) (l : List Pr) (v : Nat) (x : Nat), m_ = w ∧ s_ 7 = .lit (.int .i64 w) ∧ σ_ (d) = brBox (b.drop v) x ∧ σ_ (N+6) = .box 70 (.agg [.slice none (ti.map byteAV), .slice (some (N + 7)) (l.map prAV), tagAV zeroTag]) ∧ σ_ (N+7) = .row 110 6 l.length ∧ (w ≤ m) ∧ (itS (prdO b) (m - w) v2 e2 = (l, v, x)) ∧ (v ≤ b.length)) ⟨_, m, [], v2, e2, rfl, WF, WF, WF, WF, WC, WC, WC⟩ ?_
  intro m_1 s_1 σ_1 n_1 hs_1 hf_1 hn_1 hI_1
  obtain ⟨w, l, v, x, hm_1, h1_7, e1_0, e1_1, e1_2, hw, hi, hv⟩ := hI_1
  have h1_0 := KS hs_1 0
  have h1_2 := KS hs_1 2
  have h1_3 := KS hs_1 3
  have k1_0 := KE hf_1 (N)
  have k1_1 := KE hf_1 (g)
  have hlow := KD (N := N) (d := d) (σ := σ) hf_1
  have hll : l.length ≤ m := by have := itS_len (prdO b) (m - w) v2 e2; rw [hi] at this; simp only at this; omega
  by_cases hx : x = 0
  ·subst hx
   rcases w with _ | w
   ·rw [Nat.sub_zero, hit, Prod.mk.injEq, Prod.mk.injEq] at hi
    obtain ⟨rfl, rfl, rfl⟩ := hi
    clear hit
    generalize b.drop v4 = T4 at *
    have hcs := And.intro c5 True.intro
    clear c5
    refine Wk ?_
    exact RV (d) (brBox T4 e4)
   ·have c6 := pDec_spec (b.drop v) (by rw [List.length_drop]; omega) g
    have hl := (decP_ok (b.drop v)).2
    have hb' : (b.drop v).length ≤ 1000000 := by rw [List.length_drop]; omega
    have c7 := took_spec (b.drop v) (decP (b.drop v)).2.1 0 (decP (b.drop v)).2.2 hl hb' d
    rw [List.drop_drop] at c7
    have hs := itS_succ _ _ _ _ hi
    rw [show m - (w + 1) + 1 = m - w by omega] at hs
    have hp : prdO b v 0 = ((decP (b.drop v)).1, v + (decP (b.drop v)).2.1, (decP (b.drop v)).2.2) := rfl
    rw [hp] at hs
    have hvn : v + (decP (b.drop v)).2.1 ≤ b.length := by rw [List.length_drop] at hl; omega
    generalize decP (b.drop v) = R at *
    obtain ⟨p, q1, e5⟩ := R
    simp only [decPAV] at *
    generalize v + q1 = vn at *
    generalize b.drop v = T2 at *
    clear hi hp hl hb' c5 hit
    have hcs := And.intro c6 (And.intro c7 True.intro)
    clear c6 c7
    refine Wk ?_
    clear hcs
    exact ⟨WS, WG, WN, _, (show (w) < m_1 by omega), w, l ++ [p], vn, e5, rfl, WF, WF, WF, WF, WC, WC, WC⟩
  ·have hx' : ((x : Int) == 0) = false := by rw [beq_eq_false_iff_ne]; omega
   have hst := itS_stop (prdO b) (i := m - w) (u := v2) (e := e2) (by rw [hi]; exact hx) m (by omega)
   rw [hit, hi, Prod.mk.injEq, Prod.mk.injEq] at hst
   obtain ⟨rfl, rfl, rfl⟩ := hst
   generalize b.drop v4 = T4 at *
   have hcs := And.intro c5 True.intro
   clear c5 hit hi
   rcases w with _ | w
   all_goals
    refine Wk ?_
    exact RV (d) (brBox T4 e4)

set_option maxHeartbeats 8000000 in
theorem bbun_spec (b : List UInt8) (hb : b.length ≤ 1000000) (d g k : Nat) (hdg : d ≠ g) :
  ACall Tryz.prog 93 [.ptr d [] 0] k [(d, brBox b 0), (g, bitsG)] (buAV (bunW b itO itO).1) [(d, brBox (b.drop (bunW b itO itO).2.1) (bunW b itO itO).2.2)] := by
 have hgd : g ≠ d := fun h => hdg h.symm
 have c1 := bnumO_spec b 0 0 (Nat.zero_le _) hb d
 rw [List.drop_zero] at c1
 have h1 : (numO b 0 0).2.1 ≤ b.length := numO_le (Nat.zero_le _)
 unfold bunW
 simp only
 generalize numO b 0 0 = R at *
 obtain ⟨n1, v1, e1⟩ := R
 simp only at *
 generalize hx1 : (if e1 = 0 ∧ n1 ≠ 1 then 6 else e1) = x1 at *
 have c2 := bnumO_spec b v1 x1 h1 hb d
 have h2 := numO_le (e := x1) h1
 generalize numO b v1 x1 = R at *
 obtain ⟨n2, v2, e2⟩ := R
 simp only at *
 have c3 := bnumO_spec b v2 e2 h2 hb d
 have h3 := numO_le (e := e2) h2
 generalize numO b v2 e2 = R at *
 obtain ⟨n3, v3, e3⟩ := R
 simp only at *
 have c4 := bnumO_spec b v3 e3 h3 hb d
 have h4 := numO_le (e := e3) h3
 generalize numO b v3 e3 = R at *
 obtain ⟨n4, v4, e4⟩ := R
 simp only at *
 have c5 := bnumO_spec b v4 e4 h4 hb d
 have h5 := numO_le (e := e4) h4
 generalize numO b v4 e4 = R at *
 obtain ⟨n5, v5, e5⟩ := R
 simp only at *
 have c6 := bcnt_spec b 64 v5 e5 h5 hb d
 have h6 := cntO_le (m := 64) (e := e5) h5
 have m6 := cntO_m b 64 v5 e5
 generalize cntO b 64 v5 e5 = R at *
 obtain ⟨mc, v6, e6⟩ := R
 simp only at *
 obtain ⟨⟨L, v7, e7⟩, hit⟩ : ∃ R, itO (cavO b) mc v6 e6 = R := ⟨_, rfl⟩
 have h7 : v7 ≤ b.length := by have := (itO_ok (f := cavO b) (Q := fun c => PrOk c.first) (fun u e hu => cavO_ok u e hu) mc v6 e6 h6).2; rw [hit] at this; exact this
 rw [hit]
 simp only
 have c8 := btag_spec b v7 e7 h7 hb d
 have h8 := tagO_le (e := e7) h7
 generalize tagO b v7 e7 = R at *
 obtain ⟨tg, v8, e8⟩ := R
 simp only at *
 have c9 := bcnt_spec b 8 v8 e8 h8 hb d
 have h9 := cntO_le (m := 8) (e := e8) h8
 have m9 := cntO_m b 8 v8 e8
 generalize cntO b 8 v8 e8 = R at *
 obtain ⟨md, v9, e9⟩ := R
 simp only at *
 obtain ⟨⟨D, v10, e10⟩, hid⟩ : ∃ R, itO (bndO b) md v9 e9 = R := ⟨_, rfl⟩
 have h10 : v10 ≤ b.length := by have := (itO_ok (f := bndO b) (Q := BoIn) (fun u e hu => bndO_ok u e hu) md v9 e9 h9).2; rw [hid] at this; exact this
 rw [hid]
 simp only [buAV, rqAV]
 have k64 : ((64 : Nat) : Int) = 64 := rfl
 have k8 : ((8 : Nat) : Int) = 8 := rfl
 rw [k64] at c6
 rw [k8] at c9
 clear k64 k8 h1 h2 h3 h4 h5 h7 h8
 refine Bd Tryz.func93 Tryz.ntmps93 fun σ N hp hpn hk hkn hfree => ?_
 simp only [List.mem_cons, List.not_mem_nil, or_false, forall_eq_or_imp, forall_eq] at hp hpn; obtain ⟨hd1, hd2⟩ := hp; obtain ⟨hdn1, hdn2⟩ := hpn
 refine Wm ?_
 iterate 2 refine Wz ?_
 refine go_nilrowIn (N + 1) [3] 120 10 (bt := 29) (c := .agg [.agg [.lit (.int .i64 0), .lit (.int .i64 0)], .lit (.int .i64 0), .lit (.int .i64 0), .nils, tagAV zeroTag, .nils]) (by simp (disch := omega) [go_sem, *, -List.reduceReplicate]) rfl ?_
 refine go_nilrowIn (N + 1) [5] 70 34 (bt := 29) (c := .agg [.agg [.lit (.int .i64 0), .lit (.int .i64 0)], .lit (.int .i64 0), .lit (.int .i64 0), .slice (some (N + 2)) [], tagAV zeroTag, .nils]) (by simp (disch := omega) [go_sem, *, -List.reduceReplicate]; try rfl) rfl ?_
 have hcs := And.intro c1 (And.intro c2 (And.intro c3 (And.intro c4 (And.intro c5 (And.intro c6 True.intro)))))
 clear c1 c2 c3 c4 c5 c6
 have hv1 : (e1 ≠ 0 ∧ ((e1 : Int) == 0) = false ∧ x1 = e1) ∨ (e1 = 0 ∧ n1 = 1 ∧ x1 = 0) ∨ (e1 = 0 ∧ ((n1 : Int) != 1) = true ∧ ((n1 : Int) == 1) = false ∧ x1 = 6) := by
  by_cases q1 : e1 = 0
  ·by_cases q2 : n1 = 1
   ·rw [if_neg (by omega)] at hx1; exact .inr (.inl ⟨q1, q2, by omega⟩)
   ·rw [if_pos ⟨q1, q2⟩] at hx1
    have : ((n1 : Int) == 1) = false := by rw [beq_eq_false_iff_ne]; omega
    exact .inr (.inr ⟨q1, by rw [bne, this]; rfl, this, hx1.symm⟩)
  ·rw [if_neg (by omega)] at hx1; exact .inl ⟨q1, by rw [beq_eq_false_iff_ne]; omega, hx1.symm⟩
 clear hx1
 rcases hv1 with ⟨q1, q2, rfl⟩ | ⟨rfl, rfl, rfl⟩ | ⟨rfl, q2, q3, rfl⟩
 all_goals
  refine Wk ?_
  clear hcs
  refine go_loopF mixed (by kernel_rfl) [5, 37, 38, 39, 40, 41, 42, 43, 44, 45, 46, 47] [d, N+1, N+2] (fun m_ s_ σ_ n_ => ∃ (w : Nat) (l : List Ca) (v : Nat) (x : Nat), m_ = w ∧ s_ 5 = .lit (.int .i64 w) ∧ σ_ (d) = brBox (b.drop v) x ∧ σ_ (N+1) = .box 29 (.agg [.agg [.lit (.int .i64 n2), .lit (.int .i64 n3)], .lit (.int .i64 n4), .lit (.int .i64 n5), .slice (some (N + 2)) (l.map caAV), tagAV zeroTag, .slice (some (N + 3)) []]) ∧ σ_ (N+2) = .row 120 10 l.length ∧ (w ≤ mc) ∧ (itO (cavO b) (mc - w) v6 e6 = (l, v, x)) ∧ (v ≤ b.length)) ⟨_, mc, [], v6, e6, rfl, WF, WF, WF, WF, WC, WC, WC⟩ ?_
  intro m_1 s_1 σ_1 n_1 hs_1 hf_1 hn_1 hI_1
  obtain ⟨w, l, v, x, hm_1, h1_5, e1_0, e1_1, e1_2, hw, hi, hv⟩ := hI_1
  have h1_0 := KS hs_1 0
  have h1_2 := KS hs_1 2
  have h1_3 := KS hs_1 3
  have k1_0 := KE hf_1 (N)
  have k1_1 := KE hf_1 (N + 3)
  have k1_2 := KE hf_1 (g)
  have hlow := KD (N := N) (d := d) (σ := σ) hf_1
  have hll : l.length = mc - w := by have := itO_len (cavO b) (mc - w) v6 e6; rw [hi] at this; simpa using this
  rcases w with _ | w
  ·rw [Nat.sub_zero, hit, Prod.mk.injEq, Prod.mk.injEq] at hi
   obtain ⟨rfl, rfl, rfl⟩ := hi
   have hcs := And.intro c8 (And.intro c9 True.intro)
   clear c8 c9 hit
   refine Wk ?_
   clear hcs
   refine go_loopF mixed (by kernel_rfl) [6, 53, 54, 55, 56, 57, 58, 59, 60, 61, 62, 63] [d, N+1, N+3] (fun m_ s_ σ_ n_ => ∃ (w2 : Nat) (r : List Bo) (z : Nat) (y : Nat), m_ = w2 ∧ s_ 6 = .lit (.int .i64 w2) ∧ σ_ (d) = brBox (b.drop z) y ∧ σ_ (N+1) = .box 29 (.agg [.agg [.lit (.int .i64 n2), .lit (.int .i64 n3)], .lit (.int .i64 n4), .lit (.int .i64 n5), .slice (some (N + 2)) (L.map caAV), tagAV tg, .slice (some (N + 3)) (r.map boAV)]) ∧ σ_ (N+3) = .row 70 34 r.length ∧ (w2 ≤ md) ∧ (itO (bndO b) (md - w2) v9 e9 = (r, z, y)) ∧ (z ≤ b.length)) ⟨_, md, [], v9, e9, rfl, WF, WF, WF, WF, WC, WC, WC⟩ ?_
   intro m_2 s_2 σ_2 n_2 hs_2 hf_2 hn_2 hI_2
   obtain ⟨w2, r, z, y, hm_2, h2_6, e2_0, e2_1, e2_2, hw2, hj, hz⟩ := hI_2
   have h2_0 := KS hs_2 0
   have h2_2 := KS hs_2 2
   have h2_3 := KS hs_2 3
   have k2_0 := KE hf_2 (N)
   have k2_1 := KE hf_2 (N + 2)
   have k2_2 := KE hf_2 (g)
   have hlow := KD (N := N) (d := d) (σ := σ) hf_2
   have hrl : r.length = md - w2 := by have := itO_len (bndO b) (md - w2) v9 e9; rw [hj] at this; simpa using this
   rcases w2 with _ | w2
   ·rw [Nat.sub_zero, hid, Prod.mk.injEq, Prod.mk.injEq] at hj
    obtain ⟨rfl, rfl, rfl⟩ := hj
    clear hid
    have hlen : (b.drop v10).length = b.length - v10 := List.length_drop
    by_cases hy : e10 = 0
    ·subst hy
     by_cases hv : v10 < b.length
     ·have hlt : (0 : Int) < ((b.drop v10).length : Int) := by omega
      rw [if_pos ⟨rfl, hv⟩]
      generalize b.drop v10 = T at *
      refine Wk ?_
      exact RV (d) (.box 166 (.agg [.slice none (T.map byteAV), .lit (.int .i64 4)]))
     ·have hlt : ¬ (0 : Int) < ((b.drop v10).length : Int) := by omega
      rw [if_neg (by omega)]
      generalize b.drop v10 = T at *
      refine Wk ?_
      exact RV (d) (.box 166 (.agg [.slice none (T.map byteAV), .lit (.int .i64 0)]))
    ·have hy' : ((e10 : Int) == 0) = false := by rw [beq_eq_false_iff_ne]; omega
     rw [if_neg (fun h => hy h.1)]
     generalize b.drop v10 = T at *
     refine Wk ?_
     exact RV (d) (.box 166 (.agg [.slice none (T.map byteAV), .lit (.int .i64 (e10 : Int))]))
   ·have c10 := fun k => bbnd_spec b z y hz hb d g k hdg
    have hs := itO_succ _ _ _ _ hj
    rw [show md - (w2 + 1) + 1 = md - w2 by omega] at hs
    have hzn := (bndO_ok z y hz).2
    generalize bndO b z y = R at *
    obtain ⟨bo, zn, yn⟩ := R
    simp only at *
    clear hj hid
    have hcs := And.intro c10 True.intro
    clear c10
    refine Wk ?_
    clear hcs
    exact ⟨WS, WG, WN, _, (show (w2) < m_2 by omega), w2, r ++ [bo], zn, yn, rfl, WF, WF, WF, WF, WC, WC, WC⟩
  ·have c10 := fun k => bcav_spec b v x hv hb d g k hdg
   have hs := itO_succ _ _ _ _ hi
   rw [show mc - (w + 1) + 1 = mc - w by omega] at hs
   have hvn := (cavO_ok v x hv).2
   generalize cavO b v x = R at *
   obtain ⟨ca, vn, xn⟩ := R
   simp only at *
   clear hi hit c8 c9
   have hcs := And.intro c10 True.intro
   clear c10
   refine Wk ?_
   clear hcs
   exact ⟨WS, WG, WN, _, (show (w) < m_1 by omega), w, l ++ [ca], vn, xn, rfl, WF, WF, WF, WF, WC, WC, WC⟩
set_option maxHeartbeats 4000000 in
theorem bDec_spec (b : List UInt8) (hb : b.length ≤ 9223372036854775807) (d k : Nat) : ACall Tryz.prog 39 [.slice none (b.map byteAV)] k [(d, bitsG)] (decBAV (decB b)) [] := by
 by_cases hl : 4096 < b.length
 ·have hi : (4096 : Int) < (b.length : Int) := by omega
  unfold decB
  rw [if_pos hl]
  simp only [decBAV, buAV, bu0, rqAV, List.map_nil]
  refine Bd Tryz.func39 Tryz.ntmps39 fun σ N hp hpn hk hkn hfree => ?_
  obtain ⟨hd, hdn⟩ := HD0 hp hpn; clear hp hpn
  exact WD
 ·have hi : ¬ (4096 : Int) < (b.length : Int) := by omega
  have c1 := fun d' k h => bbun_spec b (by omega) d' d k h
  obtain ⟨o1, o2⟩ := bunW_O b
  have hin := bunS_in b
  unfold decB
  rw [if_neg hl]
  generalize bunW b itO itO = R at *
  generalize bunW b itS itS = Q at *
  obtain ⟨B, u, e⟩ := R
  obtain ⟨B', u', e'⟩ := Q
  simp only at *
  obtain ⟨rfl, rfl⟩ := Prod.mk.inj o1
  clear o1
  generalize b.drop u = T at *
  by_cases he : e ≠ 0
  ·rw [if_pos he]
   have he' : ((e : Int) == 0) = false := by rw [beq_eq_false_iff_ne]; omega
   have he'' : ((e : Int) != 0) = true := by rw [bne, he']; rfl
   clear o2 hin
   simp only [decBAV]
   have hz : buAV bu0 = .agg [.agg [.lit (.int .i64 0), .lit (.int .i64 0)], .lit (.int .i64 0), .lit (.int .i64 0), .slice none [], tagAV zeroTag, .slice none []] := rfl
   rw [hz]
   refine Bd Tryz.func39 Tryz.ntmps39 fun σ N hp hpn hk hkn hfree => ?_
   obtain ⟨hd, hdn⟩ := HD0 hp hpn; clear hp hpn
   have hcs := And.intro (fun k => c1 (N + 7) k (by omega)) True.intro
   clear c1
   exact WD
  ·obtain rfl : e = 0 := by omega
   rw [if_neg he]
   obtain rfl := o2 rfl
   have c2 := Check_spec B hin d
   clear o2 he
   by_cases hc : chkS B ≠ 0
   ·rw [if_pos hc]
    generalize chkS B = x at *
    have he' : ((x : Int) == 0) = false := by rw [beq_eq_false_iff_ne]; omega
    have he'' : ((x : Int) != 0) = true := by rw [bne, he']; rfl
    simp only [decBAV]
    have hz : buAV bu0 = .agg [.agg [.lit (.int .i64 0), .lit (.int .i64 0)], .lit (.int .i64 0), .lit (.int .i64 0), .slice none [], tagAV zeroTag, .slice none []] := rfl
    rw [hz]
    refine Bd Tryz.func39 Tryz.ntmps39 fun σ N hp hpn hk hkn hfree => ?_
    obtain ⟨hd, hdn⟩ := HD0 hp hpn; clear hp hpn
    have hcs := And.intro (fun k => c1 (N + 7) k (by omega)) (And.intro c2 True.intro)
    clear c1 c2
    exact WD
   ·rw [if_neg hc]
    have hc0 : chkS B = 0 := by omega
    rw [hc0] at c2
    simp only [decBAV]
    refine Bd Tryz.func39 Tryz.ntmps39 fun σ N hp hpn hk hkn hfree => ?_
    obtain ⟨hd, hdn⟩ := HD0 hp hpn; clear hp hpn
    have hcs := And.intro (fun k => c1 (N + 7) k (by omega)) (And.intro c2 True.intro)
    clear c1 c2
    exact WD


def bytO (b : List UInt8) (u e : Nat) : List UInt8 × Nat × Nat :=
 if e ≠ 0 then (List.replicate 32 0, u, e) else if u + 32 ≤ b.length then ((b.drop u).take 32, u + 32, 0) else (List.replicate 32 0, u, 3)
theorem tagO_byt (b : List UInt8) (u e : Nat) : (tagO b u e).1.1 = (bytO b u e).1 ∧ (tagO b u e).2 = (bytO b u e).2 := by
 unfold tagO bytO
 split
 ·exact ⟨rfl, rfl⟩
 split
 ·exact ⟨rfl, rfl⟩
 ·exact ⟨rfl, rfl⟩
theorem RBytO_spec (b : List UInt8) (u e : Nat) (hu : u ≤ b.length) (hb : b.length ≤ 1000000) (d k : Nat) :
  ACall Tryz.prog 165 [.ptr d [] 0, .lit (.int .i64 32)] k [(d, RdBox b u e)] (.slice none ((bytO b u e).1.map byteAV)) [(d, RdBox b (bytO b u e).2.1 (bytO b u e).2.2)] := by
 have hz : List.replicate 32 (AV.lit (.int .u8 0)) = (List.replicate 32 (0 : UInt8)).map byteAV := rfl
 unfold bytO
 by_cases he : e ≠ 0
 ·rw [if_pos he]
  have he' : ((e : Int) == 0) = false := by rw [beq_eq_false_iff_ne]; omega
  have he'' : ((e : Int) != 0) = true := by rw [bne, he']; rfl
  generalize (List.replicate 32 (0 : UInt8)) = Z at *
  simp only [RdBox]
  refine Bd Tryz.func165 Tryz.ntmps165 fun σ N hp hpn hk hkn hfree => ?_
  obtain ⟨hd, hdn⟩ := HD0 hp hpn; clear hp hpn
  refine Wk ?_
  exact RV (d) (.box 169 (.agg [.slice none (b.map byteAV), .lit (.int .i64 (u : Int)), .lit (.int .i64 (e : Int))]))
 ·obtain rfl : e = 0 := by omega
  rw [if_neg he]
  by_cases hs : u + 32 ≤ b.length
  ·rw [if_pos hs]
   have hs' : ¬ (b.length : Int) - (u : Int) < 32 := by omega
   have hsl := take_drop_bytes b u 32
   have hu32 : ((u : Int) + 32).toNat = u + 32 := by omega
   generalize (b.drop u).take 32 = T at *
   simp only [RdBox]
   refine Bd Tryz.func165 Tryz.ntmps165 fun σ N hp hpn hk hkn hfree => ?_
   obtain ⟨hd, hdn⟩ := HD0 hp hpn; clear hp hpn
   refine Wk ?_
   exact RV (d) (.box 169 (.agg [.slice none (b.map byteAV), .lit (.int .i64 ((u : Int) + 32)), .lit (.int .i64 0)]))
  ·rw [if_neg hs]
   have hs' : (b.length : Int) - (u : Int) < 32 := by omega
   generalize (List.replicate 32 (0 : UInt8)) = Z at *
   simp only [RdBox]
   refine Bd Tryz.func165 Tryz.ntmps165 fun σ N hp hpn hk hkn hfree => ?_
   obtain ⟨hd, hdn⟩ := HD0 hp hpn; clear hp hpn
   refine Wk ?_
   exact RV (d) (.box 169 (.agg [.slice none (b.map byteAV), .lit (.int .i64 (u : Int)), .lit (.int .i64 3)]))
theorem RTagO_spec (b : List UInt8) (u e : Nat) (hu : u ≤ b.length) (hb : b.length ≤ 1000000) (d k : Nat) :
  ACall Tryz.prog 98 [.ptr d [] 0] k [(d, RdBox b u e)] (tagAV (tagO b u e).1) [(d, RdBox b (tagO b u e).2.1 (tagO b u e).2.2)] := by
 have c1 := RBytO_spec b u e hu hb d
 obtain ⟨h1, h2⟩ := tagO_byt b u e
 rw [h2]
 rw [← h1] at c1
 generalize (tagO b u e).1 = T at *
 generalize (bytO b u e).2 = R at *
 obtain ⟨v, x⟩ := R
 clear h1 h2
 have hT := T.2
 have hmin : Nat.min T.1.length 32 = 32 := by rw [hT]; rfl
 have htk : (T.1.map byteAV).take 32 = T.1.map byteAV := List.take_of_length_le (by rw [List.length_map]; omega)
 obtain ⟨T, hTl⟩ := T
 simp only at hT hmin htk c1
 have hs1 : (AV.agg (T.map byteAV)).sz = 32 := by simp only [AV.sz, szl_bytes]; exact hTl
 have hs2 : (AV.agg (T.map byteAV)).cell = true := celll_bytes T
 have hz32 : (zeroTag.val.map byteAV).drop 32 = [] := rfl
 simp only [tagAV, RdBox] at *
 refine Bd Tryz.func98 Tryz.ntmps98 fun σ N hp hpn hk hkn hfree => ?_
 obtain ⟨hd, hdn⟩ := HD0 hp hpn; clear hp hpn
 have M : Mut (N + 2) := ⟨⟩
 have hcs := And.intro c1 True.intro
 clear c1
 refine Wk ?_
 exact RW (d) (.box 169 (.agg [.slice none (b.map byteAV), .lit (.int .i64 (v : Int)), .lit (.int .i64 (x : Int))]))
theorem RNumO_spec (b : List UInt8) (u e : Nat) (hu : u ≤ b.length) (hb : b.length ≤ 1000000) (d k : Nat) :
  ACall Tryz.prog 94 [.ptr d [] 0] k [(d, RdBox b u e)] (.lit (.int .i64 (numO b u e).1)) [(d, RdBox b (numO b u e).2.1 (numO b u e).2.2)] := by
 unfold numO
 by_cases he : e ≠ 0
 ·rw [if_pos he]; exact RNum_off b u e he d k
 ·obtain rfl : e = 0 := by omega
  rw [if_neg he]; exact RNum_spec b u hu hb d k
theorem RPred0_spec (b : List UInt8) (u : Nat) (hu : u ≤ b.length) (hb : b.length ≤ 1000000) (d k : Nat) :
  ACall Tryz.prog 100 [.ptr d [] 0] k [(d, RdBox b u 0)] (prAV (prdO b u 0).1) [(d, RdBox b (prdO b u 0).2.1 (prdO b u 0).2.2)] := by
 unfold prdO
 rw [if_neg (by simp)]; exact RPred_spec b u hu hb d k
theorem RCav0_spec (b : List UInt8) (u : Nat) (hu : u ≤ b.length) (hb : b.length ≤ 1000000) (d k : Nat) :
  ACall Tryz.prog 97 [.ptr d [] 0] k [(d, RdBox b u 0)] (caAV (cavO b u 0).1) [(d, RdBox b (cavO b u 0).2.1 (cavO b u 0).2.2)] := by
 have c1 := rcDec_spec (b.drop u) (by rw [List.length_drop]; omega)
 have hl := (decC_ok (b.drop u)).2
 rw [List.length_drop] at hl
 have hd1 : (b.map byteAV).drop u = (b.drop u).map byteAV := by rw [List.map_drop]
 unfold cavO
 rw [if_neg (by simp)]
 generalize decC (b.drop u) = R at *
 obtain ⟨n, q, e⟩ := R
 simp only [decCAV] at *
 generalize b.drop u = t at *
 have c2 := RFail0 b u e d
 simp only [RdBox] at *
 refine Bd Tryz.func97 Tryz.ntmps97 fun σ N hp hpn hk hkn hfree => ?_
 obtain ⟨hd, hdn⟩ := HD0 hp hpn; clear hp hpn
 have hcs := And.intro c1 (And.intro c2 True.intro)
 clear c1 c2
 refine Wk ?_
 exact RW (d) (.box 169 (.agg [.slice none (b.map byteAV), .lit (.int .i64 ((u : Int) + (q : Int))), .lit (.int .i64 (e : Int))]))
theorem numO_bad {b : List UInt8} {u e : Nat} (h : (numO b u e).2.2 ≠ 0) : (numO b u e).1 = 0 := by
 unfold numO at h ⊢
 split
 ·rfl
 ·rename_i he
  rw [if_neg he] at h
  exact numR_bad h
theorem RCnt_spec (b : List UInt8) (m u e : Nat) (hu : u ≤ b.length) (hb : b.length ≤ 1000000) (d k : Nat) :
  ACall Tryz.prog 96 [.ptr d [] 0, .lit (.int .i64 m)] k [(d, RdBox b u e)] (.lit (.int .i64 (cntO b m u e).1)) [(d, RdBox b (cntO b m u e).2.1 (cntO b m u e).2.2)] := by
 have c1 := RNumO_spec b u e hu hb d
 have hbad := numO_bad (b := b) (u := u) (e := e)
 unfold cntO
 generalize numO b u e = R at *
 obtain ⟨n, v, x⟩ := R
 simp only at *
 by_cases hx : x ≠ 0
 ·rw [if_pos hx]
  obtain rfl := hbad hx
  have he' : ((x : Int) == 0) = false := by rw [beq_eq_false_iff_ne]; omega
  have he'' : ((x : Int) != 0) = true := by rw [bne, he']; rfl
  have hi : ¬ (m : Int) < 0 := by omega
  simp only [RdBox] at *
  refine Bd Tryz.func96 Tryz.ntmps96 fun σ N hp hpn hk hkn hfree => ?_
  obtain ⟨hd, hdn⟩ := HD0 hp hpn; clear hp hpn
  have hcs := And.intro c1 True.intro
  clear c1
  refine Wk ?_
  exact RW (d) (.box 169 (.agg [.slice none (b.map byteAV), .lit (.int .i64 (v : Int)), .lit (.int .i64 (x : Int))]))
 ·obtain rfl : x = 0 := by omega
  rw [if_neg hx]
  by_cases hm : m < n
  ·rw [if_pos hm]
   have hi : (m : Int) < (n : Int) := by omega
   have c2 := RFail0 b v 2 d
   simp only [RdBox] at *
   refine Bd Tryz.func96 Tryz.ntmps96 fun σ N hp hpn hk hkn hfree => ?_
   obtain ⟨hd, hdn⟩ := HD0 hp hpn; clear hp hpn
   have hcs := And.intro c1 (And.intro c2 True.intro)
   clear c1 c2
   refine Wk ?_
   exact RW (d) (.box 169 (.agg [.slice none (b.map byteAV), .lit (.int .i64 (v : Int)), .lit (.int .i64 2)]))
  ·rw [if_neg hm]
   have hi : ¬ (m : Int) < (n : Int) := by omega
   simp only [RdBox] at *
   refine Bd Tryz.func96 Tryz.ntmps96 fun σ N hp hpn hk hkn hfree => ?_
   obtain ⟨hd, hdn⟩ := HD0 hp hpn; clear hp hpn
   have hcs := And.intro c1 True.intro
   clear c1
   refine Wk ?_
   exact RW (d) (.box 169 (.agg [.slice none (b.map byteAV), .lit (.int .i64 (v : Int)), .lit (.int .i64 0)]))
end Go.Proofs.YtemmlldpmgfblaaGreatDoor

namespace Go.Ab
theorem go_if {P : Program} {N : Nat} {b : Code} {Q : AExit → Cfg → Prop} {next : Cfg → Prop} {s : Slots} {σ : Nat → Ent} {n : Nat} (L ents : List Nat) (I : (Nat → Ent) → Prop)
  (h1 : SKeep L s s → EKeep n ents σ σ → aw P N b (aThen (fun c => SKeep L s c.s ∧ EKeep n ents σ c.σ ∧ n ≤ c.n ∧ I c.σ) Q) ⟨s, σ, n⟩)
  (h2 : ∀ s' σ' n', SKeep L s s' → EKeep n ents σ σ' → n ≤ n' → I σ' → next ⟨s', σ', n'⟩) : aw P N b (aThen next Q) ⟨s, σ, n⟩ :=
 go_after0 _ (h1 (SKeep.refl L s) (EKeep.refl n ents σ)) fun c ⟨a, b, c1, c2⟩ => h2 c.s c.σ c.n a b c1 c2
theorem go_leave {P : Program} {N id : Nat} {b : Code} {Q : AExit → Cfg → Prop} {next : Cfg → Prop} {s : Slots} {σ : Nat → Ent} {n : Nat} (L ents : List Nat) (I : (Nat → Ent) → Prop)
  (h1 : aw P N b (aBlk id (aThen (fun c => SKeep L s c.s ∧ EKeep n ents σ c.σ ∧ n ≤ c.n ∧ I c.σ) Q)) ⟨s, σ, n⟩)
  (h2 : ∀ s' σ' n', SKeep L s s' → EKeep n ents σ σ' → n ≤ n' → I σ' → next ⟨s', σ', n'⟩) : aw P N b (aBlk id (aThen next Q)) ⟨s, σ, n⟩ :=
 go_mid h1 fun e c' hq => by
  cases e with
  | normal => obtain ⟨a, b, c1, c2⟩ := hq; exact h2 c'.s c'.σ c'.n a b c1 c2
  | ret => exact hq
  | exit id' =>
   simp only [aBlk] at hq ⊢
   by_cases h : id' = id
   ·rw [if_pos h] at hq ⊢
    obtain ⟨a, b, c1, c2⟩ := hq; exact h2 c'.s c'.σ c'.n a b c1 c2
   ·rw [if_neg h] at hq ⊢
    exact hq
end Go.Ab

namespace Go.Proofs.YtemmlldpmgfblaaGreatDoor
open Go.Ab
attribute [local irreducible] Go.Ab.tyAV Go.Ab.aw Go.Ab.aops Go.Ab.kReg Go.Ab.aThen Go.Ab.aBlk Go.Ab.acond Go.Ab.aguard Go.Ab.astep Go.Ab.AStepX Go.Ab.aRet
set_option maxHeartbeats 16000000 in
theorem rbDec_spec (b : List UInt8) (hb : b.length ≤ 9223372036854775807) (k : Nat) : ACall Tryz.prog 40 [.slice none (b.map byteAV)] k [] (decBAV (decB b)) [] := by
 by_cases hl : 4096 < b.length
 ·have hi : (4096 : Int) < (b.length : Int) := by omega
  unfold decB
  rw [if_pos hl]
  simp only [decBAV, buAV, bu0, rqAV, List.map_nil]
  refine Bd Tryz.func40 Tryz.ntmps40 fun σ N hp hpn hk hkn hfree => ?_
  exact WD
 have hi : ¬ (4096 : Int) < (b.length : Int) := by omega
 have hb6 : b.length ≤ 1000000 := by omega
 unfold decB
 rw [if_neg hl]
 have hin := bunS_in b
 have c1 := RNumO_spec b 0 0 (Nat.zero_le _) hb6
 have h1 : (numO b 0 0).2.1 ≤ b.length := numO_le (Nat.zero_le _)
 unfold bunW at hin ⊢
 simp only at hin ⊢
 have hbad := numO_bad (b := b) (u := 0) (e := 0)
 generalize numO b 0 0 = R at *
 obtain ⟨n1, v1, e1⟩ := R
 simp only at *
 have hx1 : (if e1 = 0 ∧ n1 ≠ 1 then 6 else e1) = (if n1 = 1 then e1 else if e1 = 0 then 6 else e1) := by
  by_cases q2 : n1 = 1
  ·rw [if_neg (by omega), if_pos q2]
  ·rw [if_neg q2]
   by_cases q1 : e1 = 0
   ·rw [if_pos ⟨q1, q2⟩, if_pos q1]
   ·rw [if_neg (by omega), if_neg q1]
 rw [hx1] at hin ⊢
 clear hx1 hbad
 generalize hx1 : (if n1 = 1 then e1 else if e1 = 0 then 6 else e1) = x1 at *
 have c2 := RNumO_spec b v1 x1 h1 hb6
 have h2 := numO_le (e := x1) h1
 generalize numO b v1 x1 = R at *
 obtain ⟨n2, v2, e2⟩ := R
 simp only at *
 have c3 := RNumO_spec b v2 e2 h2 hb6
 have h3 := numO_le (e := e2) h2
 generalize numO b v2 e2 = R at *
 obtain ⟨n3, v3, e3⟩ := R
 simp only at *
 have c4 := RNumO_spec b v3 e3 h3 hb6
 have h4 := numO_le (e := e3) h3
 generalize numO b v3 e3 = R at *
 obtain ⟨n4, v4, e4⟩ := R
 simp only at *
 have c5 := RNumO_spec b v4 e4 h4 hb6
 have h5 := numO_le (e := e4) h4
 generalize numO b v4 e4 = R at *
 obtain ⟨n5, v5, e5⟩ := R
 simp only at *
 have c6 := RCnt_spec b 64 v5 e5 h5 hb6
 have h6 := cntO_le (m := 64) (e := e5) h5
 have m6 := cntO_m b 64 v5 e5
 generalize cntO b 64 v5 e5 = R at *
 obtain ⟨mc, v6, e6⟩ := R
 simp only at *
 obtain ⟨⟨L, v7, e7⟩, hit⟩ : ∃ R, itS (cavO b) mc v6 e6 = R := ⟨_, rfl⟩
 have h7 : v7 ≤ b.length := by have := (itS_ok (f := cavO b) (Q := fun c => PrOk c.first) (fun u hu => cavO_ok u 0 hu) mc v6 e6 h6).2; rw [hit] at this; exact this
 rw [hit] at hin ⊢
 simp only at hin ⊢
 have c8 := RTagO_spec b v7 e7 h7 hb6
 have h8 := tagO_le (e := e7) h7
 generalize tagO b v7 e7 = R at *
 obtain ⟨tg, v8, e8⟩ := R
 simp only at *
 have c9 := RCnt_spec b 8 v8 e8 h8 hb6
 have h9 := cntO_le (m := 8) (e := e8) h8
 have m9 := cntO_m b 8 v8 e8
 generalize cntO b 8 v8 e8 = R at *
 obtain ⟨md, v9, e9⟩ := R
 simp only at *
 obtain ⟨⟨D, v10, e10⟩, hid⟩ : ∃ R, itS (bndO b) md v9 e9 = R := ⟨_, rfl⟩
 have h10 : v10 ≤ b.length := by have := (itS_ok (f := bndO b) (Q := BoIn) (fun u hu => bndO_ok u 0 hu) md v9 e9 h9).2; rw [hid] at this; exact this
 rw [hid] at hin ⊢
 simp only at hin ⊢
 have cC := refChk_spec _ hin
 simp only [decBAV]
 have hz : buAV bu0 = .agg [.agg [.lit (.int .i64 0), .lit (.int .i64 0)], .lit (.int .i64 0), .lit (.int .i64 0), .slice none [], tagAV zeroTag, .slice none []] := rfl
 have hB : buAV ⟨⟨(n2 : Int), (n3 : Int)⟩, (n4 : Int), (n5 : Int), L, tg, D⟩ = .agg [.agg [.lit (.int .i64 n2), .lit (.int .i64 n3)], .lit (.int .i64 n4), .lit (.int .i64 n5), .slice none (L.map caAV), tagAV tg, .slice none (D.map boAV)] := rfl
 rw [hB] at cC
 generalize chkS ⟨⟨(n2 : Int), (n3 : Int)⟩, (n4 : Int), (n5 : Int), L, tg, D⟩ = ck at *
 have k64 : ((64 : Nat) : Int) = 64 := rfl
 have k8 : ((8 : Nat) : Int) = 8 := rfl
 rw [k64] at c6
 rw [k8] at c9
 clear k64 h1 h2 h3 h4 h5 h7 h8 hin
 refine Bd Tryz.func40 Tryz.ntmps40 fun σ N hp hpn hk hkn hfree => ?_
 refine Wm ?_
 iterate 4 refine Wz ?_
 refine go_nilrowIn (N + 9) [3] 120 10 (bt := 29) (c := .agg [.agg [.lit (.int .i64 0), .lit (.int .i64 0)], .lit (.int .i64 0), .lit (.int .i64 0), .nils, tagAV zeroTag, .nils]) (by simp (disch := omega) [go_sem, *, -List.reduceReplicate]) rfl ?_
 refine go_nilrowIn (N + 9) [5] 70 34 (bt := 29) (c := .agg [.agg [.lit (.int .i64 0), .lit (.int .i64 0)], .lit (.int .i64 0), .lit (.int .i64 0), .slice (some (N + 10)) [], tagAV zeroTag, .nils]) (by simp (disch := omega) [go_sem, *, -List.reduceReplicate]; try rfl) rfl ?_
 have hcs := And.intro (c1 (N + 7)) True.intro
 clear c1
 refine Wk ?_
 clear hcs
 refine go_if [20, 21] [N + 7] (fun σ' => σ' (N + 7) = RdBox b v1 x1) (fun hs_0 hf_0 => ?_) (fun s0 σ0 m0 hs0 hf0 hn0 g7 => ?_)
 ·by_cases q : n1 = 1
  ·subst q
   rw [if_pos rfl] at hx1
   subst hx1
   refine Wk ?_
   exact ⟨WS, hf_0, WN, WF⟩
  ·have q' : ((n1 : Int) == 1) = false := by rw [beq_eq_false_iff_ne]; omega
   have q'' : ((n1 : Int) != 1) = true := by rw [bne, q']; rfl
   rw [if_neg q] at hx1
   have cF := RFailO b v1 e1 6 (N + 7)
   have e6 : ((6 : Nat) : Int) = 6 := rfl
   rw [hx1, e6] at cF
   have hcs := And.intro cF True.intro
   clear cF
   refine Wk ?_
   exact ⟨WS, by simp only [wr_cons, wr_nil]; exact EKeep.updL (by simp) hf_0, WN, WF⟩
 have g0 := KS hs0 0
 have g2 := KS hs0 2
 have g4 := KS hs0 4
 have g5 := KS hs0 5
 have q0 := KE hf0 N
 have q9 := KE hf0 (N + 9)
 have q10 := KE hf0 (N + 10)
 have q11 := KE hf0 (N + 11)
 have hlow := KL (N := N) (σ := σ) hf0
 clear hs0 hf0
 have hcs := And.intro (c2 (N + 7)) (And.intro (c3 (N + 7)) (And.intro (c4 (N + 7)) (And.intro (c5 (N + 7)) (And.intro (c6 (N + 7)) True.intro))))
 clear c2 c3 c4 c5 c6
 refine Wk ?_
 clear hcs
 refine go_leave [6, 38, 39, 40, 41, 42, 43, 44, 45, 46, 47, 48, 49, 50, 51, 52, 53, 54, 55] [N+7, N+9, N+10] (fun σ' => σ' (N + 7) = RdBox b v7 e7 ∧ σ' (N + 9) = .box 29 (.agg [.agg [.lit (.int .i64 n2), .lit (.int .i64 n3)], .lit (.int .i64 n4), .lit (.int .i64 n5), .slice (some (N + 10)) (L.map caAV), tagAV zeroTag, .slice (some (N + 11)) []]) ∧ σ' (N + 10) = .row 120 10 L.length) ?_ (fun s1 σ1 m1 hs1 hf1 hn1 hI1 => ?_)
 ·refine go_loopF mixed (by kernel_rfl) [6, 38, 39, 40, 41, 42, 43, 44, 45, 46, 47, 48, 49, 50, 51, 52, 53, 54, 55] [N+7, N+9, N+10] (fun m_ s_ σ_ n_ => ∃ (w : Nat) (l : List Ca) (v : Nat) (x : Nat), m_ = w ∧ s_ 6 = .lit (.int .i64 w) ∧ σ_ (N+7) = RdBox b v x ∧ σ_ (N+9) = .box 29 (.agg [.agg [.lit (.int .i64 n2), .lit (.int .i64 n3)], .lit (.int .i64 n4), .lit (.int .i64 n5), .slice (some (N + 10)) (l.map caAV), tagAV zeroTag, .slice (some (N + 11)) []]) ∧ σ_ (N+10) = .row 120 10 l.length ∧ (w ≤ mc) ∧ (itS (cavO b) (mc - w) v6 e6 = (l, v, x)) ∧ (v ≤ b.length)) ⟨_, mc, [], v6, e6, rfl, WF, WF, WF, WF, WC, WC, WC⟩ ?_
  intro m_1 s_1 σ_1 n_1 hs_1 hf_1 hn_1 hI_1
  obtain ⟨w, l, v, x, hm_1, h1_6, e1_0, e1_1, e1_2, hw, hj, hv⟩ := hI_1
  have h1_0 := KS hs_1 0
  have h1_2 := KS hs_1 2
  have h1_3 := KS hs_1 3
  have h1_4 := KS hs_1 4
  have h1_5 := KS hs_1 5
  have k1_0 := KE hf_1 (N)
  have k1_1 := KE hf_1 (N + 11)
  have hlow := KL (N := N) (σ := σ) hf_1
  have hll : l.length ≤ mc := by have := itS_len (cavO b) (mc - w) v6 e6; rw [hj] at this; simp only at this; omega
  have hfin : x ≠ 0 ∨ w = 0 → (l, v, x) = (L, v7, e7) := fun h => by
   rw [← hj, ← hit]
   rcases h with h | h
   ·exact (itS_stop _ (by rw [hj]; exact h) mc (by omega)).symm
   ·rw [h, Nat.sub_zero]
  clear c8 c9 cC hit hid
  by_cases hgo : x = 0 ∧ 0 < w
  ·obtain ⟨rfl, hw0⟩ := hgo
   obtain ⟨w, rfl⟩ : ∃ w', w = w' + 1 := ⟨w - 1, by omega⟩
   have c10 := RCav0_spec b v hv hb6 (N + 7)
   have hs := itS_succ _ _ _ _ hj
   rw [show mc - (w + 1) + 1 = mc - w by omega] at hs
   have hvn := (cavO_ok v 0 hv).2
   generalize cavO b v 0 = R at *
   obtain ⟨ca, vn, xn⟩ := R
   simp only at *
   clear hj hfin
   have hcs := And.intro c10 True.intro
   clear c10
   refine Wk ?_
   clear hcs
   exact ⟨WS, WG, WN, _, (show (w) < m_1 by omega), w, l ++ [ca], vn, xn, rfl, WF, WF, WF, WF, WC, WC, WC⟩
  have hlx := hfin (by omega)
  simp only [Prod.mk.injEq] at hlx
  obtain ⟨rfl, rfl, rfl⟩ := hlx
  clear hfin hj
  obtain ⟨rfl, rfl⟩ | ⟨hx, hx', rfl⟩ | ⟨hx, hx', hw0⟩ : (x = 0 ∧ w = 0) ∨ (((x : Int) == 0) = false ∧ x ≠ 0 ∧ w = 0) ∨ (((x : Int) == 0) = false ∧ x ≠ 0 ∧ 0 < w) := by
   rcases Nat.eq_zero_or_pos x with h | h
   ·exact .inl ⟨h, by omega⟩
   ·rcases Nat.eq_zero_or_pos w with h' | h'
    ·exact .inr (.inl ⟨by rw [beq_eq_false_iff_ne]; omega, by omega, h'⟩)
    ·exact .inr (.inr ⟨by rw [beq_eq_false_iff_ne]; omega, by omega, h'⟩)
  all_goals
   clear hgo
   refine Wk ?_
   exact ⟨WS, WG, WN, WF⟩
 obtain ⟨k7, k9, k10⟩ := hI1
 have t0 := KS hs1 0
 have t2 := KS hs1 2
 have t4 := KS hs1 4
 have t5 := KS hs1 5
 have k0 := KE hf1 N
 have k11 := KE hf1 (N + 11)
 replace hlow := KL (N := N) (σ := σ) hf1
 clear hs1 hf1 hit g0 g2 g4 g5 q0 q9 q10 q11 g7
 have hcs := And.intro (c8 (N + 7)) (And.intro (c9 (N + 7)) True.intro)
 clear c8 c9
 refine Wk ?_
 clear hcs
 refine go_leave [7, 8, 9, 61, 62, 63, 64, 65, 66, 67, 68, 69, 70, 71, 72, 73, 74, 75, 76, 77, 78, 79, 80, 81, 82, 83, 84, 85, 86, 87, 88, 89, 90, 91, 92, 93, 94, 95, 96, 97, 98, 99, 100, 101, 102, 103] [N+7, N+9, N+11] (fun σ' => σ' (N + 7) = RdBox b v10 e10 ∧ σ' (N + 9) = .box 29 (.agg [.agg [.lit (.int .i64 n2), .lit (.int .i64 n3)], .lit (.int .i64 n4), .lit (.int .i64 n5), .slice (some (N + 10)) (L.map caAV), tagAV tg, .slice (some (N + 11)) (D.map boAV)]) ∧ σ' (N + 11) = .row 70 34 D.length) ?_ (fun s2 σ2 m2 hs2 hf2 hn2 hI2 => ?_)
 ·refine go_loopF mixed (by kernel_rfl) [7, 8, 9, 61, 62, 63, 64, 65, 66, 67, 68, 69, 70, 71, 72, 73, 74, 75, 76, 77, 78, 79, 80, 81, 82, 83, 84, 85, 86, 87, 88, 89, 90, 91, 92, 93, 94, 95, 96, 97, 98, 99, 100, 101, 102, 103] [N+7, N+9, N+11] (fun m_ s_ σ_ n_ => ∃ (w : Nat) (r : List Bo) (z : Nat) (y : Nat), m_ = w ∧ s_ 7 = .lit (.int .i64 w) ∧ σ_ (N+7) = RdBox b z y ∧ σ_ (N+9) = .box 29 (.agg [.agg [.lit (.int .i64 n2), .lit (.int .i64 n3)], .lit (.int .i64 n4), .lit (.int .i64 n5), .slice (some (N + 10)) (L.map caAV), tagAV tg, .slice (some (N + 11)) (r.map boAV)]) ∧ σ_ (N+11) = .row 70 34 r.length ∧ (w ≤ md) ∧ (itS (bndO b) (md - w) v9 e9 = (r, z, y)) ∧ (z ≤ b.length)) ⟨_, md, [], v9, e9, rfl, WF, WF, WF, WF, WC, WC, WC⟩ ?_
  intro m_2 s_2 σ_2 n_2 hs_2 hf_2 hn_2 hI_2
  obtain ⟨w, r, z, y, hm_2, h2_7, e2_0, e2_1, e2_2, hw, hj, hv⟩ := hI_2
  have h2_0 := KS hs_2 0
  have h2_2 := KS hs_2 2
  have h2_3 := KS hs_2 3
  have h2_4 := KS hs_2 4
  have h2_5 := KS hs_2 5
  have k2_0 := KE hf_2 (N)
  have k2_1 := KE hf_2 (N + 10)
  have hlow := KL (N := N) (σ := σ) hf_2
  have hll : r.length ≤ md := by have := itS_len (bndO b) (md - w) v9 e9; rw [hj] at this; simp only at this; omega
  have hfin : y ≠ 0 ∨ w = 0 → (r, z, y) = (D, v10, e10) := fun h => by
   rw [← hj, ← hid]
   rcases h with h | h
   ·exact (itS_stop _ (by rw [hj]; exact h) md (by omega)).symm
   ·rw [h, Nat.sub_zero]
  clear cC hid
  by_cases hgo : y = 0 ∧ 0 < w
  ·obtain ⟨rfl, hw0⟩ := hgo
   obtain ⟨w, rfl⟩ : ∃ w', w = w' + 1 := ⟨w - 1, by omega⟩
   have hs := itS_succ _ _ _ _ hj
   rw [show md - (w + 1) + 1 = md - w by omega] at hs
   have hzn := (bndO_ok z 0 hv).2
   have hbn : bndO b z 0 = bndS b z := by unfold bndO; rw [if_neg (by simp)]
   rw [hbn] at hs hzn
   clear hbn hj hfin
   unfold bndS at hs hzn
   simp only at hs hzn
   have d1 := RField_spec b z hv hb6 (N + 7)
   have hz1 := fldR_le hv
   generalize fldR b z = R at *
   obtain ⟨ti, z1, y1⟩ := R
   simp only at *
   have d2 := RCnt_spec b 8 z1 y1 hz1 hb6 (N + 7)
   have hz2 := cntO_le (m := 8) (e := y1) hz1
   have mq := cntO_m b 8 z1 y1
   generalize cntO b 8 z1 y1 = R at *
   obtain ⟨mp, z2, y2⟩ := R
   simp only at *
   obtain ⟨⟨Q, z3, y3⟩, hiq⟩ : ∃ R, itS (prdO b) mp z2 y2 = R := ⟨_, rfl⟩
   have hz3 : z3 ≤ b.length := by have := (itS_ok (f := prdO b) (Q := PrOk) (fun u hu => prdO_ok u 0 hu) mp z2 y2 hz2).2; rw [hiq] at this; exact this
   rw [hiq] at hs hzn
   simp only at hs hzn
   have d4 := RTagO_spec b z3 y3 hz3 hb6 (N + 7)
   generalize tagO b z3 y3 = R at *
   obtain ⟨pt, z4, y4⟩ := R
   simp only at *
   rw [k8] at d2
   clear hz1
   refine Wm ?_
   iterate 2 refine Wz ?_
   refine go_nilrowIn (n_2 + 9) [1] 110 6 (bt := 70) (c := .agg [.nils, .nils, tagAV zeroTag]) (by simp (disch := omega) [go_sem, *, -List.reduceReplicate]) rfl ?_
   have hcs := And.intro d1 (And.intro d2 True.intro)
   clear d1 d2
   refine Wk ?_
   clear hcs
   refine go_leave [9, 77, 78, 79, 80, 81, 82, 83, 84, 85, 86, 87, 88, 89, 90, 91, 92, 93, 94] [N+7, n_2+9, n_2+10] (fun σ' => σ' (N + 7) = RdBox b z3 y3 ∧ σ' (n_2 + 9) = .box 70 (.agg [.slice none (ti.map byteAV), .slice (some (n_2 + 10)) (Q.map prAV), tagAV zeroTag]) ∧ σ' (n_2 + 10) = .row 110 6 Q.length) ?_ (fun s3 σ3 m3 hs3 hf3 hn3 hI3 => ?_)
   ·clear hs hzn d4
    refine go_loopF mixed (by kernel_rfl) [9, 77, 78, 79, 80, 81, 82, 83, 84, 85, 86, 87, 88, 89, 90, 91, 92, 93, 94] [N+7, n_2+9, n_2+10] (fun m_ s_ σ_ n_ => ∃ (x : Nat) (l : List Pr) (p : Nat) (q : Nat), m_ = x ∧ s_ 9 = .lit (.int .i64 x) ∧ σ_ (N+7) = RdBox b p q ∧ σ_ (n_2+9) = .box 70 (.agg [.slice none (ti.map byteAV), .slice (some (n_2 + 10)) (l.map prAV), tagAV zeroTag]) ∧ σ_ (n_2+10) = .row 110 6 l.length ∧ (x ≤ mp) ∧ (itS (prdO b) (mp - x) z2 y2 = (l, p, q)) ∧ (p ≤ b.length)) ⟨_, mp, [], z2, y2, rfl, WF, WF, WF, WF, WC, WC, WC⟩ ?_
    intro m_3 s_3 σ_3 n_3 hs_3 hf_3 hn_3 hI_3
    obtain ⟨x, l, p, q, hm_3, h3_9, e3_0, e3_1, e3_2, hw, hj, hv⟩ := hI_3
    have h3_0 := KS hs_3 0
    have h3_2 := KS hs_3 2
    have h3_3 := KS hs_3 3
    have h3_4 := KS hs_3 4
    have h3_5 := KS hs_3 5
    have h3_7 := KS hs_3 7
    have h3_8 := KS hs_3 8
    have h3_61 := KS hs_3 61
    have h3_62 := KS hs_3 62
    have h3_63 := KS hs_3 63
    have h3_64 := KS hs_3 64
    have h3_65 := KS hs_3 65
    have h3_66 := KS hs_3 66
    have h3_67 := KS hs_3 67
    have h3_68 := KS hs_3 68
    have h3_69 := KS hs_3 69
    have h3_72 := KS hs_3 72
    have h3_73 := KS hs_3 73
    have h3_74 := KS hs_3 74
    have h3_75 := KS hs_3 75
    have h3_76 := KS hs_3 76
    have k3_0 := KE hf_3 (N)
    have k3_1 := KE hf_3 (N + 9)
    have k3_2 := KE hf_3 (N + 10)
    have k3_3 := KE hf_3 (N + 11)
    have hlow := KL (N := N) (σ := σ) hf_3
    have hll : l.length ≤ mp := by have := itS_len (prdO b) (mp - x) z2 y2; rw [hj] at this; simp only at this; omega
    have hfin : q ≠ 0 ∨ x = 0 → (l, p, q) = (Q, z3, y3) := fun h => by
     rw [← hj, ← hiq]
     rcases h with h | h
     ·exact (itS_stop _ (by rw [hj]; exact h) mp (by omega)).symm
     ·rw [h, Nat.sub_zero]
    clear hiq
    by_cases hgo : q = 0 ∧ 0 < x
    ·obtain ⟨rfl, hw0⟩ := hgo
     obtain ⟨x, rfl⟩ : ∃ w', x = w' + 1 := ⟨x - 1, by omega⟩
     have c10 := RPred0_spec b p hv hb6 (N + 7)
     have hs := itS_succ _ _ _ _ hj
     rw [show mp - (x + 1) + 1 = mp - x by omega] at hs
     have hvn := (prdO_ok p 0 hv).2
     generalize prdO b p 0 = R at *
     obtain ⟨pr, vn, xn⟩ := R
     simp only at *
     clear hj hfin
     have hcs := And.intro c10 True.intro
     clear c10
     refine Wk ?_
     clear hcs
     exact ⟨WS, WG, WN, _, (show (x) < m_3 by omega), x, l ++ [pr], vn, xn, rfl, WF, WF, WF, WF, WC, WC, WC⟩
    have hlx := hfin (by omega)
    simp only [Prod.mk.injEq] at hlx
    obtain ⟨rfl, rfl, rfl⟩ := hlx
    clear hfin hj
    obtain ⟨rfl, rfl⟩ | ⟨hx, hx', rfl⟩ | ⟨hx, hx', hw0⟩ : (q = 0 ∧ x = 0) ∨ (((q : Int) == 0) = false ∧ q ≠ 0 ∧ x = 0) ∨ (((q : Int) == 0) = false ∧ q ≠ 0 ∧ 0 < x) := by
     rcases Nat.eq_zero_or_pos q with h | h
     ·exact .inl ⟨h, by omega⟩
     ·rcases Nat.eq_zero_or_pos x with h' | h'
      ·exact .inr (.inl ⟨by rw [beq_eq_false_iff_ne]; omega, by omega, h'⟩)
      ·exact .inr (.inr ⟨by rw [beq_eq_false_iff_ne]; omega, by omega, h'⟩)
    all_goals
     clear hgo
     refine Wk ?_
     exact ⟨WS, WG, WN, WF⟩
   obtain ⟨j7, j9, j10⟩ := hI3
   have i0 := KS hs3 0
   have i2 := KS hs3 2
   have i4 := KS hs3 4
   have i5 := KS hs3 5
   have i7 := KS hs3 7
   have i8 := KS hs3 8
   have l0 := KE hf3 N
   have l9 := KE hf3 (N + 9)
   have l10 := KE hf3 (N + 10)
   have l11 := KE hf3 (N + 11)
   replace hlow := KL (N := N) (σ := σ) hf3
   clear hiq
   refine go_lessIn (n_2 + 9) [1] (.slice none (Q.map prAV)) j9 rfl (AV.le_own _ _) rfl rfl ?_
   have hbo : boAV ⟨ti, Q, pt⟩ = .agg [.slice none (ti.map byteAV), .slice none (Q.map prAV), tagAV pt] := rfl
   have hcs := And.intro d4 True.intro
   clear d4
   refine Wk ?_
   clear hcs
   exact ⟨WS, WG, WN, _, (show (w) < m_2 by omega), w, r ++ [⟨ti, Q, pt⟩], z4, y4, rfl, WF, WF, WF, WF, WC, WC, WC⟩
  have hlx := hfin (by omega)
  simp only [Prod.mk.injEq] at hlx
  obtain ⟨rfl, rfl, rfl⟩ := hlx
  clear hfin hj
  obtain ⟨rfl, rfl⟩ | ⟨hx, hx', rfl⟩ | ⟨hx, hx', hw0⟩ : (y = 0 ∧ w = 0) ∨ (((y : Int) == 0) = false ∧ y ≠ 0 ∧ w = 0) ∨ (((y : Int) == 0) = false ∧ y ≠ 0 ∧ 0 < w) := by
   rcases Nat.eq_zero_or_pos y with h | h
   ·exact .inl ⟨h, by omega⟩
   ·rcases Nat.eq_zero_or_pos w with h' | h'
    ·exact .inr (.inl ⟨by rw [beq_eq_false_iff_ne]; omega, by omega, h'⟩)
    ·exact .inr (.inr ⟨by rw [beq_eq_false_iff_ne]; omega, by omega, h'⟩)
  all_goals
   clear hgo
   refine Wk ?_
   exact ⟨WS, WG, WN, WF⟩
 obtain ⟨j7, j9, j11⟩ := hI2
 have i0 := KS hs2 0
 have i2 := KS hs2 2
 have i4 := KS hs2 4
 have i5 := KS hs2 5
 have l0 := KE hf2 N
 have l10 := KE hf2 (N + 10)
 replace hlow := KL (N := N) (σ := σ) hf2
 clear hs2 hf2 hid t0 t2 t4 t5 k0 k7 k9 k10 k11
 by_cases hv : v10 < b.length
 ·have hvi : (v10 : Int) < (b.length : Int) := by omega
  have f1 := RFailO b v10 e10 4 (N + 7)
  have hie : (if e10 = 0 ∧ v10 < b.length then 4 else e10) = (if e10 = 0 then 4 else e10) := by
   by_cases q : e10 = 0
   ·rw [if_pos ⟨q, hv⟩, if_pos q]
   ·rw [if_neg (fun h => q h.1), if_neg q]
  have hy : (if e10 = 0 then 4 else e10) ≠ 0 := by split <;> omega
  rw [hie]
  have h4 : ((4 : Nat) : Int) = 4 := rfl
  rw [h4] at f1
  clear hie h4
  generalize (if e10 = 0 then 4 else e10) = y at *
  rw [if_pos hy, hz]
  have f2 := RFailO b v10 y ck (N + 7)
  rw [if_neg hy] at f2
  have he' : ((y : Int) == 0) = false := by rw [beq_eq_false_iff_ne]; omega
  have he'' : ((y : Int) != 0) = true := by rw [bne, he']; rfl
  have hcs := And.intro f1 (And.intro cC (And.intro f2 True.intro))
  clear f1 cC f2 hB
  exact WD
 ·have hvi : ¬ (v10 : Int) < (b.length : Int) := by omega
  rw [if_neg (fun h : e10 = 0 ∧ v10 < b.length => hv h.2)]
  by_cases he : e10 = 0
  ·subst he
   rw [if_neg (by simp)]
   have f2 := RFailO b v10 0 ck (N + 7)
   rw [if_pos rfl] at f2
   by_cases hc : ck = 0
   ·subst hc
    rw [if_neg (by simp), hB]
    have hcs := And.intro cC (And.intro f2 True.intro)
    clear cC f2 hz
    exact WD
   ·rw [if_pos hc, hz]
    have he' : ((ck : Int) == 0) = false := by rw [beq_eq_false_iff_ne]; omega
    have he'' : ((ck : Int) != 0) = true := by rw [bne, he']; rfl
    have hcs := And.intro cC (And.intro f2 True.intro)
    clear cC f2 hB
    exact WD
  ·rw [if_pos he, hz]
   have f2 := RFailO b v10 e10 ck (N + 7)
   rw [if_neg he] at f2
   have he' : ((e10 : Int) == 0) = false := by rw [beq_eq_false_iff_ne]; omega
   have he'' : ((e10 : Int) != 0) = true := by rw [bne, he']; rfl
   have hcs := And.intro cC (And.intro f2 True.intro)
   clear cC f2 hB
   exact WD
end Go.Proofs.YtemmlldpmgfblaaGreatDoor

namespace Go.Proofs.YtemmlldpmgfblaaGreatDoor
open Go.Ab
attribute [local irreducible] Go.Ab.tyAV Go.Ab.aw Go.Ab.aops Go.Ab.kReg Go.Ab.aThen Go.Ab.aBlk Go.Ab.acond Go.Ab.aguard Go.Ab.astep Go.Ab.AStepX Go.Ab.aRet
attribute [local irreducible] shaG
theorem Same_refl (b : List UInt8) (hb : b.length ≤ 100000000) (k : Nat) : ACall Tryz.prog 24 [.slice none (b.map byteAV), .slice none (b.map byteAV)] k [] (.lit (.bool true)) [] := by
 have := Same_spec b b hb k
 rw [decide_eq_true rfl] at this
 exact this
theorem SameDis_refl (p : Di) (hp : p.ticket.length ≤ 100000000) (hc : p.conds.length ≤ 100000) (k : Nat) :
  ACall Tryz.prog 34 [diAV p, diAV p] k [] (.lit (.bool true)) [] := by
 have c1 := Same_refl p.ticket hp
 have c2 := SamePredicates_refl p.conds hc
 obtain ⟨ti, L, tg⟩ := p
 unfold diAV
 simp only at c1 c2 ⊢
 refine Bd Tryz.func34 Tryz.ntmps34 fun σ N hp hpn hk hkn hfree => ?_
 have hcs := And.intro c1 (And.intro c2 True.intro)
 clear c1 c2
 exact W0
theorem SameBound_refl (p : Bo) (hp : p.ticket.length ≤ 100000000) (hc : p.conds.length ≤ 100000) (k : Nat) :
  ACall Tryz.prog 102 [boAV p, boAV p] k [] (.lit (.bool true)) [] := by
 have c1 := Same_refl p.ticket hp
 have c2 := SamePredicates_refl p.conds hc
 obtain ⟨ti, L, tg⟩ := p
 unfold boAV
 simp only at c1 c2 ⊢
 refine Bd Tryz.func102 Tryz.ntmps102 fun σ N hp hpn hk hkn hfree => ?_
 have hcs := And.intro c1 (And.intro c2 True.intro)
 clear c1 c2
 exact W0
end Go.Proofs.YtemmlldpmgfblaaGreatDoor

namespace Go.Proofs.YtemmlldpmgfblaaGreatDoor
open Go.Ab
attribute [local irreducible] Go.Ab.tyAV Go.Ab.aw Go.Ab.aops Go.Ab.kReg Go.Ab.aThen Go.Ab.aBlk Go.Ab.acond Go.Ab.aguard Go.Ab.astep Go.Ab.AStepX Go.Ab.aRet
structure BuSm (z : Bu) : Prop where
 cl : z.cavs.length ≤ 100000
 dl : z.dis.length ≤ 100000
 cs : ∀ c ∈ z.cavs, CaSm c
 ds : ∀ d ∈ z.dis, d.ticket.length ≤ 100000000 ∧ d.conds.length ≤ 100000
theorem SameBu_refl (z : Bu) (h : BuSm z) (k : Nat) : ACall Tryz.prog 41 [buAV z, buAV z] k [] (.lit (.bool true)) [] := by
 obtain ⟨⟨g, n⟩, ep, se, L, tg, D⟩ := z
 have hdl := h.dl
 have hds := h.ds
 have c1 := refSame_cav L L h.cs h.cs (by have := h.cl; simp only at this; omega) (by have := h.cl; simp only at this; omega)
 rw [decide_eq_true rfl] at c1
 clear h
 simp only [buAV, rqAV] at *
 refine Bd Tryz.func41 Tryz.ntmps41 fun σ N hp hpn hk hkn hfree => ?_
 have hcs := And.intro c1 True.intro
 clear c1
 refine Wk ?_
 clear hcs
 refine go_loopF mixed (by kernel_rfl) [4, 5, 49, 50, 51, 52, 53, 54, 55, 56, 57, 58, 59, 60, 61, 62, 63, 64, 65, 66, 67] [] (fun m_ s_ σ_ n_ => ∃ (u : Nat), m_ = D.length - u ∧ s_ 5 = .lit (.int .i64 u) ∧ (u ≤ D.length)) ⟨_, 0, rfl, WF, WC⟩ ?_
 intro m_1 s_1 σ_1 n_1 hs_1 hf_1 hn_1 hI_1
 obtain ⟨u, hm_1, h1_5, hu⟩ := hI_1
 have h1_2 := KS hs_1 2
 have h1_3 := KS hs_1 3
 have k1_0 := KE hf_1 (N)
 have k1_1 := KE hf_1 (N + 1)
 have hlow := KL (N := N) (σ := σ) hf_1
 by_cases hul : u = D.length
 ·subst hul
  exact W0
 ·have hlt : u < D.length := by omega
  obtain ⟨z, hz⟩ : ∃ z, D[u] = z := ⟨_, rfl⟩
  have hm := hds z (by rw [← hz]; exact List.getElem_mem _)
  have c2 := SameBound_refl z hm.1 hm.2
  clear hds hm
  have hcs := And.intro c2 True.intro
  clear c2
  refine Wk ?_
  clear hcs
  exact ⟨WS, WG, WN, _, (show D.length - (u + 1) < m_1 by omega), u + 1, rfl, WF, WC⟩
theorem cavO_sm (b : List UInt8) (u e : Nat) : CaSm (cavO b u e).1 := by
 unfold cavO
 split
 ·exact ⟨by simp [zeroCa], by simp [zeroCa]⟩
 ·exact decC_sm _
theorem bndO_sm {b : List UInt8} (u e : Nat) (h : u ≤ b.length) : ((bndO b u e).1.ticket.length ≤ 100000000 ∧ (bndO b u e).1.conds.length ≤ 100000) ∧ (bndO b u e).2.1 ≤ b.length := by
 unfold bndO
 split
 ·exact ⟨⟨by simp [bo0], by simp [bo0]⟩, h⟩
 ·obtain ⟨_, h2, h3, h4⟩ := bndS_ok u h
  exact ⟨⟨by omega, by omega⟩, h2⟩
theorem bunW_sm (b : List UInt8) : BuSm (bunW b itS itS).1 := by
 have hin := bunS_in b
 refine ⟨by have := hin.cl; omega, by have := hin.dl; omega, ?_, ?_⟩
 all_goals
  clear hin
  have h1 : (numO b 0 0).2.1 ≤ b.length := numO_le (Nat.zero_le _)
  unfold bunW
  simp only
  generalize (numO b 0 0) = v at *
  have h2 := numO_le (e := if v.2.2 = 0 ∧ v.1 ≠ 1 then 6 else v.2.2) h1
  generalize numO b v.2.1 (if v.2.2 = 0 ∧ v.1 ≠ 1 then 6 else v.2.2) = g at *
  have h3 := numO_le (e := g.2.2) h2
  generalize numO b g.2.1 g.2.2 = n at *
  have h4 := numO_le (e := n.2.2) h3
  generalize numO b n.2.1 n.2.2 = p at *
  have h5 := numO_le (e := p.2.2) h4
  generalize numO b p.2.1 p.2.2 = s at *
  have h6 := cntO_le (m := 64) (e := s.2.2) h5
  generalize cntO b 64 s.2.1 s.2.2 = c at *
  have h7 := itS_ok (f := cavO b) (Q := CaSm) (fun u hu => ⟨cavO_sm b u 0, (cavO_ok u 0 hu).2⟩) c.1 c.2.1 c.2.2 h6
 ·exact h7.1
 ·generalize itS (cavO b) c.1 c.2.1 c.2.2 = cs at *
  have h8 := tagO_le (e := cs.2.2) h7.2
  generalize tagO b cs.2.1 cs.2.2 = t at *
  have h9 := cntO_le (m := 8) (e := t.2.2) h8
  generalize cntO b 8 t.2.1 t.2.2 = d at *
  exact (itS_ok (f := bndO b) (Q := fun d => d.ticket.length ≤ 100000000 ∧ d.conds.length ≤ 100000) (fun u hu => bndO_sm u 0 hu) d.1 d.2.1 d.2.2 h9).1
theorem bu0_sm : BuSm bu0 := ⟨by decide, by decide, fun c hc => (by cases hc), fun c hc => (by cases hc)⟩
theorem decB_sm (b : List UInt8) : BuSm (decB b).1 := by
 unfold decB
 split
 ·exact bu0_sm
 split
 ·exact bu0_sm
 split
 ·exact bu0_sm
 ·exact bunW_sm b
end Go.Proofs.YtemmlldpmgfblaaGreatDoor

namespace Go.Ab
def bitsN : Nat → Nat → List Bool
 | 0, _ => []
 | n + 1, v => (v / 2 ^ n % 2 == 1) :: bitsN n v
def numA (a : Nat) (l : List Bool) : Nat := l.foldl (fun a b => 2 * a + b.toNat) a
def num (l : List Bool) : Nat := numA 0 l
theorem numA_eq (l : List Bool) : ∀ a, numA a l = a * 2 ^ l.length + num l := by
 induction l with
 | nil => intro a; simp [num, numA]
 | cons b r ih =>
  intro a
  have h1 : numA a (b :: r) = numA (2 * a + b.toNat) r := rfl
  have h2 : num (b :: r) = numA (2 * 0 + b.toNat) r := rfl
  rw [h1, h2, ih, ih (2 * 0 + b.toNat), List.length_cons, Nat.pow_succ, Nat.add_mul, Nat.mul_zero, Nat.zero_add, Nat.mul_comm 2 a, Nat.mul_assoc, Nat.mul_comm 2]
  omega
theorem num_nil : num [] = 0 := rfl
theorem num_cons (b : Bool) (r : List Bool) : num (b :: r) = b.toNat * 2 ^ r.length + num r := by
 have h2 : num (b :: r) = numA (2 * 0 + b.toNat) r := rfl
 rw [h2, numA_eq, Nat.mul_zero, Nat.zero_add]
theorem num_append (a b : List Bool) : num (a ++ b) = num a * 2 ^ b.length + num b := by
 have : num (a ++ b) = numA (num a) b := by simp [num, numA]
 rw [this, numA_eq]
theorem num_lt (l : List Bool) : num l < 2 ^ l.length := by
 induction l with
 | nil => simp [num, numA]
 | cons b r ih =>
  rw [num_cons, List.length_cons, Nat.pow_succ]
  have : b.toNat ≤ 1 := by cases b <;> simp
  have : b.toNat * 2 ^ r.length ≤ 1 * 2 ^ r.length := Nat.mul_le_mul_right _ this
  omega
theorem bitsN_len (n v : Nat) : (bitsN n v).length = n := by
 induction n with
 | zero => rfl
 | succ n ih => simp [bitsN, ih]
theorem beq1_toNat (x : Nat) (h : x < 2) : (x == 1).toNat = x := by
 have : x = 0 ∨ x = 1 := by omega
 rcases this with rfl | rfl <;> rfl
theorem num_bitsN (n v : Nat) : num (bitsN n v) = v % 2 ^ n := by
 induction n with
 | zero => simp [bitsN, num, numA, Nat.mod_one]
 | succ n ih =>
  rw [bitsN, num_cons, bitsN_len, ih, beq1_toNat _ (Nat.mod_lt _ (by omega)), Nat.pow_succ, Nat.mod_mul, Nat.mul_comm (2 ^ n)]
  omega
def bits8 (x : UInt8) : List Bool := bitsN 8 x.toNat
theorem bits8_len (x : UInt8) : (bits8 x).length = 8 := bitsN_len _ _
def bitsB (b : List UInt8) : List Bool := b.flatMap bits8
theorem bitsB_nil : bitsB [] = [] := rfl
theorem bitsB_cons (x : UInt8) (r : List UInt8) : bitsB (x :: r) = bits8 x ++ bitsB r := by simp [bitsB]
theorem bitsB_len (b : List UInt8) : (bitsB b).length = 8 * b.length := by
 induction b with
 | nil => rfl
 | cons x r ih => rw [bitsB_cons, List.length_append, bits8_len, ih, List.length_cons]; omega
def chunks6 (l : List Bool) : List Nat :=
 if _h : l = [] then [] else num (l.take 6 ++ List.replicate (6 - l.length) false) :: chunks6 (l.drop 6)
termination_by l.length
decreasing_by
 have : 0 < l.length := List.length_pos_iff.2 _h
 simp only [List.length_drop]; omega
theorem chunks6_nil : chunks6 [] = [] := by unfold chunks6; simp
theorem chunks6_six (p r : List Bool) (hp : p.length = 6) : chunks6 (p ++ r) = num p :: chunks6 r := by
 have hne : p ++ r ≠ [] := by intro h; have := congrArg List.length h; simp [hp] at this
 rw [chunks6, dif_neg hne]
 have h1 : (p ++ r).take 6 = p := by rw [List.take_append_of_le_length (by omega), List.take_of_length_le (by omega)]
 have h2 : (p ++ r).drop 6 = r := by rw [← hp, List.drop_left]
 have h3 : 6 - (p ++ r).length = 0 := by simp [hp]
 rw [h1, h2, h3]; simp
theorem chunks6_short (p : List Bool) (h0 : 0 < p.length) (h6 : p.length < 6) : chunks6 p = [num p * 2 ^ (6 - p.length)] := by
 have hne : p ≠ [] := List.length_pos_iff.1 h0
 rw [chunks6, dif_neg hne, List.take_of_length_le (by omega), List.drop_eq_nil_of_le (by omega), chunks6_nil, num_append]
 have : ∀ n, num (List.replicate n false) = 0 := by
  intro n
  induction n with
  | zero => rfl
  | succ n ih => rw [List.replicate_succ, num_cons, ih]; simp
 rw [this, List.length_replicate]; simp
theorem chunks6_len (l : List Bool) : (chunks6 l).length ≤ l.length := by
 induction h : l.length using Nat.strongRecOn generalizing l with
 | _ n ih =>
  rw [chunks6]
  split
  ·simp
  ·rename_i hne
   have h0 : 0 < l.length := List.length_pos_iff.2 hne
   have hd : (l.drop 6).length = l.length - 6 := List.length_drop
   have := ih (l.drop 6).length (by omega) (l.drop 6) rfl
   simp only [List.length_cons]; omega
theorem bitsN_get (v : Nat) : ∀ (n i : Nat), i < n → (bitsN n v)[i]? = some (v / 2 ^ (n - 1 - i) % 2 == 1)
 | 0, i, h => by omega
 | n + 1, 0, h => by simp [bitsN]
 | n + 1, i + 1, h => by
  rw [bitsN, List.getElem?_cons_succ, bitsN_get v n i (by omega), show n + 1 - 1 - (i + 1) = n - 1 - i by omega]
theorem bitsB_get (b : List UInt8) : ∀ (i : Nat) (x : UInt8), b[i / 8]? = some x → (bitsB b)[i]? = some (x.toNat / 2 ^ (7 - i % 8) % 2 == 1) := by
 induction b with
 | nil => intro i x h; simp at h
 | cons y r ih =>
  intro i x h
  rw [bitsB_cons]
  by_cases hi : i < 8
  ·rw [show i / 8 = 0 by omega, List.getElem?_cons_zero] at h
   cases h
   rw [List.getElem?_append_left (by rw [bits8_len]; exact hi), bits8, bitsN_get _ 8 i hi, show i % 8 = i by omega]
  ·rw [List.getElem?_append_right (by rw [bits8_len]; omega), bits8_len]
   obtain ⟨j, rfl⟩ : ∃ j, i = j + 8 := ⟨i - 8, by omega⟩
   rw [show (j + 8) / 8 = j / 8 + 1 by omega, List.getElem?_cons_succ] at h
   rw [show j + 8 - 8 = j by omega, ih j x h, show (j + 8) % 8 = j % 8 by omega]
theorem num_snoc (a : List Bool) (b : Bool) : num (a ++ [b]) = 2 * num a + b.toNat := by
 rw [num_append, num_cons, num_nil]; simp; omega
end Go.Ab
