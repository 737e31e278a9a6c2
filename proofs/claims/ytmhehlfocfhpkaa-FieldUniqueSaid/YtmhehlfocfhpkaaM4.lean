/- Texts C9, F, S1, L1, N1, N2, N3, L2, joined. -/
import Derived.Test.YtmhehlfocfhpkaaM3
import Derived.Test.YtmhehlfocfhpkaaRows
import Derived.KernelRfl

/- Loops whose slots are read as saying less at every round's head. -/
namespace Go.Ab
open Go.RowKit

/-- A slice, whosever its row is. -/
def fgv : AV → AV
  | .slice _ xs => .slice none xs
  | .nils => .slice none []
  | .clip xs => .slice none xs
  | x => x
theorem fgv_le (x : AV) : AV.le x (fgv x) := by
  cases x with
  | slice o xs => exact AV.le_own o xs
  | nils => exact AV.le_nils0
  | clip xs => exact AV.le_clip xs
  | _ => exact AV.le_refl _
@[go_sem] theorem fgv_slice (o : Option Nat) (xs : List AV) : fgv (.slice o xs) = .slice none xs := rfl
@[go_sem] theorem fgv_nils : fgv .nils = .slice none [] := rfl
@[go_sem] theorem fgv_clip (xs : List AV) : fgv (.clip xs) = .slice none xs := rfl
def fg (ts : List Nat) (s : Slots) : Slots := fun t => if ts.contains t then fgv (s t) else s t
@[go_sem] theorem fg_at (ts : List Nat) (s : Slots) (t : Nat) : fg ts s t = if ts.contains t then fgv (s t) else s t := rfl
theorem SKeep.fg {L ts : List Nat} {s s' : Slots} (hts : ts.all (fun x => L.contains x) = true) (h : SKeep L s s') : SKeep L s (fg ts s') := fun t ht => by
  have : ts.contains t = false := by
    rw [Bool.eq_false_iff]
    intro hc
    have hm : t ∈ ts := by simpa using hc
    exact ht (by have := List.all_eq_true.1 hts t hm; simpa using this)
  rw [fg_at, this]
  exact h t ht
theorem SimA.fg {W0 : World} {g : Ghost} {N : Nat} {s : Slots} {σ : Nat → Ent} {n : Nat} {a : Act} {w : World} (ts : List Nat) (h : SimA W0 g N ⟨s, σ, n⟩ a w) : SimA W0 g N ⟨Go.Ab.fg ts s, σ, n⟩ a w :=
  ⟨h.sim, h.size, fun t => by
    simp only [fg_at]
    split
    · exact fgv_le _ _ _ (h.slots t)
    · exact h.slots t⟩

theorem go_loopL {P : Program} {N : Nat} {b : Code} {Q : AExit → Cfg → Prop} {s : Slots} {σ : Nat → Ent} {n : Nat} (ts : List Nat) (bnd : Nat) (hmix : P.follows .mixedOrders = true) (hok : codeOK N b = true) (mods ents : List Nat) (hts : ts.all (fun x => mods.contains x) = true) (I : Nat → Slots → (Nat → Ent) → Nat → Prop)
    (h0 : ∃ m, I m (fg ts s) σ n)
    (round : ∀ m s' σ' n', SKeep mods s s' → EKeep bnd ents σ σ' → n ≤ n' → I m s' σ' n' → aw P N b (aThen (fun c' => SKeep mods s c'.s ∧ EKeep bnd ents σ c'.σ ∧ n ≤ c'.n ∧ ∃ m', m' < m ∧ I m' (fg ts c'.s) c'.σ c'.n) Q) ⟨s', σ', n'⟩) : aw P N (.loop b) Q ⟨s, σ, n⟩ := by
  obtain ⟨m0, h0⟩ := h0
  intro hok' hmix' ro hro W0 g a w hS
  refine wp_loop_ghost (X := Cfg × Nat) (fun x a' w => ∃ g', g.le g' ∧ SimA W0 g' N x.1 a' w ∧ Marks g g' a.defers a'.defers ∧ SKeep mods s x.1.s ∧ EKeep bnd ents σ x.1.σ ∧ n ≤ x.1.n ∧ I x.2 x.1.s x.1.σ x.1.n) (fun x => x.2) (⟨fg ts s, σ, n⟩, m0) ⟨g, g.le_refl, hS.fg ts, .refl _ _ _, (SKeep.refl _ _).fg hts, EKeep.refl _ _ _, Nat.le_refl _, h0⟩ fun x a w ⟨g', hle, hS', hM, k1, k2, k3, hI⟩ => ?_
  obtain ⟨⟨s', σ', n'⟩, m⟩ := x
  refine wpIn_mono (round m s' σ' n' k1 k2 k3 hI hok hmix ro hro.loop W0 g' a w hS') fun e a' w' ⟨c', g'', hle', hS'', hM', hq⟩ => ?_
  cases e with
  | normal =>
    obtain ⟨q1, q2, q3, m', q4, q5⟩ := hq
    exact ⟨(⟨fg ts c'.s, c'.σ, c'.n⟩, m'), ⟨g'', hle.trans hle', hS''.fg ts, hM.trans hle hle' hM', q1.fg hts, q2, q3, q5⟩, q4⟩
  | exit id => exact ⟨c', g'', hle.trans hle', hS'', hM.trans hle hle' hM', hq⟩
  | ret => exact ⟨c', g'', hle.trans hle', hS'', hM.trans hle hle' hM', hq⟩
  | goto => exact hq.elim
  | panic => exact hq.elim
  | outgrown => exact hq.elim
theorem go_loopLF {P : Program} {N : Nat} {b : Code} {Q : AExit → Cfg → Prop} {s : Slots} {σ : Nat → Ent} {n : Nat} (ts : List Nat) (hmix : P.follows .mixedOrders = true) (hok : codeOK N b = true) (mods ents : List Nat) (hts : ts.all (fun x => mods.contains x) = true) (I : Nat → Slots → (Nat → Ent) → Nat → Prop)
    (h0 : ∃ m, I m (fg ts s) σ n)
    (round : ∀ m s' σ' n', SKeep mods s s' → EKeep n ents σ σ' → n ≤ n' → I m s' σ' n' → aw P N b (aThen (fun c' => SKeep mods s c'.s ∧ EKeep n ents σ c'.σ ∧ n ≤ c'.n ∧ ∃ m', m' < m ∧ I m' (fg ts c'.s) c'.σ c'.n) Q) ⟨s', σ', n'⟩) : aw P N (.loop b) Q ⟨s, σ, n⟩ :=
  go_loopL ts n hmix hok mods ents hts I h0 round

/-- The first round is walked by itself. -/
theorem go_loopP {P : Program} {N : Nat} {b : Code} {Q : AExit → Cfg → Prop} {s : Slots} {σ : Nat → Ent} {n : Nat} (B bnd : Nat) (hmix : P.follows .mixedOrders = true) (hok : codeOK N b = true) (mods ents : List Nat) (I0 : Slots → (Nat → Ent) → Nat → Prop) (I : Nat → Slots → (Nat → Ent) → Nat → Prop)
    (h0 : I0 s σ n)
    (first : ∀ s' σ' n', SKeep mods s s' → EKeep bnd ents σ σ' → n ≤ n' → I0 s' σ' n' → aw P N b (aThen (fun c' => SKeep mods s c'.s ∧ EKeep bnd ents σ c'.σ ∧ n ≤ c'.n ∧ ∃ m', m' < B ∧ I m' c'.s c'.σ c'.n) Q) ⟨s', σ', n'⟩)
    (round : ∀ m s' σ' n', SKeep mods s s' → EKeep bnd ents σ σ' → n ≤ n' → I m s' σ' n' → aw P N b (aThen (fun c' => SKeep mods s c'.s ∧ EKeep bnd ents σ c'.σ ∧ n ≤ c'.n ∧ ∃ m', m' < m ∧ I m' c'.s c'.σ c'.n) Q) ⟨s', σ', n'⟩) : aw P N (.loop b) Q ⟨s, σ, n⟩ := by
  refine go_loopB bnd hmix hok mods ents (fun m s' σ' n' => (m = B ∧ I0 s' σ' n') ∨ (m < B ∧ I m s' σ' n')) ⟨B, .inl ⟨rfl, h0⟩⟩ fun m s' σ' n' k1 k2 k3 hI => ?_
  rcases hI with ⟨rfl, hI⟩ | ⟨hm, hI⟩
  · refine go_mid (first s' σ' n' k1 k2 k3 hI) fun e c' hq => ?_
    cases e with
    | normal => obtain ⟨q1, q2, q3, m', q4, q5⟩ := hq; exact ⟨q1, q2, q3, m', q4, .inr ⟨q4, q5⟩⟩
    | exit id => exact hq
    | ret => exact hq
  · refine go_mid (round m s' σ' n' k1 k2 k3 hI) fun e c' hq => ?_
    cases e with
    | normal => obtain ⟨q1, q2, q3, m', q4, q5⟩ := hq; exact ⟨q1, q2, q3, m', q4, .inr ⟨Nat.lt_trans q4 hm, q5⟩⟩
    | exit id => exact hq
    | ret => exact hq

/-! ### A part of an array that is a value -/
theorem holds_index_arr {P : Program} {o : Oper} {s : Slots} {id : Nat} {t e : TypeId} {x i : Operand} {len size : Nat} {xs : List AV} {y : AV} {k : IntKind} {n : Int} (ho : o.op = .index t x i) (ht : arrTy P t = some (len, e)) (hs : sizeIs P e size = true) (hx : aeval s x = .agg xs)
    (hi : aeval s i = .lit (.int k n)) (hn : 0 ≤ n) (hlt : n.toNat < len) (hy : xs[n.toNat]? = some y) (hk : AV.szl (xs.take n.toNat) = n.toNat * size) (hT : tyIs P e y.isAgg y.sz = true) (h1 : y.isAgg = true ∨ y.one = true) : OpHolds P o s id [] y [] :=
  holds_pure fun g w a hr => by
    have h1' := hr x (by simp [ho, Op.operands])
    have h2 := hr i (by simp [ho, Op.operands])
    rw [hx] at h1'
    rw [hi] at h2
    have e2 := rep_lit_inv h2
    generalize hv : a.eval x = v at h1'
    obtain ⟨ie, hie, hsz⟩ := sizeIs_sound hs
    cases h1' with
    | agg _ vs hvl hvr =>
      have hR : Rep g (.agg xs) (.agg (flat vs).toArray) := .agg xs vs hvl hvr
      obtain ⟨u, hu, hub, huc⟩ := hR.get (path := [n.toNat]) (y := y) (by simp [AV.get, hy])
      have ho' : (AV.agg xs).offs [n.toNat] = n.toNat * size := by simp [AV.offs, hy, hk]
      rw [ho'] at hub huc
      have hp := run_part (P := P) hu hT h1 (cs := (flat vs).toArray) (off := n.toNat * size) (fun j q hq => by simpa [cells_agg] using huc j q hq) (by simpa [cells_agg] using hub) w
      refine ⟨u, ?_, hu⟩
      have hlt' : n < (len : Int) := by omega
      simp [execOp, ho, hv, e2, Instr.index, asIntOf, run_underlying (arrTy_sound ht), hn, hlt', sizeOf, typeInfo, hie, hsz, hp]
def evIndexA (P : Program) (t : TypeId) (u v : AV) : Option AV :=
  match u, v with
  | .agg xs, .lit (.int _ n) => match arrInfo P t, xs[n.toNat]? with
    | some (len, e, size), some y => if (0 ≤ n ∧ n.toNat < len ∧ AV.szl (xs.take n.toNat) = n.toNat * size) ∧ tyInfo P e = some (y.isAgg, y.sz) ∧ (y.isAgg = true ∨ y.one = true) then some y else none
    | _, _ => none
  | _, _ => none
attribute [go_sem] evIndexA AV.one
theorem go_indexA {P : Program} {ops : Array Oper} {m i n : Nat} {T : Trace} {k : Cfg → Trace → Prop} {ty : TypeId} {pos : String} {after : Array Edge} {r : List Oper} {s : Slots} {σ : Nat → Ent} {t : Tmp} {x y : Operand} {t' : TypeId} {v : AV} (he : evIndexA P t' (aeval s x) (aeval s y) = some v)
    (h : aops P ops m r (i + 1) T k ⟨upd s t v, σ, n⟩) : aops P ops m (⟨some t, .index t' x y, ty, pos, after, none⟩ :: r) i T k ⟨s, σ, n⟩ :=
  go_own (st := ⟨[], v, []⟩) (fun o ho => by
    unfold evIndexA at he
    split at he
    · rename_i hx hi
      split at he
      · rename_i ht hy
        split at he
        · rename_i hc
          cases he
          obtain ⟨⟨c1, c2, c3⟩, c4, c5⟩ := hc
          obtain ⟨k1, k2⟩ := arrInfo_sound ht
          exact .mk0 (holds_index_arr ho k1 k2 hx hi c1 c2 hy c3 (tyInfo_sound c4).1 c5)
        · cases he
      · cases he
    · cases he) h

/-! ### Walks, and what they owe, as default arguments -/
/-- A walk as far as it goes. -/
structure Later (q : Prop) : Prop where
  out : q
theorem Wk {p q : Prop} (h : q) (h2 : Later q → p := by intro hq; (repeat (first | apply go_nil | apply go_kreg | apply go_kreg0 | apply go_kreg1 | (apply go_kregT; · (first | (simp [addT, CF, CFy, Ind, DisjF]; done) | (simp only [addT, CF, CFy, Ind]; repeat' (first | exact trivial | apply And.intro | exact Or.inl (by decide +kernel) | (refine Or.inr ⟨?_, ?_⟩ <;> (simp; try omega)))))) | apply go_then | apply go_then_exit | apply go_then_ret | apply go_blk | apply go_blk_ret | apply go_blk_here | (apply go_blk_there; · rfl) | apply go_seq | (apply go_region; · (simp only [List.length_cons, List.length_nil, Nat.reduceAdd, Nat.add_assoc]; rfl)) | apply go_skip | apply go_block | apply go_scope | apply go_label | apply go_exit | apply go_ret | (apply go_mut; (· assumption); · (simp (disch := omega) [go_sem, *, -List.reduceReplicate]; first | exact ⟨rfl, rfl⟩ | (simp [go_sem, *]; exact ⟨rfl, rfl⟩))) | (apply go_mutP; (· assumption); · (simp (disch := omega) [go_sem, *, -List.reduceReplicate]; try first | rfl | exact ⟨rfl, rfl⟩ | exact ⟨rfl, rfl, rfl⟩)) | (apply go_guard_in; (· rfl); · (simp (disch := omega) [go_sem, *, -List.reduceReplicate]; try first | rfl | omega)) | (apply go_guard_off; (· rfl); · (simp (disch := omega) [go_sem, *, -List.reduceReplicate]; try first | rfl | omega)) | (apply go_guard_no; (· rfl); · (simp (disch := omega) [go_sem, *, -List.reduceReplicate]; try rfl)) | ((first | apply go_move | apply go_assign | apply go_load | apply go_store | apply go_append | apply go_copy | apply go_copy0 | apply go_clear0 | apply go_slice3 | apply go_indexA); · (simp (disch := omega) [go_sem, *, -List.reduceReplicate]; try first | rfl | exact ⟨rfl, rfl⟩ | exact ⟨rfl, rfl, rfl⟩)) | ((first | apply go_loadv | apply go_append0 | apply go_beyond); · (simp (disch := omega) [go_sem, *, -List.reduceReplicate]; try first | rfl | exact ⟨rfl, rfl⟩ | exact ⟨rfl, rfl, rfl⟩)) | (apply go_appself; · (simp (disch := omega) [go_sem, *, -List.reduceReplicate]; try first | rfl | exact ⟨rfl, rfl⟩ | exact ⟨rfl, rfl, rfl⟩)) | ((first | (apply go_appendz; · rfl) | (apply go_new; · rfl) | (apply go_pure; · rfl)); · (simp (disch := omega) [go_sem, *, -List.reduceReplicate]; try first | rfl | exact ⟨rfl, rfl⟩ | exact ⟨rfl, rfl, rfl⟩)) | ((apply go_glob; · assumption); · (simp (disch := omega) [go_sem, *, -List.reduceReplicate]; try first | rfl | exact ⟨rfl, rfl⟩ | exact ⟨rfl, rfl, rfl⟩)) | (apply go_read1; (· rfl); · (simp (disch := omega) [go_sem, *, -List.reduceReplicate]; try first | rfl | exact ⟨rfl, rfl⟩ | exact ⟨rfl, rfl, rfl⟩)) | (apply go_rw1; (· rfl); · (simp (disch := omega) [go_sem, *, -List.reduceReplicate]; try first | rfl | exact ⟨rfl, rfl⟩ | exact ⟨rfl, rfl, rfl⟩)) | (apply go_new1; (· rfl); · (simp (disch := omega) [go_sem, *, -List.reduceReplicate]; try first | rfl | exact ⟨rfl, rfl⟩ | exact ⟨rfl, rfl, rfl⟩)) | (apply go_conv; · (simp (disch := omega) [go_sem, *, -List.reduceReplicate]; try first | rfl | exact ⟨rfl, rfl⟩ | exact ⟨rfl, rfl, rfl⟩)) | ((first | (apply go_new; · rfl) | (apply go_pure; · rfl)); · (simp (disch := omega) [go_sem, *, -List.reduceReplicate]; simp [go_sem, *]; try first | rfl | exact ⟨rfl, rfl⟩)) | (apply go_condT; · (simp (disch := omega) [go_sem, *, -List.reduceReplicate]; try first | rfl | omega; done)) | (apply go_condF; · (simp (disch := omega) [go_sem, *, -List.reduceReplicate]; try first | rfl | omega; done)) | ((first | refine go_callw (hcs.1 _) (by simp (disch := omega) [go_sem, *, -List.reduceReplicate]; try rfl) (by simp (disch := omega) [go_sem, *, -List.reduceReplicate]; repeat' first | exact ALe.nil | exact AV.le_refl _ | exact AV.le_nils | exact AV.le_own _ _ | apply ALe.cons | apply AV.sub_agg) (by simp (disch := omega) [go_sem, *, -List.reduceReplicate]) ?_ | refine go_yieldw (hcs.1 _) (by simp (disch := omega) [go_sem, *, -List.reduceReplicate]; try rfl) (by simp (disch := omega) [go_sem, *, -List.reduceReplicate]; repeat' first | exact ALe.nil | exact AV.le_refl _ | exact AV.le_nils | exact AV.le_own _ _ | apply ALe.cons | apply AV.sub_agg) (by simp (disch := omega) [go_sem, *, -List.reduceReplicate]) ?_); have hcs := hcs.2))); exact hq.out) : p := h2 ⟨h⟩
theorem W0 {p : Prop} (h : p := by (repeat (first | apply go_nil | apply go_kreg | apply go_kreg0 | apply go_kreg1 | (apply go_kregT; · (first | (simp [addT, CF, CFy, Ind, DisjF]; done) | (simp only [addT, CF, CFy, Ind]; repeat' (first | exact trivial | apply And.intro | exact Or.inl (by decide +kernel) | (refine Or.inr ⟨?_, ?_⟩ <;> (simp; try omega)))))) | apply go_then | apply go_then_exit | apply go_then_ret | apply go_blk | apply go_blk_ret | apply go_blk_here | (apply go_blk_there; · rfl) | apply go_seq | (apply go_region; · (simp only [List.length_cons, List.length_nil, Nat.reduceAdd, Nat.add_assoc]; rfl)) | apply go_skip | apply go_block | apply go_scope | apply go_label | apply go_exit | apply go_ret | (apply go_mut; (· assumption); · (simp (disch := omega) [go_sem, *, -List.reduceReplicate]; first | exact ⟨rfl, rfl⟩ | (simp [go_sem, *]; exact ⟨rfl, rfl⟩))) | (apply go_mutP; (· assumption); · (simp (disch := omega) [go_sem, *, -List.reduceReplicate]; try first | rfl | exact ⟨rfl, rfl⟩ | exact ⟨rfl, rfl, rfl⟩)) | (apply go_guard_in; (· rfl); · (simp (disch := omega) [go_sem, *, -List.reduceReplicate]; try first | rfl | omega)) | (apply go_guard_off; (· rfl); · (simp (disch := omega) [go_sem, *, -List.reduceReplicate]; try first | rfl | omega)) | (apply go_guard_no; (· rfl); · (simp (disch := omega) [go_sem, *, -List.reduceReplicate]; try rfl)) | ((first | apply go_move | apply go_assign | apply go_load | apply go_store | apply go_append | apply go_copy | apply go_copy0 | apply go_clear0 | apply go_slice3 | apply go_indexA); · (simp (disch := omega) [go_sem, *, -List.reduceReplicate]; try first | rfl | exact ⟨rfl, rfl⟩ | exact ⟨rfl, rfl, rfl⟩)) | ((first | apply go_loadv | apply go_append0 | apply go_beyond); · (simp (disch := omega) [go_sem, *, -List.reduceReplicate]; try first | rfl | exact ⟨rfl, rfl⟩ | exact ⟨rfl, rfl, rfl⟩)) | (apply go_appself; · (simp (disch := omega) [go_sem, *, -List.reduceReplicate]; try first | rfl | exact ⟨rfl, rfl⟩ | exact ⟨rfl, rfl, rfl⟩)) | ((first | (apply go_appendz; · rfl) | (apply go_new; · rfl) | (apply go_pure; · rfl)); · (simp (disch := omega) [go_sem, *, -List.reduceReplicate]; try first | rfl | exact ⟨rfl, rfl⟩ | exact ⟨rfl, rfl, rfl⟩)) | ((apply go_glob; · assumption); · (simp (disch := omega) [go_sem, *, -List.reduceReplicate]; try first | rfl | exact ⟨rfl, rfl⟩ | exact ⟨rfl, rfl, rfl⟩)) | (apply go_read1; (· rfl); · (simp (disch := omega) [go_sem, *, -List.reduceReplicate]; try first | rfl | exact ⟨rfl, rfl⟩ | exact ⟨rfl, rfl, rfl⟩)) | (apply go_rw1; (· rfl); · (simp (disch := omega) [go_sem, *, -List.reduceReplicate]; try first | rfl | exact ⟨rfl, rfl⟩ | exact ⟨rfl, rfl, rfl⟩)) | (apply go_new1; (· rfl); · (simp (disch := omega) [go_sem, *, -List.reduceReplicate]; try first | rfl | exact ⟨rfl, rfl⟩ | exact ⟨rfl, rfl, rfl⟩)) | (apply go_conv; · (simp (disch := omega) [go_sem, *, -List.reduceReplicate]; try first | rfl | exact ⟨rfl, rfl⟩ | exact ⟨rfl, rfl, rfl⟩)) | ((first | (apply go_new; · rfl) | (apply go_pure; · rfl)); · (simp (disch := omega) [go_sem, *, -List.reduceReplicate]; simp [go_sem, *]; try first | rfl | exact ⟨rfl, rfl⟩)) | (apply go_condT; · (simp (disch := omega) [go_sem, *, -List.reduceReplicate]; try first | rfl | omega; done)) | (apply go_condF; · (simp (disch := omega) [go_sem, *, -List.reduceReplicate]; try first | rfl | omega; done)) | (obtain ⟨hcall, hcs⟩ := hcs; (first | refine go_callw (hcall _) (by simp (disch := omega) [go_sem, *, -List.reduceReplicate]; try rfl) (by simp (disch := omega) [go_sem, *, -List.reduceReplicate]; repeat' first | exact ALe.nil | exact AV.le_refl _ | exact AV.le_nils | exact AV.le_own _ _ | apply ALe.cons | apply AV.sub_agg) (by simp (disch := omega) [go_sem, *, -List.reduceReplicate]) ?_ | refine go_yieldw (hcall _) (by simp (disch := omega) [go_sem, *, -List.reduceReplicate]; try rfl) (by simp (disch := omega) [go_sem, *, -List.reduceReplicate]; repeat' first | exact ALe.nil | exact AV.le_refl _ | exact AV.le_nils | exact AV.le_own _ _ | apply ALe.cons | apply AV.sub_agg) (by simp (disch := omega) [go_sem, *, -List.reduceReplicate]) ?_); clear hcall))); refine go_result (by simp (disch := omega) [go_sem, *, -List.reduceReplicate]; rfl) (by simp (disch := omega) [go_sem]; try rfl) (fun id hid => by simp (disch := omega) only [upd_ne, wr_cons, wr_nil]; try exact hlow id hid)) : p := h
theorem WL {p : Prop} (h : p := by (repeat (first | apply go_nil | apply go_kreg | apply go_kreg0 | apply go_kreg1 | (apply go_kregT; · (first | (simp [addT, CF, CFy, Ind, DisjF]; done) | (simp only [addT, CF, CFy, Ind]; repeat' (first | exact trivial | apply And.intro | exact Or.inl (by decide +kernel) | (refine Or.inr ⟨?_, ?_⟩ <;> (simp; try omega)))))) | apply go_then | apply go_then_exit | apply go_then_ret | apply go_blk | apply go_blk_ret | apply go_blk_here | (apply go_blk_there; · rfl) | apply go_seq | (apply go_region; · (simp only [List.length_cons, List.length_nil, Nat.reduceAdd, Nat.add_assoc]; rfl)) | apply go_skip | apply go_block | apply go_scope | apply go_label | apply go_exit | apply go_ret | (apply go_mut; (· assumption); · (simp (disch := omega) [go_sem, *, -List.reduceReplicate]; first | exact ⟨rfl, rfl⟩ | (simp [go_sem, *]; exact ⟨rfl, rfl⟩))) | (apply go_mutP; (· assumption); · (simp (disch := omega) [go_sem, *, -List.reduceReplicate]; try first | rfl | exact ⟨rfl, rfl⟩ | exact ⟨rfl, rfl, rfl⟩)) | (apply go_guard_in; (· rfl); · (simp (disch := omega) [go_sem, *, -List.reduceReplicate]; try first | rfl | omega)) | (apply go_guard_off; (· rfl); · (simp (disch := omega) [go_sem, *, -List.reduceReplicate]; try first | rfl | omega)) | (apply go_guard_no; (· rfl); · (simp (disch := omega) [go_sem, *, -List.reduceReplicate]; try rfl)) | ((first | apply go_move | apply go_assign | apply go_load | apply go_store | apply go_append | apply go_copy | apply go_copy0 | apply go_clear0 | apply go_slice3 | apply go_indexA); · (simp (disch := omega) [go_sem, *, -List.reduceReplicate]; try first | rfl | exact ⟨rfl, rfl⟩ | exact ⟨rfl, rfl, rfl⟩)) | ((first | apply go_loadv | apply go_append0 | apply go_beyond); · (simp (disch := omega) [go_sem, *, -List.reduceReplicate]; try first | rfl | exact ⟨rfl, rfl⟩ | exact ⟨rfl, rfl, rfl⟩)) | (apply go_appself; · (simp (disch := omega) [go_sem, *, -List.reduceReplicate]; try first | rfl | exact ⟨rfl, rfl⟩ | exact ⟨rfl, rfl, rfl⟩)) | ((first | (apply go_appendz; · rfl) | (apply go_new; · rfl) | (apply go_pure; · rfl)); · (simp (disch := omega) [go_sem, *, -List.reduceReplicate]; try first | rfl | exact ⟨rfl, rfl⟩ | exact ⟨rfl, rfl, rfl⟩)) | ((apply go_glob; · assumption); · (simp (disch := omega) [go_sem, *, -List.reduceReplicate]; try first | rfl | exact ⟨rfl, rfl⟩ | exact ⟨rfl, rfl, rfl⟩)) | (apply go_read1; (· rfl); · (simp (disch := omega) [go_sem, *, -List.reduceReplicate]; try first | rfl | exact ⟨rfl, rfl⟩ | exact ⟨rfl, rfl, rfl⟩)) | (apply go_rw1; (· rfl); · (simp (disch := omega) [go_sem, *, -List.reduceReplicate]; try first | rfl | exact ⟨rfl, rfl⟩ | exact ⟨rfl, rfl, rfl⟩)) | (apply go_new1; (· rfl); · (simp (disch := omega) [go_sem, *, -List.reduceReplicate]; try first | rfl | exact ⟨rfl, rfl⟩ | exact ⟨rfl, rfl, rfl⟩)) | (apply go_conv; · (simp (disch := omega) [go_sem, *, -List.reduceReplicate]; try first | rfl | exact ⟨rfl, rfl⟩ | exact ⟨rfl, rfl, rfl⟩)) | ((first | (apply go_new; · rfl) | (apply go_pure; · rfl)); · (simp (disch := omega) [go_sem, *, -List.reduceReplicate]; simp [go_sem, *]; try first | rfl | exact ⟨rfl, rfl⟩)) | (apply go_condT; · (simp (disch := omega) [go_sem, *, -List.reduceReplicate]; try first | rfl | omega; done)) | (apply go_condF; · (simp (disch := omega) [go_sem, *, -List.reduceReplicate]; try first | rfl | omega; done)) | (obtain ⟨hcall, hcs⟩ := hcs; (first | refine go_callw (hcall _) (by simp (disch := omega) [go_sem, *, -List.reduceReplicate]; try rfl) (by simp (disch := omega) [go_sem, *, -List.reduceReplicate]; repeat' first | exact ALe.nil | exact AV.le_refl _ | exact AV.le_nils | exact AV.le_own _ _ | apply ALe.cons | apply AV.sub_agg) (by simp (disch := omega) [go_sem, *, -List.reduceReplicate]) ?_ | refine go_yieldw (hcall _) (by simp (disch := omega) [go_sem, *, -List.reduceReplicate]; try rfl) (by simp (disch := omega) [go_sem, *, -List.reduceReplicate]; repeat' first | exact ALe.nil | exact AV.le_refl _ | exact AV.le_nils | exact AV.le_own _ _ | apply ALe.cons | apply AV.sub_agg) (by simp (disch := omega) [go_sem, *, -List.reduceReplicate]) ?_); clear hcall))); refine go_resultI (by simp (disch := omega) [go_sem, *, -List.reduceReplicate]; rfl) (AV.sub_tup (by repeat' first | exact ALe.nil | exact AV.le_refl _ | apply ALe.cons | ((first | apply AV.le_slices | apply AV.le_nilsE | apply AV.le_clipE); first | rfl | (simp (disch := omega) [go_sem, *, -List.reduceReplicate]; done)))) (by simp (disch := omega) [go_sem]; try rfl) (fun id hid => by simp (disch := omega) only [upd_ne, wr_cons, wr_nil]; try exact hlow id hid)) : p := h
theorem WM {p : Prop} (h : p := by (repeat (first | apply go_nil | apply go_kreg | apply go_kreg0 | apply go_kreg1 | (apply go_kregT; · (first | (simp [addT, CF, CFy, Ind, DisjF]; done) | (simp only [addT, CF, CFy, Ind]; repeat' (first | exact trivial | apply And.intro | exact Or.inl (by decide +kernel) | (refine Or.inr ⟨?_, ?_⟩ <;> (simp; try omega)))))) | apply go_then | apply go_then_exit | apply go_then_ret | apply go_blk | apply go_blk_ret | apply go_blk_here | (apply go_blk_there; · rfl) | apply go_seq | (apply go_region; · (simp only [List.length_cons, List.length_nil, Nat.reduceAdd, Nat.add_assoc]; rfl)) | apply go_skip | apply go_block | apply go_scope | apply go_label | apply go_exit | apply go_ret | (apply go_mut; (· assumption); · (simp (disch := omega) [go_sem, *, -List.reduceReplicate]; first | exact ⟨rfl, rfl⟩ | (simp [go_sem, *]; exact ⟨rfl, rfl⟩))) | (apply go_mutP; (· assumption); · (simp (disch := omega) [go_sem, *, -List.reduceReplicate]; try first | rfl | exact ⟨rfl, rfl⟩ | exact ⟨rfl, rfl, rfl⟩)) | (apply go_guard_in; (· rfl); · (simp (disch := omega) [go_sem, *, -List.reduceReplicate]; try first | rfl | omega)) | (apply go_guard_off; (· rfl); · (simp (disch := omega) [go_sem, *, -List.reduceReplicate]; try first | rfl | omega)) | (apply go_guard_no; (· rfl); · (simp (disch := omega) [go_sem, *, -List.reduceReplicate]; try rfl)) | ((first | apply go_move | apply go_assign | apply go_load | apply go_store | apply go_append | apply go_copy | apply go_copy0 | apply go_clear0 | apply go_slice3 | apply go_indexA); · (simp (disch := omega) [go_sem, *, -List.reduceReplicate]; try first | rfl | exact ⟨rfl, rfl⟩ | exact ⟨rfl, rfl, rfl⟩)) | ((first | apply go_loadv | apply go_append0 | apply go_beyond); · (simp (disch := omega) [go_sem, *, -List.reduceReplicate]; try first | rfl | exact ⟨rfl, rfl⟩ | exact ⟨rfl, rfl, rfl⟩)) | (apply go_appself; · (simp (disch := omega) [go_sem, *, -List.reduceReplicate]; try first | rfl | exact ⟨rfl, rfl⟩ | exact ⟨rfl, rfl, rfl⟩)) | ((first | (apply go_appendz; · rfl) | (apply go_new; · rfl) | (apply go_pure; · rfl)); · (simp (disch := omega) [go_sem, *, -List.reduceReplicate]; try first | rfl | exact ⟨rfl, rfl⟩ | exact ⟨rfl, rfl, rfl⟩)) | ((apply go_glob; · assumption); · (simp (disch := omega) [go_sem, *, -List.reduceReplicate]; try first | rfl | exact ⟨rfl, rfl⟩ | exact ⟨rfl, rfl, rfl⟩)) | (apply go_read1; (· rfl); · (simp (disch := omega) [go_sem, *, -List.reduceReplicate]; try first | rfl | exact ⟨rfl, rfl⟩ | exact ⟨rfl, rfl, rfl⟩)) | (apply go_rw1; (· rfl); · (simp (disch := omega) [go_sem, *, -List.reduceReplicate]; try first | rfl | exact ⟨rfl, rfl⟩ | exact ⟨rfl, rfl, rfl⟩)) | (apply go_new1; (· rfl); · (simp (disch := omega) [go_sem, *, -List.reduceReplicate]; try first | rfl | exact ⟨rfl, rfl⟩ | exact ⟨rfl, rfl, rfl⟩)) | (apply go_conv; · (simp (disch := omega) [go_sem, *, -List.reduceReplicate]; try first | rfl | exact ⟨rfl, rfl⟩ | exact ⟨rfl, rfl, rfl⟩)) | ((first | (apply go_new; · rfl) | (apply go_pure; · rfl)); · (simp (disch := omega) [go_sem, *, -List.reduceReplicate]; simp [go_sem, *]; try first | rfl | exact ⟨rfl, rfl⟩)) | (apply go_condT; · (simp (disch := omega) [go_sem, *, -List.reduceReplicate]; try first | rfl | omega; done)) | (apply go_condF; · (simp (disch := omega) [go_sem, *, -List.reduceReplicate]; try first | rfl | omega; done)) | (obtain ⟨hcall, hcs⟩ := hcs; (first | refine go_callw (hcall _) (by simp (disch := omega) [go_sem, *, -List.reduceReplicate]; try rfl) (by simp (disch := omega) [go_sem, *, -List.reduceReplicate]; repeat' first | exact ALe.nil | exact AV.le_refl _ | exact AV.le_nils | exact AV.le_own _ _ | apply ALe.cons | apply AV.sub_agg) (by simp (disch := omega) [go_sem, *, -List.reduceReplicate]) ?_ | refine go_yieldw (hcall _) (by simp (disch := omega) [go_sem, *, -List.reduceReplicate]; try rfl) (by simp (disch := omega) [go_sem, *, -List.reduceReplicate]; repeat' first | exact ALe.nil | exact AV.le_refl _ | exact AV.le_nils | exact AV.le_own _ _ | apply ALe.cons | apply AV.sub_agg) (by simp (disch := omega) [go_sem, *, -List.reduceReplicate]) ?_); clear hcall))); refine go_resultI (by simp (disch := omega) [go_sem, *, -List.reduceReplicate]; rfl) (by first | exact AV.le_refl _ | ((first | apply AV.le_slices | apply AV.le_nilsE | apply AV.le_clipE); first | rfl | (simp (disch := omega) [go_sem, *, -List.reduceReplicate]; done))) (by simp (disch := omega) [go_sem]; try rfl) (fun id hid => by simp (disch := omega) only [upd_ne, wr_cons, wr_nil]; try exact hlow id hid)) : p := h
theorem WA {p : Prop} (h : p := by (repeat (first | apply go_nil | apply go_kreg | apply go_kreg0 | apply go_kreg1 | (apply go_kregT; · (first | (simp [addT, CF, CFy, Ind, DisjF]; done) | (simp only [addT, CF, CFy, Ind]; repeat' (first | exact trivial | apply And.intro | exact Or.inl (by decide +kernel) | (refine Or.inr ⟨?_, ?_⟩ <;> (simp; try omega)))))) | apply go_then | apply go_then_exit | apply go_then_ret | apply go_blk | apply go_blk_ret | apply go_blk_here | (apply go_blk_there; · rfl) | apply go_seq | (apply go_region; · (simp only [List.length_cons, List.length_nil, Nat.reduceAdd, Nat.add_assoc]; rfl)) | apply go_skip | apply go_block | apply go_scope | apply go_label | apply go_exit | apply go_ret | (apply go_mut; (· assumption); · (simp (disch := omega) [go_sem, *, -List.reduceReplicate]; first | exact ⟨rfl, rfl⟩ | (simp [go_sem, *]; exact ⟨rfl, rfl⟩))) | (apply go_mutP; (· assumption); · (simp (disch := omega) [go_sem, *, -List.reduceReplicate]; try first | rfl | exact ⟨rfl, rfl⟩ | exact ⟨rfl, rfl, rfl⟩)) | (apply go_guard_in; (· rfl); · (simp (disch := omega) [go_sem, *, -List.reduceReplicate]; try first | rfl | omega)) | (apply go_guard_off; (· rfl); · (simp (disch := omega) [go_sem, *, -List.reduceReplicate]; try first | rfl | omega)) | (apply go_guard_no; (· rfl); · (simp (disch := omega) [go_sem, *, -List.reduceReplicate]; try rfl)) | ((first | apply go_move | apply go_assign | apply go_load | apply go_store | apply go_append | apply go_copy | apply go_copy0 | apply go_clear0 | apply go_slice3 | apply go_indexA); · (simp (disch := omega) [go_sem, *, -List.reduceReplicate]; try first | rfl | exact ⟨rfl, rfl⟩ | exact ⟨rfl, rfl, rfl⟩)) | ((first | apply go_loadv | apply go_append0 | apply go_beyond); · (simp (disch := omega) [go_sem, *, -List.reduceReplicate]; try first | rfl | exact ⟨rfl, rfl⟩ | exact ⟨rfl, rfl, rfl⟩)) | (apply go_appself; · (simp (disch := omega) [go_sem, *, -List.reduceReplicate]; try first | rfl | exact ⟨rfl, rfl⟩ | exact ⟨rfl, rfl, rfl⟩)) | ((first | (apply go_appendz; · rfl) | (apply go_new; · rfl) | (apply go_pure; · rfl)); · (simp (disch := omega) [go_sem, *, -List.reduceReplicate]; try first | rfl | exact ⟨rfl, rfl⟩ | exact ⟨rfl, rfl, rfl⟩)) | ((apply go_glob; · assumption); · (simp (disch := omega) [go_sem, *, -List.reduceReplicate]; try first | rfl | exact ⟨rfl, rfl⟩ | exact ⟨rfl, rfl, rfl⟩)) | (apply go_read1; (· rfl); · (simp (disch := omega) [go_sem, *, -List.reduceReplicate]; try first | rfl | exact ⟨rfl, rfl⟩ | exact ⟨rfl, rfl, rfl⟩)) | (apply go_rw1; (· rfl); · (simp (disch := omega) [go_sem, *, -List.reduceReplicate]; try first | rfl | exact ⟨rfl, rfl⟩ | exact ⟨rfl, rfl, rfl⟩)) | (apply go_new1; (· rfl); · (simp (disch := omega) [go_sem, *, -List.reduceReplicate]; try first | rfl | exact ⟨rfl, rfl⟩ | exact ⟨rfl, rfl, rfl⟩)) | (apply go_conv; · (simp (disch := omega) [go_sem, *, -List.reduceReplicate]; try first | rfl | exact ⟨rfl, rfl⟩ | exact ⟨rfl, rfl, rfl⟩)) | ((first | (apply go_new; · rfl) | (apply go_pure; · rfl)); · (simp (disch := omega) [go_sem, *, -List.reduceReplicate]; simp [go_sem, *]; try first | rfl | exact ⟨rfl, rfl⟩)) | (apply go_condT; · (simp (disch := omega) [go_sem, *, -List.reduceReplicate]; try first | rfl | omega; done)) | (apply go_condF; · (simp (disch := omega) [go_sem, *, -List.reduceReplicate]; try first | rfl | omega; done)) | (obtain ⟨hcall, hcs⟩ := hcs; (first | refine go_callw (hcall _) (by simp (disch := omega) [go_sem, *, -List.reduceReplicate]; try rfl) (by simp (disch := omega) [go_sem, *, -List.reduceReplicate]; repeat' first | exact ALe.nil | exact AV.le_refl _ | exact AV.le_nils | exact AV.le_own _ _ | apply ALe.cons | apply AV.sub_agg) (by simp (disch := omega) [go_sem, *, -List.reduceReplicate]) ?_ | refine go_yieldw (hcall _) (by simp (disch := omega) [go_sem, *, -List.reduceReplicate]; try rfl) (by simp (disch := omega) [go_sem, *, -List.reduceReplicate]; repeat' first | exact ALe.nil | exact AV.le_refl _ | exact AV.le_nils | exact AV.le_own _ _ | apply ALe.cons | apply AV.sub_agg) (by simp (disch := omega) [go_sem, *, -List.reduceReplicate]) ?_); clear hcall))); refine go_resultI (by simp (disch := omega) [go_sem, *, -List.reduceReplicate]; rfl) (AV.sub_agg (by repeat' first | exact ALe.nil | exact AV.le_refl _ | apply ALe.cons | ((first | apply AV.le_slices | apply AV.le_nilsE | apply AV.le_clipE); first | rfl | (simp (disch := omega) [go_sem, *, -List.reduceReplicate]; done)))) (by simp (disch := omega) [go_sem, -List.reduceReplicate]; try rfl) (fun id hid => by simp (disch := omega) only [upd_ne, wr_cons, wr_nil]; try exact hlow id hid)) : p := h
theorem WT {p : Prop} (h : p := by (repeat (first | apply go_nil | apply go_kreg | apply go_kreg0 | apply go_kreg1 | (apply go_kregT; · (first | (simp [addT, CF, CFy, Ind, DisjF]; done) | (simp only [addT, CF, CFy, Ind]; repeat' (first | exact trivial | apply And.intro | exact Or.inl (by decide +kernel) | (refine Or.inr ⟨?_, ?_⟩ <;> (simp; try omega)))))) | apply go_then | apply go_then_exit | apply go_then_ret | apply go_blk | apply go_blk_ret | apply go_blk_here | (apply go_blk_there; · rfl) | apply go_seq | (apply go_region; · (simp only [List.length_cons, List.length_nil, Nat.reduceAdd, Nat.add_assoc]; rfl)) | apply go_skip | apply go_block | apply go_scope | apply go_label | apply go_exit | apply go_ret | (apply go_mut; (· assumption); · (simp (disch := omega) [go_sem, *, -List.reduceReplicate]; first | exact ⟨rfl, rfl⟩ | (simp [go_sem, *]; exact ⟨rfl, rfl⟩))) | (apply go_mutP; (· assumption); · (simp (disch := omega) [go_sem, *, -List.reduceReplicate]; try first | rfl | exact ⟨rfl, rfl⟩ | exact ⟨rfl, rfl, rfl⟩)) | (apply go_guard_in; (· rfl); · (simp (disch := omega) [go_sem, *, -List.reduceReplicate]; try first | rfl | omega)) | (apply go_guard_off; (· rfl); · (simp (disch := omega) [go_sem, *, -List.reduceReplicate]; try first | rfl | omega)) | (apply go_guard_no; (· rfl); · (simp (disch := omega) [go_sem, *, -List.reduceReplicate]; try rfl)) | ((first | apply go_move | apply go_assign | apply go_load | apply go_store | apply go_append | apply go_copy | apply go_copy0 | apply go_clear0 | apply go_slice3 | apply go_indexA); · (simp (disch := omega) [go_sem, *, -List.reduceReplicate]; try first | rfl | exact ⟨rfl, rfl⟩ | exact ⟨rfl, rfl, rfl⟩)) | ((first | apply go_loadv | apply go_append0 | apply go_beyond); · (simp (disch := omega) [go_sem, *, -List.reduceReplicate]; try first | rfl | exact ⟨rfl, rfl⟩ | exact ⟨rfl, rfl, rfl⟩)) | (apply go_appself; · (simp (disch := omega) [go_sem, *, -List.reduceReplicate]; try first | rfl | exact ⟨rfl, rfl⟩ | exact ⟨rfl, rfl, rfl⟩)) | ((first | (apply go_appendz; · rfl) | (apply go_new; · rfl) | (apply go_pure; · rfl)); · (simp (disch := omega) [go_sem, *, -List.reduceReplicate]; try first | rfl | exact ⟨rfl, rfl⟩ | exact ⟨rfl, rfl, rfl⟩)) | ((apply go_glob; · assumption); · (simp (disch := omega) [go_sem, *, -List.reduceReplicate]; try first | rfl | exact ⟨rfl, rfl⟩ | exact ⟨rfl, rfl, rfl⟩)) | (apply go_read1; (· rfl); · (simp (disch := omega) [go_sem, *, -List.reduceReplicate]; try first | rfl | exact ⟨rfl, rfl⟩ | exact ⟨rfl, rfl, rfl⟩)) | (apply go_rw1; (· rfl); · (simp (disch := omega) [go_sem, *, -List.reduceReplicate]; try first | rfl | exact ⟨rfl, rfl⟩ | exact ⟨rfl, rfl, rfl⟩)) | (apply go_new1; (· rfl); · (simp (disch := omega) [go_sem, *, -List.reduceReplicate]; try first | rfl | exact ⟨rfl, rfl⟩ | exact ⟨rfl, rfl, rfl⟩)) | (apply go_conv; · (simp (disch := omega) [go_sem, *, -List.reduceReplicate]; try first | rfl | exact ⟨rfl, rfl⟩ | exact ⟨rfl, rfl, rfl⟩)) | ((first | (apply go_new; · rfl) | (apply go_pure; · rfl)); · (simp (disch := omega) [go_sem, *, -List.reduceReplicate]; simp [go_sem, *]; try first | rfl | exact ⟨rfl, rfl⟩)) | (apply go_condT; · (simp (disch := omega) [go_sem, *, -List.reduceReplicate]; try first | rfl | omega; done)) | (apply go_condF; · (simp (disch := omega) [go_sem, *, -List.reduceReplicate]; try first | rfl | omega; done)) | (obtain ⟨hcall, hcs⟩ := hcs; (first | refine go_callw (hcall _) (by simp (disch := omega) [go_sem, *, -List.reduceReplicate]; try rfl) (by simp (disch := omega) [go_sem, *, -List.reduceReplicate]; repeat' first | exact ALe.nil | exact AV.le_refl _ | exact AV.le_nils | exact AV.le_own _ _ | apply ALe.cons | apply AV.sub_agg) (by simp (disch := omega) [go_sem, *, -List.reduceReplicate]) ?_ | refine go_yieldw (hcall _) (by simp (disch := omega) [go_sem, *, -List.reduceReplicate]; try rfl) (by simp (disch := omega) [go_sem, *, -List.reduceReplicate]; repeat' first | exact ALe.nil | exact AV.le_refl _ | exact AV.le_nils | exact AV.le_own _ _ | apply ALe.cons | apply AV.sub_agg) (by simp (disch := omega) [go_sem, *, -List.reduceReplicate]) ?_); clear hcall))); refine go_resultI (by simp (disch := omega) [go_sem, *, -List.reduceReplicate]; rfl) (by exact AV.sub_tup (.cons (AV.sub_agg (by repeat' first | exact ALe.nil | exact AV.le_refl _ | apply ALe.cons | ((first | apply AV.le_slices | apply AV.le_nilsE | apply AV.le_clipE); first | rfl | (simp (disch := omega) [go_sem, *, -List.reduceReplicate]; done)))) (by repeat' first | exact ALe.nil | exact AV.le_refl _ | apply ALe.cons | ((first | apply AV.le_slices | apply AV.le_nilsE | apply AV.le_clipE); first | rfl | (simp (disch := omega) [go_sem, *, -List.reduceReplicate]; done))))) (by simp (disch := omega) [go_sem]; try rfl) (fun id hid => by simp (disch := omega) only [upd_ne, wr_cons, wr_nil]; try exact hlow id hid)) : p := h
/-- An equation on what a slot or an entity holds. -/
theorem WE {p : Prop} (h : p := by simp (disch := omega) [go_sem, *, -List.reduceReplicate]; try rfl) : p := h
theorem WF {p : Prop} (h : p := by first | (simp (disch := omega) [go_sem, *, -List.reduceReplicate]; done) | (simp (disch := omega) [go_sem, *, -List.reduceReplicate]; first | done | rfl | exact ⟨rfl, rfl⟩ | exact ⟨rfl, rfl, rfl⟩ | exact ⟨rfl, rfl, rfl, rfl⟩ | omega) | omega | rfl | assumption | (simp (disch := omega) [go_sem, *, -List.reduceReplicate])) : p := h
theorem WC {p : Prop} (h : p := by (try simp only); first | assumption | omega | (simp only [List.append_assoc, List.cons_append, List.nil_append, List.singleton_append]; assumption) | (simp; done) | (simp; omega) | (simp; assumption) | (simp only [List.nil_append, *]; done) | (simp (disch := omega) [go_sem, *, -List.reduceReplicate])) : p := h
theorem WN {p : Prop} (h : p := by first | omega | (simp only; omega)) : p := h
theorem WS {p : Prop} (h : p := by (try simp only); (repeat (first | (with_reducible refine SKeep.upd rfl ?_) | assumption | (with_reducible refine SKeep.step (by assumption) rfl ?_)))) : p := h
theorem WG {p : Prop} (h : p := by (try simp only [wr_cons, wr_nil]); (repeat (first | (with_reducible refine EKeep.updN (by first | omega | (simp only; omega)) ?_) | (with_reducible refine EKeep.updL (by simp) ?_) | assumption | (with_reducible refine EKeep.step (by assumption) (by first | omega | (simp only; omega)) (by simp; try omega) ?_) | (simp only [wr_cons, wr_nil])))) : p := h
theorem WQ {p : Prop} (h : p := by simp; try omega) : p := h
theorem WH {p : Prop} (h : p := by simp (disch := omega) only [upd_ne, wr_cons, wr_nil]; try first | exact hlow id hid hdd | exact hlow id hid) : p := h
end Go.Ab

/- Closed facts on the types of this seat's program, each by the kernel (written by facts.py off the given translation). -/
namespace Go.Proofs.Ytmhehlfocfhpkaa
open Go.Ab

theorem mixed : Try.prog.follows .mixedOrders = true := by kernel_rfl
@[go_sem] theorem ty1 : tyInfo Try.prog 1 = some (false, 1) := by kernel_rfl
@[go_sem] theorem by1 : byteTy Try.prog 1 = false := by kernel_rfl
@[go_sem] theorem cc1 : Program.concrete Try.prog 1 = true := by kernel_rfl
@[go_sem] theorem st1 : strTy Try.prog 1 = false := by kernel_rfl
@[go_sem] theorem nk1 : nilKind Try.prog 1 = 3 := by kernel_rfl
@[go_sem] theorem zt1 : ztree Try.prog 1 = some (.lit .nilFunc) := by kernel_rfl
@[go_sem] theorem ty2 : tyInfo Try.prog 2 = some (false, 1) := by kernel_rfl
@[go_sem] theorem it2 : intTy Try.prog 2 = some .i64 := by kernel_rfl
@[go_sem] theorem by2 : byteTy Try.prog 2 = false := by kernel_rfl
@[go_sem] theorem cc2 : Program.concrete Try.prog 2 = true := by kernel_rfl
@[go_sem] theorem st2 : strTy Try.prog 2 = false := by kernel_rfl
@[go_sem] theorem zt2 : ztree Try.prog 2 = some (.lit (.int .i64 0)) := by kernel_rfl
@[go_sem] theorem ty3 : tyInfo Try.prog 3 = some (false, 1) := by kernel_rfl
@[go_sem] theorem it3 : intTy Try.prog 3 = some .i64 := by kernel_rfl
@[go_sem] theorem by3 : byteTy Try.prog 3 = false := by kernel_rfl
@[go_sem] theorem cc3 : Program.concrete Try.prog 3 = true := by kernel_rfl
@[go_sem] theorem st3 : strTy Try.prog 3 = false := by kernel_rfl
@[go_sem] theorem zt3 : ztree Try.prog 3 = some (.lit (.int .i64 0)) := by kernel_rfl
@[go_sem] theorem ty4 : tyInfo Try.prog 4 = some (false, 1) := by kernel_rfl
@[go_sem] theorem by4 : byteTy Try.prog 4 = false := by kernel_rfl
@[go_sem] theorem cc4 : Program.concrete Try.prog 4 = true := by kernel_rfl
@[go_sem] theorem st4 : strTy Try.prog 4 = false := by kernel_rfl
@[go_sem] theorem bt4 : boolTy Try.prog 4 = true := by kernel_rfl
@[go_sem] theorem zt4 : ztree Try.prog 4 = some (.lit (.bool false)) := by kernel_rfl
@[go_sem] theorem ty5 : tyInfo Try.prog 5 = some (false, 1) := by kernel_rfl
@[go_sem] theorem it5 : intTy Try.prog 5 = some .u8 := by kernel_rfl
@[go_sem] theorem by5 : byteTy Try.prog 5 = true := by kernel_rfl
@[go_sem] theorem sz1_5 : sizeIs Try.prog 5 1 = true := by kernel_rfl
@[go_sem] theorem cc5 : Program.concrete Try.prog 5 = true := by kernel_rfl
@[go_sem] theorem st5 : strTy Try.prog 5 = false := by kernel_rfl
@[go_sem] theorem zt5 : ztree Try.prog 5 = some (.lit (.int .u8 0)) := by kernel_rfl
@[go_sem] theorem ty9 : tyInfo Try.prog 9 = some (false, 1) := by kernel_rfl
@[go_sem] theorem by9 : byteTy Try.prog 9 = false := by kernel_rfl
@[go_sem] theorem cc9 : Program.concrete Try.prog 9 = true := by kernel_rfl
@[go_sem] theorem st9 : strTy Try.prog 9 = true := by kernel_rfl
@[go_sem] theorem zt9 : ztree Try.prog 9 = some (.lit (.string ByteArray.empty)) := by kernel_rfl
@[go_sem] theorem ty12 : tyInfo Try.prog 12 = some (false, 1) := by kernel_rfl
@[go_sem] theorem it12 : intTy Try.prog 12 = some .u64 := by kernel_rfl
@[go_sem] theorem by12 : byteTy Try.prog 12 = false := by kernel_rfl
@[go_sem] theorem cc12 : Program.concrete Try.prog 12 = true := by kernel_rfl
@[go_sem] theorem st12 : strTy Try.prog 12 = false := by kernel_rfl
@[go_sem] theorem zt12 : ztree Try.prog 12 = some (.lit (.int .u64 0)) := by kernel_rfl
@[go_sem] theorem ty13 : tyInfo Try.prog 13 = some (true, 2) := by kernel_rfl
@[go_sem] theorem by13 : byteTy Try.prog 13 = false := by kernel_rfl
@[go_sem] theorem cc13 : Program.concrete Try.prog 13 = true := by kernel_rfl
@[go_sem] theorem st13 : strTy Try.prog 13 = false := by kernel_rfl
@[go_sem] theorem zt13 : ztree Try.prog 13 = some (.agg [(.lit (.string ByteArray.empty)), (.lit (.int .u64 0))]) := by kernel_rfl
@[go_sem] theorem sp13 : splaces Try.prog 13 = some [(0, 1), (1, 1)] := by kernel_rfl
@[go_sem] theorem fo13_0 : fieldOff Try.prog 13 0 = some 0 := by kernel_rfl
@[go_sem] theorem fo13_1 : fieldOff Try.prog 13 1 = some 1 := by kernel_rfl
@[go_sem] theorem ty20 : tyInfo Try.prog 20 = some (false, 1) := by kernel_rfl
@[go_sem] theorem by20 : byteTy Try.prog 20 = false := by kernel_rfl
@[go_sem] theorem st20 : strTy Try.prog 20 = false := by kernel_rfl
@[go_sem] theorem zt20 : ztree Try.prog 20 = some (.lit .nilIface) := by kernel_rfl
@[go_sem] theorem ty21 : tyInfo Try.prog 21 = some (false, 1) := by kernel_rfl
@[go_sem] theorem it21 : intTy Try.prog 21 = some .i32 := by kernel_rfl
@[go_sem] theorem by21 : byteTy Try.prog 21 = false := by kernel_rfl
@[go_sem] theorem cc21 : Program.concrete Try.prog 21 = true := by kernel_rfl
@[go_sem] theorem st21 : strTy Try.prog 21 = false := by kernel_rfl
@[go_sem] theorem zt21 : ztree Try.prog 21 = some (.lit (.int .i32 0)) := by kernel_rfl
@[go_sem] theorem ty22 : tyInfo Try.prog 22 = some (false, 1) := by kernel_rfl
@[go_sem] theorem by22 : byteTy Try.prog 22 = false := by kernel_rfl
@[go_sem] theorem cc22 : Program.concrete Try.prog 22 = true := by kernel_rfl
@[go_sem] theorem st22 : strTy Try.prog 22 = false := by kernel_rfl
@[go_sem] theorem sl22 : sliceTy Try.prog 22 = some 5 := by kernel_rfl
@[go_sem] theorem si22 : sliceInfo Try.prog 22 = some (5, 1, 1, (.lit (.int .u8 0))) := by kernel_rfl
@[go_sem] theorem nk22 : nilKind Try.prog 22 = 1 := by kernel_rfl
@[go_sem] theorem zt22 : ztree Try.prog 22 = some .nils := by kernel_rfl
@[go_sem] theorem ty23 : tyInfo Try.prog 23 = some (false, 1) := by kernel_rfl
@[go_sem] theorem it23 : intTy Try.prog 23 = some .u16 := by kernel_rfl
@[go_sem] theorem by23 : byteTy Try.prog 23 = false := by kernel_rfl
@[go_sem] theorem cc23 : Program.concrete Try.prog 23 = true := by kernel_rfl
@[go_sem] theorem st23 : strTy Try.prog 23 = false := by kernel_rfl
@[go_sem] theorem zt23 : ztree Try.prog 23 = some (.lit (.int .u16 0)) := by kernel_rfl
@[go_sem] theorem ty24 : tyInfo Try.prog 24 = some (false, 1) := by kernel_rfl
@[go_sem] theorem it24 : intTy Try.prog 24 = some .i64 := by kernel_rfl
@[go_sem] theorem by24 : byteTy Try.prog 24 = false := by kernel_rfl
@[go_sem] theorem cc24 : Program.concrete Try.prog 24 = true := by kernel_rfl
@[go_sem] theorem st24 : strTy Try.prog 24 = false := by kernel_rfl
@[go_sem] theorem zt24 : ztree Try.prog 24 = some (.lit (.int .i64 0)) := by kernel_rfl
@[go_sem] theorem ty26 : tyInfo Try.prog 26 = some (false, 1) := by kernel_rfl
@[go_sem] theorem by26 : byteTy Try.prog 26 = false := by kernel_rfl
@[go_sem] theorem cc26 : Program.concrete Try.prog 26 = true := by kernel_rfl
@[go_sem] theorem st26 : strTy Try.prog 26 = false := by kernel_rfl
@[go_sem] theorem nk26 : nilKind Try.prog 26 = 3 := by kernel_rfl
@[go_sem] theorem zt26 : ztree Try.prog 26 = some (.lit .nilFunc) := by kernel_rfl
@[go_sem] theorem ty27 : tyInfo Try.prog 27 = some (false, 1) := by kernel_rfl
@[go_sem] theorem by27 : byteTy Try.prog 27 = false := by kernel_rfl
@[go_sem] theorem cc27 : Program.concrete Try.prog 27 = true := by kernel_rfl
@[go_sem] theorem st27 : strTy Try.prog 27 = false := by kernel_rfl
@[go_sem] theorem nk27 : nilKind Try.prog 27 = 3 := by kernel_rfl
@[go_sem] theorem zt27 : ztree Try.prog 27 = some (.lit .nilFunc) := by kernel_rfl
@[go_sem] theorem ty28 : tyInfo Try.prog 28 = some (false, 1) := by kernel_rfl
@[go_sem] theorem by28 : byteTy Try.prog 28 = false := by kernel_rfl
@[go_sem] theorem cc28 : Program.concrete Try.prog 28 = true := by kernel_rfl
@[go_sem] theorem st28 : strTy Try.prog 28 = false := by kernel_rfl
@[go_sem] theorem nk28 : nilKind Try.prog 28 = 3 := by kernel_rfl
@[go_sem] theorem zt28 : ztree Try.prog 28 = some (.lit .nilFunc) := by kernel_rfl
@[go_sem] theorem ty29 : tyInfo Try.prog 29 = some (false, 1) := by kernel_rfl
@[go_sem] theorem by29 : byteTy Try.prog 29 = false := by kernel_rfl
@[go_sem] theorem cc29 : Program.concrete Try.prog 29 = true := by kernel_rfl
@[go_sem] theorem st29 : strTy Try.prog 29 = false := by kernel_rfl
@[go_sem] theorem nk29 : nilKind Try.prog 29 = 3 := by kernel_rfl
@[go_sem] theorem zt29 : ztree Try.prog 29 = some (.lit .nilFunc) := by kernel_rfl
@[go_sem] theorem ty30 : tyInfo Try.prog 30 = some (false, 1) := by kernel_rfl
@[go_sem] theorem by30 : byteTy Try.prog 30 = false := by kernel_rfl
@[go_sem] theorem cc30 : Program.concrete Try.prog 30 = true := by kernel_rfl
@[go_sem] theorem st30 : strTy Try.prog 30 = false := by kernel_rfl
@[go_sem] theorem sl30 : sliceTy Try.prog 30 = some 3 := by kernel_rfl
@[go_sem] theorem si30 : sliceInfo Try.prog 30 = some (3, 1, 8, (.lit (.int .i64 0))) := by kernel_rfl
@[go_sem] theorem nk30 : nilKind Try.prog 30 = 1 := by kernel_rfl
@[go_sem] theorem zt30 : ztree Try.prog 30 = some .nils := by kernel_rfl
@[go_sem] theorem ty31 : tyInfo Try.prog 31 = some (false, 1) := by kernel_rfl
@[go_sem] theorem by31 : byteTy Try.prog 31 = false := by kernel_rfl
@[go_sem] theorem cc31 : Program.concrete Try.prog 31 = true := by kernel_rfl
@[go_sem] theorem st31 : strTy Try.prog 31 = false := by kernel_rfl
@[go_sem] theorem nk31 : nilKind Try.prog 31 = 3 := by kernel_rfl
@[go_sem] theorem zt31 : ztree Try.prog 31 = some (.lit .nilFunc) := by kernel_rfl
@[go_sem] theorem ty32 : tyInfo Try.prog 32 = some (false, 1) := by kernel_rfl
@[go_sem] theorem by32 : byteTy Try.prog 32 = false := by kernel_rfl
@[go_sem] theorem cc32 : Program.concrete Try.prog 32 = true := by kernel_rfl
@[go_sem] theorem st32 : strTy Try.prog 32 = false := by kernel_rfl
@[go_sem] theorem nk32 : nilKind Try.prog 32 = 2 := by kernel_rfl
@[go_sem] theorem zt32 : ztree Try.prog 32 = some (.lit (.pointer none)) := by kernel_rfl
@[go_sem] theorem ty33 : tyInfo Try.prog 33 = some (false, 1) := by kernel_rfl
@[go_sem] theorem by33 : byteTy Try.prog 33 = false := by kernel_rfl
@[go_sem] theorem cc33 : Program.concrete Try.prog 33 = true := by kernel_rfl
@[go_sem] theorem st33 : strTy Try.prog 33 = false := by kernel_rfl
@[go_sem] theorem nk33 : nilKind Try.prog 33 = 3 := by kernel_rfl
@[go_sem] theorem zt33 : ztree Try.prog 33 = some (.lit .nilFunc) := by kernel_rfl
@[go_sem] theorem ty34 : tyInfo Try.prog 34 = some (false, 1) := by kernel_rfl
@[go_sem] theorem by34 : byteTy Try.prog 34 = false := by kernel_rfl
@[go_sem] theorem cc34 : Program.concrete Try.prog 34 = true := by kernel_rfl
@[go_sem] theorem st34 : strTy Try.prog 34 = false := by kernel_rfl
@[go_sem] theorem nk34 : nilKind Try.prog 34 = 3 := by kernel_rfl
@[go_sem] theorem zt34 : ztree Try.prog 34 = some (.lit .nilFunc) := by kernel_rfl
@[go_sem] theorem ty35 : tyInfo Try.prog 35 = some (false, 1) := by kernel_rfl
@[go_sem] theorem by35 : byteTy Try.prog 35 = false := by kernel_rfl
@[go_sem] theorem cc35 : Program.concrete Try.prog 35 = true := by kernel_rfl
@[go_sem] theorem st35 : strTy Try.prog 35 = false := by kernel_rfl
@[go_sem] theorem nk35 : nilKind Try.prog 35 = 3 := by kernel_rfl
@[go_sem] theorem zt35 : ztree Try.prog 35 = some (.lit .nilFunc) := by kernel_rfl
@[go_sem] theorem ty36 : tyInfo Try.prog 36 = some (false, 1) := by kernel_rfl
@[go_sem] theorem by36 : byteTy Try.prog 36 = false := by kernel_rfl
@[go_sem] theorem cc36 : Program.concrete Try.prog 36 = true := by kernel_rfl
@[go_sem] theorem st36 : strTy Try.prog 36 = false := by kernel_rfl
@[go_sem] theorem nk36 : nilKind Try.prog 36 = 3 := by kernel_rfl
@[go_sem] theorem zt36 : ztree Try.prog 36 = some (.lit .nilFunc) := by kernel_rfl
@[go_sem] theorem ty37 : tyInfo Try.prog 37 = some (false, 1) := by kernel_rfl
@[go_sem] theorem by37 : byteTy Try.prog 37 = false := by kernel_rfl
@[go_sem] theorem cc37 : Program.concrete Try.prog 37 = true := by kernel_rfl
@[go_sem] theorem st37 : strTy Try.prog 37 = false := by kernel_rfl
@[go_sem] theorem nk37 : nilKind Try.prog 37 = 3 := by kernel_rfl
@[go_sem] theorem zt37 : ztree Try.prog 37 = some (.lit .nilFunc) := by kernel_rfl
@[go_sem] theorem ty39 : tyInfo Try.prog 39 = some (false, 1) := by kernel_rfl
@[go_sem] theorem by39 : byteTy Try.prog 39 = false := by kernel_rfl
@[go_sem] theorem cc39 : Program.concrete Try.prog 39 = true := by kernel_rfl
@[go_sem] theorem st39 : strTy Try.prog 39 = false := by kernel_rfl
@[go_sem] theorem nk39 : nilKind Try.prog 39 = 3 := by kernel_rfl
@[go_sem] theorem zt39 : ztree Try.prog 39 = some (.lit .nilFunc) := by kernel_rfl
@[go_sem] theorem ty40 : tyInfo Try.prog 40 = some (false, 1) := by kernel_rfl
@[go_sem] theorem by40 : byteTy Try.prog 40 = false := by kernel_rfl
@[go_sem] theorem cc40 : Program.concrete Try.prog 40 = true := by kernel_rfl
@[go_sem] theorem st40 : strTy Try.prog 40 = false := by kernel_rfl
@[go_sem] theorem sl40 : sliceTy Try.prog 40 = some 22 := by kernel_rfl
@[go_sem] theorem si40 : sliceInfo Try.prog 40 = some (22, 1, 24, .nils) := by kernel_rfl
@[go_sem] theorem nk40 : nilKind Try.prog 40 = 1 := by kernel_rfl
@[go_sem] theorem zt40 : ztree Try.prog 40 = some .nils := by kernel_rfl
@[go_sem] theorem ty41 : tyInfo Try.prog 41 = some (false, 1) := by kernel_rfl
@[go_sem] theorem by41 : byteTy Try.prog 41 = false := by kernel_rfl
@[go_sem] theorem cc41 : Program.concrete Try.prog 41 = true := by kernel_rfl
@[go_sem] theorem st41 : strTy Try.prog 41 = false := by kernel_rfl
@[go_sem] theorem nk41 : nilKind Try.prog 41 = 3 := by kernel_rfl
@[go_sem] theorem zt41 : ztree Try.prog 41 = some (.lit .nilFunc) := by kernel_rfl
@[go_sem] theorem ty42 : tyInfo Try.prog 42 = some (false, 1) := by kernel_rfl
@[go_sem] theorem by42 : byteTy Try.prog 42 = false := by kernel_rfl
@[go_sem] theorem cc42 : Program.concrete Try.prog 42 = true := by kernel_rfl
@[go_sem] theorem st42 : strTy Try.prog 42 = false := by kernel_rfl
@[go_sem] theorem nk42 : nilKind Try.prog 42 = 3 := by kernel_rfl
@[go_sem] theorem zt42 : ztree Try.prog 42 = some (.lit .nilFunc) := by kernel_rfl
@[go_sem] theorem ty43 : tyInfo Try.prog 43 = some (false, 1) := by kernel_rfl
@[go_sem] theorem by43 : byteTy Try.prog 43 = false := by kernel_rfl
@[go_sem] theorem cc43 : Program.concrete Try.prog 43 = true := by kernel_rfl
@[go_sem] theorem st43 : strTy Try.prog 43 = false := by kernel_rfl
@[go_sem] theorem nk43 : nilKind Try.prog 43 = 3 := by kernel_rfl
@[go_sem] theorem zt43 : ztree Try.prog 43 = some (.lit .nilFunc) := by kernel_rfl
@[go_sem] theorem ty44 : tyInfo Try.prog 44 = some (false, 1) := by kernel_rfl
@[go_sem] theorem by44 : byteTy Try.prog 44 = false := by kernel_rfl
@[go_sem] theorem cc44 : Program.concrete Try.prog 44 = true := by kernel_rfl
@[go_sem] theorem st44 : strTy Try.prog 44 = false := by kernel_rfl
@[go_sem] theorem nk44 : nilKind Try.prog 44 = 3 := by kernel_rfl
@[go_sem] theorem zt44 : ztree Try.prog 44 = some (.lit .nilFunc) := by kernel_rfl
@[go_sem] theorem ty45 : tyInfo Try.prog 45 = some (false, 1) := by kernel_rfl
@[go_sem] theorem by45 : byteTy Try.prog 45 = false := by kernel_rfl
@[go_sem] theorem cc45 : Program.concrete Try.prog 45 = true := by kernel_rfl
@[go_sem] theorem st45 : strTy Try.prog 45 = false := by kernel_rfl
@[go_sem] theorem nk45 : nilKind Try.prog 45 = 3 := by kernel_rfl
@[go_sem] theorem zt45 : ztree Try.prog 45 = some (.lit .nilFunc) := by kernel_rfl
@[go_sem] theorem ty47 : tyInfo Try.prog 47 = some (false, 1) := by kernel_rfl
@[go_sem] theorem by47 : byteTy Try.prog 47 = false := by kernel_rfl
@[go_sem] theorem cc47 : Program.concrete Try.prog 47 = true := by kernel_rfl
@[go_sem] theorem st47 : strTy Try.prog 47 = false := by kernel_rfl
@[go_sem] theorem nk47 : nilKind Try.prog 47 = 3 := by kernel_rfl
@[go_sem] theorem zt47 : ztree Try.prog 47 = some (.lit .nilFunc) := by kernel_rfl
@[go_sem] theorem ty48 : tyInfo Try.prog 48 = some (false, 1) := by kernel_rfl
@[go_sem] theorem by48 : byteTy Try.prog 48 = false := by kernel_rfl
@[go_sem] theorem cc48 : Program.concrete Try.prog 48 = true := by kernel_rfl
@[go_sem] theorem st48 : strTy Try.prog 48 = false := by kernel_rfl
@[go_sem] theorem nk48 : nilKind Try.prog 48 = 3 := by kernel_rfl
@[go_sem] theorem zt48 : ztree Try.prog 48 = some (.lit .nilFunc) := by kernel_rfl
@[go_sem] theorem ty49 : tyInfo Try.prog 49 = some (false, 1) := by kernel_rfl
@[go_sem] theorem by49 : byteTy Try.prog 49 = false := by kernel_rfl
@[go_sem] theorem cc49 : Program.concrete Try.prog 49 = true := by kernel_rfl
@[go_sem] theorem st49 : strTy Try.prog 49 = false := by kernel_rfl
@[go_sem] theorem nk49 : nilKind Try.prog 49 = 3 := by kernel_rfl
@[go_sem] theorem zt49 : ztree Try.prog 49 = some (.lit .nilFunc) := by kernel_rfl
@[go_sem] theorem ty50 : tyInfo Try.prog 50 = some (false, 1) := by kernel_rfl
@[go_sem] theorem by50 : byteTy Try.prog 50 = false := by kernel_rfl
@[go_sem] theorem cc50 : Program.concrete Try.prog 50 = true := by kernel_rfl
@[go_sem] theorem st50 : strTy Try.prog 50 = false := by kernel_rfl
@[go_sem] theorem nk50 : nilKind Try.prog 50 = 3 := by kernel_rfl
@[go_sem] theorem zt50 : ztree Try.prog 50 = some (.lit .nilFunc) := by kernel_rfl
@[go_sem] theorem ty52 : tyInfo Try.prog 52 = some (false, 1) := by kernel_rfl
@[go_sem] theorem by52 : byteTy Try.prog 52 = false := by kernel_rfl
@[go_sem] theorem cc52 : Program.concrete Try.prog 52 = true := by kernel_rfl
@[go_sem] theorem st52 : strTy Try.prog 52 = false := by kernel_rfl
@[go_sem] theorem nk52 : nilKind Try.prog 52 = 3 := by kernel_rfl
@[go_sem] theorem zt52 : ztree Try.prog 52 = some (.lit .nilFunc) := by kernel_rfl
@[go_sem] theorem ty53 : tyInfo Try.prog 53 = some (false, 1) := by kernel_rfl
@[go_sem] theorem by53 : byteTy Try.prog 53 = false := by kernel_rfl
@[go_sem] theorem cc53 : Program.concrete Try.prog 53 = true := by kernel_rfl
@[go_sem] theorem st53 : strTy Try.prog 53 = false := by kernel_rfl
@[go_sem] theorem nk53 : nilKind Try.prog 53 = 3 := by kernel_rfl
@[go_sem] theorem zt53 : ztree Try.prog 53 = some (.lit .nilFunc) := by kernel_rfl
@[go_sem] theorem ty54 : tyInfo Try.prog 54 = some (false, 1) := by kernel_rfl
@[go_sem] theorem by54 : byteTy Try.prog 54 = false := by kernel_rfl
@[go_sem] theorem cc54 : Program.concrete Try.prog 54 = true := by kernel_rfl
@[go_sem] theorem st54 : strTy Try.prog 54 = false := by kernel_rfl
@[go_sem] theorem nk54 : nilKind Try.prog 54 = 3 := by kernel_rfl
@[go_sem] theorem zt54 : ztree Try.prog 54 = some (.lit .nilFunc) := by kernel_rfl
@[go_sem] theorem ty55 : tyInfo Try.prog 55 = some (false, 1) := by kernel_rfl
@[go_sem] theorem by55 : byteTy Try.prog 55 = false := by kernel_rfl
@[go_sem] theorem cc55 : Program.concrete Try.prog 55 = true := by kernel_rfl
@[go_sem] theorem st55 : strTy Try.prog 55 = false := by kernel_rfl
@[go_sem] theorem nk55 : nilKind Try.prog 55 = 3 := by kernel_rfl
@[go_sem] theorem zt55 : ztree Try.prog 55 = some (.lit .nilFunc) := by kernel_rfl
@[go_sem] theorem ty56 : tyInfo Try.prog 56 = some (false, 1) := by kernel_rfl
@[go_sem] theorem by56 : byteTy Try.prog 56 = false := by kernel_rfl
@[go_sem] theorem cc56 : Program.concrete Try.prog 56 = true := by kernel_rfl
@[go_sem] theorem st56 : strTy Try.prog 56 = false := by kernel_rfl
@[go_sem] theorem nk56 : nilKind Try.prog 56 = 3 := by kernel_rfl
@[go_sem] theorem zt56 : ztree Try.prog 56 = some (.lit .nilFunc) := by kernel_rfl
@[go_sem] theorem ty57 : tyInfo Try.prog 57 = some (false, 1) := by kernel_rfl
@[go_sem] theorem it57 : intTy Try.prog 57 = some .u64 := by kernel_rfl
@[go_sem] theorem by57 : byteTy Try.prog 57 = false := by kernel_rfl
@[go_sem] theorem cc57 : Program.concrete Try.prog 57 = true := by kernel_rfl
@[go_sem] theorem st57 : strTy Try.prog 57 = false := by kernel_rfl
@[go_sem] theorem zt57 : ztree Try.prog 57 = some (.lit (.int .u64 0)) := by kernel_rfl
@[go_sem] theorem ty58 : tyInfo Try.prog 58 = some (true, 2) := by kernel_rfl
@[go_sem] theorem by58 : byteTy Try.prog 58 = false := by kernel_rfl
@[go_sem] theorem cc58 : Program.concrete Try.prog 58 = true := by kernel_rfl
@[go_sem] theorem st58 : strTy Try.prog 58 = false := by kernel_rfl
@[go_sem] theorem zt58 : ztree Try.prog 58 = some (.agg [.nils, (.lit (.int .i64 0))]) := by kernel_rfl
@[go_sem] theorem sp58 : splaces Try.prog 58 = some [(0, 1), (1, 1)] := by kernel_rfl
@[go_sem] theorem fo58_0 : fieldOff Try.prog 58 0 = some 0 := by kernel_rfl
@[go_sem] theorem fo58_1 : fieldOff Try.prog 58 1 = some 1 := by kernel_rfl
@[go_sem] theorem ty59 : tyInfo Try.prog 59 = some (true, 2) := by kernel_rfl
@[go_sem] theorem by59 : byteTy Try.prog 59 = false := by kernel_rfl
@[go_sem] theorem cc59 : Program.concrete Try.prog 59 = true := by kernel_rfl
@[go_sem] theorem st59 : strTy Try.prog 59 = false := by kernel_rfl
@[go_sem] theorem zt59 : ztree Try.prog 59 = some (.agg [.nils, (.lit (.int .i64 0))]) := by kernel_rfl
@[go_sem] theorem sp59 : splaces Try.prog 59 = some [(0, 1), (1, 1)] := by kernel_rfl
@[go_sem] theorem fo59_0 : fieldOff Try.prog 59 0 = some 0 := by kernel_rfl
@[go_sem] theorem fo59_1 : fieldOff Try.prog 59 1 = some 1 := by kernel_rfl
@[go_sem] theorem ty60 : tyInfo Try.prog 60 = some (false, 1) := by kernel_rfl
@[go_sem] theorem by60 : byteTy Try.prog 60 = false := by kernel_rfl
@[go_sem] theorem cc60 : Program.concrete Try.prog 60 = true := by kernel_rfl
@[go_sem] theorem st60 : strTy Try.prog 60 = false := by kernel_rfl
@[go_sem] theorem nk60 : nilKind Try.prog 60 = 3 := by kernel_rfl
@[go_sem] theorem zt60 : ztree Try.prog 60 = some (.lit .nilFunc) := by kernel_rfl
@[go_sem] theorem ty61 : tyInfo Try.prog 61 = some (false, 1) := by kernel_rfl
@[go_sem] theorem by61 : byteTy Try.prog 61 = false := by kernel_rfl
@[go_sem] theorem cc61 : Program.concrete Try.prog 61 = true := by kernel_rfl
@[go_sem] theorem st61 : strTy Try.prog 61 = false := by kernel_rfl
@[go_sem] theorem nk61 : nilKind Try.prog 61 = 3 := by kernel_rfl
@[go_sem] theorem zt61 : ztree Try.prog 61 = some (.lit .nilFunc) := by kernel_rfl
@[go_sem] theorem ty62 : tyInfo Try.prog 62 = some (false, 1) := by kernel_rfl
@[go_sem] theorem by62 : byteTy Try.prog 62 = false := by kernel_rfl
@[go_sem] theorem cc62 : Program.concrete Try.prog 62 = true := by kernel_rfl
@[go_sem] theorem st62 : strTy Try.prog 62 = false := by kernel_rfl
@[go_sem] theorem nk62 : nilKind Try.prog 62 = 3 := by kernel_rfl
@[go_sem] theorem zt62 : ztree Try.prog 62 = some (.lit .nilFunc) := by kernel_rfl
@[go_sem] theorem ty63 : tyInfo Try.prog 63 = some (false, 1) := by kernel_rfl
@[go_sem] theorem by63 : byteTy Try.prog 63 = false := by kernel_rfl
@[go_sem] theorem cc63 : Program.concrete Try.prog 63 = true := by kernel_rfl
@[go_sem] theorem st63 : strTy Try.prog 63 = false := by kernel_rfl
@[go_sem] theorem nk63 : nilKind Try.prog 63 = 3 := by kernel_rfl
@[go_sem] theorem zt63 : ztree Try.prog 63 = some (.lit .nilFunc) := by kernel_rfl
@[go_sem] theorem ty64 : tyInfo Try.prog 64 = some (false, 1) := by kernel_rfl
@[go_sem] theorem by64 : byteTy Try.prog 64 = false := by kernel_rfl
@[go_sem] theorem cc64 : Program.concrete Try.prog 64 = true := by kernel_rfl
@[go_sem] theorem st64 : strTy Try.prog 64 = false := by kernel_rfl
@[go_sem] theorem nk64 : nilKind Try.prog 64 = 3 := by kernel_rfl
@[go_sem] theorem zt64 : ztree Try.prog 64 = some (.lit .nilFunc) := by kernel_rfl
@[go_sem] theorem ty70 : tyInfo Try.prog 70 = some (false, 1) := by kernel_rfl
@[go_sem] theorem by70 : byteTy Try.prog 70 = false := by kernel_rfl
@[go_sem] theorem cc70 : Program.concrete Try.prog 70 = true := by kernel_rfl
@[go_sem] theorem st70 : strTy Try.prog 70 = false := by kernel_rfl
@[go_sem] theorem nk70 : nilKind Try.prog 70 = 3 := by kernel_rfl
@[go_sem] theorem zt70 : ztree Try.prog 70 = some (.lit .nilFunc) := by kernel_rfl
@[go_sem] theorem ty71 : tyInfo Try.prog 71 = some (false, 1) := by kernel_rfl
@[go_sem] theorem it71 : intTy Try.prog 71 = some .u32 := by kernel_rfl
@[go_sem] theorem by71 : byteTy Try.prog 71 = false := by kernel_rfl
@[go_sem] theorem cc71 : Program.concrete Try.prog 71 = true := by kernel_rfl
@[go_sem] theorem st71 : strTy Try.prog 71 = false := by kernel_rfl
@[go_sem] theorem zt71 : ztree Try.prog 71 = some (.lit (.int .u32 0)) := by kernel_rfl
@[go_sem] theorem ty75 : tyInfo Try.prog 75 = some (false, 1) := by kernel_rfl
@[go_sem] theorem by75 : byteTy Try.prog 75 = false := by kernel_rfl
@[go_sem] theorem cc75 : Program.concrete Try.prog 75 = true := by kernel_rfl
@[go_sem] theorem st75 : strTy Try.prog 75 = false := by kernel_rfl
@[go_sem] theorem nk75 : nilKind Try.prog 75 = 2 := by kernel_rfl
@[go_sem] theorem zt75 : ztree Try.prog 75 = some (.lit (.pointer none)) := by kernel_rfl
end Go.Proofs.Ytmhehlfocfhpkaa

/- Shared: comparing bytes, arguments cut at a length. -/
namespace Go.Proofs.Ytmhehlfocfhpkaa
open Go.Ab
attribute [local irreducible] Go.Ab.tyAV Go.Ab.aw Go.Ab.aops Go.Ab.kReg Go.Ab.aThen Go.Ab.aBlk Go.Ab.acond Go.Ab.aguard Go.Ab.astep Go.Ab.AStepX Go.Ab.aRet

theorem Same_spec (cs bs : List UInt8) (ha : cs.length ≤ 100000000) (k : Nat) : ACall Try.prog 15 [.slice none (cs.map byteAV), .slice none (bs.map byteAV)] k [] (.lit (.bool (decide (cs = bs)))) [] := by
  by_cases hl : cs.length = bs.length
  · refine ACall.of_body mixed Try.func15 rfl (by kernel_rfl) Try.ntmps15 (by kernel_rfl) rfl (by simp) (by simp) (by simp) fun σ N hp hpn hk hkn hfree => ?_
    refine Wk ?_
    refine go_loop (aloop mixed (by kernel_rfl) (fun c => ∃ (u : Nat), c.s 0 = .slice none (cs.map byteAV) ∧ c.s 1 = .slice none (bs.map byteAV) ∧ c.s 5 = .lit (.int .i64 u) ∧ (∀ id, id < N → c.σ id = σ id) ∧ N ≤ c.n ∧ u ≤ cs.length ∧ cs.take u = bs.take u)
      (fun c => match c.s 5 with | .lit (.int _ m) => cs.length - m.toNat | _ => 0) ⟨0, by simp (disch := omega) [go_sem, *, -List.reduceReplicate], by simp (disch := omega) [go_sem, *, -List.reduceReplicate], by simp (disch := omega) [go_sem, *, -List.reduceReplicate], (fun id hid => by simp (disch := omega) only [upd_ne, wr_cons, wr_nil]; try exact hlow id hid), by simp only; omega, by omega, by simp⟩ ?_)
    rintro ⟨s, σ', n'⟩ ⟨u, h0, h1, h5, hlow, hn', hu, heq⟩
    simp only at h0 h1 h5 hlow hn'
    by_cases hul : u = cs.length
    · have hr : decide (cs = bs) = true := by
        rw [hul, List.take_length, hl, List.take_length] at heq
        simp [heq]
      rw [hr]
      exact W0
    · have hua : u < cs.length := by omega
      have hub : u < bs.length := by omega
      obtain ⟨x, hx⟩ : ∃ x, cs[u] = x := ⟨_, rfl⟩
      obtain ⟨y, hy⟩ : ∃ y, bs[u] = y := ⟨_, rfl⟩
      have hxx : byteAV x = .lit (.int .u8 x.toNat) := rfl
      have hyy : byteAV y = .lit (.int .u8 y.toNat) := rfl
      refine Wk ?_
      by_cases hxy : x = y
      · subst hxy
        refine Wk ?_
        refine ⟨⟨u + 1, by simp (disch := omega) [go_sem, *, -List.reduceReplicate], by simp (disch := omega) [go_sem, *, -List.reduceReplicate], by simp (disch := omega) [go_sem, *, -List.reduceReplicate], (fun id hid => by simp (disch := omega) only [upd_ne, wr_cons, wr_nil]; try exact hlow id hid), by simp only; omega, by omega, ?_⟩, ?_⟩
        · rw [List.take_add_one, List.take_add_one, heq, List.getElem?_eq_getElem hua, List.getElem?_eq_getElem hub, hx, hy]
        · simp (disch := omega) [go_sem, *, -List.reduceReplicate]
          omega
      · have hne : ¬ x.toNat = y.toNat := fun h => hxy (UInt8.toNat_inj.1 h)
        have hr : decide (cs = bs) = false := by
          have : cs ≠ bs := fun h => by subst h; rw [hx] at hy; exact hxy hy
          simp [this]
        rw [hr]
        exact W0
  · have hr : decide (cs = bs) = false := by
      have : cs ≠ bs := fun h => hl (by rw [h])
      simp [this]
    rw [hr]
    refine ACall.of_body mixed Try.func15 rfl (by kernel_rfl) Try.ntmps15 (by kernel_rfl) rfl (by simp) (by simp) (by simp) fun σ N hp hpn hk hkn hfree => ?_
    exact W0

theorem cutAt (c : Nat) (b : List UInt8) : ∃ (m : Nat) (t : List UInt8), (if (c : Int) < (b.length : Int) then (c : Int) else (b.length : Int)) = (m : Int) ∧ m ≤ b.length ∧ m ≤ c ∧ t.length = m ∧ (b.map byteAV).take m = t.map byteAV := by
  refine ⟨min c b.length, b.take c, ?_, Nat.min_le_right .., Nat.min_le_left .., by simp, ?_⟩
  · split <;> omega
  · rw [← List.map_take]
    congr 1
    by_cases h : c ≤ b.length
    · rw [Nat.min_eq_left h]
    · rw [Nat.min_eq_right (by omega), List.take_length, List.take_of_length_le (by omega)]

theorem cutStr (n : Nat) (b : List UInt8) : ∃ (m : Nat) (t : List UInt8), (if (n : Int) < (b.length : Int) then (n : Int) else (b.length : Int)) = (m : Int) ∧ m ≤ b.length ∧ m ≤ n ∧ t.length = m ∧ b.take m = t := by
  refine ⟨min n b.length, b.take (min n b.length), ?_, by omega, by omega, by simp, rfl⟩
  split <;> omega

theorem str_of {x : AV} (h : tyAV Try.prog 8 9 x) : ∃ l : List UInt8, l.length ≤ 9223372036854775807 ∧ x = strAV l := ty_str st9 h
end Go.Proofs.Ytmhehlfocfhpkaa

/- Shared: lists of byte strings. -/
namespace Go.Proofs.Ytmhehlfocfhpkaa
open Go.Ab
attribute [local irreducible] Go.Ab.tyAV Go.Ab.aw Go.Ab.aops Go.Ab.kReg Go.Ab.aThen Go.Ab.aBlk Go.Ab.acond Go.Ab.aguard Go.Ab.astep Go.Ab.AStepX Go.Ab.aRet

def bAV (b : List UInt8) : AV := .slice none (b.map byteAV)
theorem bAV_def (b : List UInt8) : bAV b = .slice none (b.map byteAV) := rfl
@[go_sem] theorem bAV_sz (b : List UInt8) : (bAV b).sz = 1 := rfl
@[go_sem] theorem bAV_isAgg (b : List UInt8) : (bAV b).isAgg = false := rfl
@[go_sem] theorem all_bs1 (l : List (List UInt8)) : (l.map bAV).all (fun x => x.sz == 1) = true := by
  rw [List.all_eq_true]; intro x hx; obtain ⟨b, _, rfl⟩ := List.mem_map.1 hx; rfl
@[go_sem] theorem bAV_cell (b : List UInt8) : (bAV b).cell = true := rfl
@[go_sem] theorem bAV_ren (f : Nat → Option Nat) (b : List UInt8) : (bAV b).ren f = bAV b := by
  simp only [bAV, AV.ren, renl_bytes, Option.bind_none]
@[go_sem] theorem renl_bs (f : Nat → Option Nat) (l : List (List UInt8)) : AV.renl f (l.map bAV) = l.map bAV := by
  rw [AV.renl_map, List.map_map]; exact List.map_congr_left fun t _ => bAV_ren f t
@[go_sem] theorem all_bs2 (l : List (List UInt8)) : (l.map bAV).all (fun x => x.sz == 1 && x.cell) = true := by
  rw [List.all_eq_true]; intro x hx; obtain ⟨b, _, rfl⟩ := List.mem_map.1 hx; rfl
@[go_sem] theorem szl_bs (l : List (List UInt8)) : AV.szl (l.map bAV) = l.length := by
  rw [AV.szl_uniform _ 1 fun x hx => by obtain ⟨b, _, rfl⟩ := List.mem_map.1 hx; rfl]; simp

theorem AV.le_sliceS {xs ys : List AV} (o : Option Nat) (h : ALe xs ys) : AV.le (.slice o xs) (.slice o ys) := fun g v hr => by
  obtain ⟨h1, h2⟩ := h.at
  cases hr with
  | slice own _ vs A c size hvl hc hm hr hs hcell hown =>
    rw [h1] at hvl hc hcell hown ⊢
    exact .slice o ys vs A c size hvl hc hm (fun i y v hy hv => by obtain ⟨x, hx, hxy⟩ := h2 i y hy; exact hxy g v (hr i x v hx hv)) hs hcell hown
theorem ALe.snoc {xs : List AV} {x y : AV} (h : AV.le x y) : ALe (xs ++ [x]) (xs ++ [y]) := by
  induction xs with
  | nil => exact .cons h .nil
  | cons z r ih => exact .cons (AV.le_refl _) ih
theorem SameLists_spec (A B : List (List UInt8)) (hA : A.length ≤ 100000000) (hb : ∀ r ∈ A, r.length ≤ 100000000) (k : Nat) :
    ACall Try.prog 34 [.slice none (A.map bAV), .slice none (B.map bAV)] k [] (.lit (.bool (decide (A = B)))) [] := by
  by_cases hl : A.length = B.length
  · refine ACall.of_body mixed Try.func34 rfl (by kernel_rfl) Try.ntmps34 (by kernel_rfl) rfl (by simp) (by simp) (by simp) fun σ N hp hpn hk hkn hfree => ?_
    refine Wk ?_
    refine go_loopF mixed (by kernel_rfl) [4, 5, 11, 12, 13, 14, 15, 16, 17, 18, 19, 20, 21, 22, 23, 24, 25, 26] [] (fun m_ s_ σ_ n_ => ∃ (u : Nat), m_ = A.length - u ∧ s_ 5 = .lit (.int .i64 u) ∧ (u ≤ A.length) ∧ (A.take u = B.take u)) ⟨_, 0, rfl, WF, WC, WC⟩ ?_
    intro m_1 s_1 σ_1 n_1 hs_1 hf_1 hn_1 hI_1
    obtain ⟨u, hm_1, h1_5, hu, heq⟩ := hI_1
    have h1_0 := (hs_1.at 0 (by decide)).trans WE
    have h1_1 := (hs_1.at 1 (by decide)).trans WE
    have hlow : ∀ id, id < N → σ_1 id = σ id := fun id hid => (hf_1.at id (by omega) WQ).trans WH
    by_cases hul : u = A.length
    · have hr : decide (A = B) = true := by
        rw [hul, List.take_length, hl, List.take_length] at heq
        simp [heq]
      subst hul
      rw [hr]
      exact W0
    · have hua : u < A.length := by omega
      have hub : u < B.length := by omega
      obtain ⟨x, hx⟩ : ∃ x, A[u] = x := ⟨_, rfl⟩
      obtain ⟨y, hy⟩ : ∃ y, B[u] = y := ⟨_, rfl⟩
      have hxb := bAV_def x
      have hyb := bAV_def y
      have c1 := Same_spec x y (by rw [← hx]; exact hb _ (List.getElem_mem hua))
      by_cases hxy : x = y
      · rw [decide_eq_true hxy] at c1
        have hcs := And.intro c1 True.intro
        clear c1
        have heq2 : A.take (u + 1) = B.take (u + 1) := by
          rw [List.take_add_one, List.take_add_one, heq, List.getElem?_eq_getElem hua, List.getElem?_eq_getElem hub, hx, hy, hxy]
        clear hb
        refine Wk ?_
        exact ⟨WS, WG, WN, _, (show A.length - (u + 1) < m_1 by omega), u + 1, rfl, WF, WC, WC⟩
      · rw [decide_eq_false hxy] at c1
        have hcs := And.intro c1 True.intro
        clear c1
        have hr : decide (A = B) = false := by
          have : A ≠ B := fun h => by subst h; rw [hx] at hy; exact hxy hy
          simp [this]
        rw [hr]
        clear hb hr
        exact W0
  · have hr : decide (A = B) = false := by
      have : A ≠ B := fun h => hl (by rw [h])
      simp [this]
    rw [hr]
    refine ACall.of_body mixed Try.func34 rfl (by kernel_rfl) Try.ntmps34 (by kernel_rfl) rfl (by simp) (by simp) (by simp) fun σ N hp hpn hk hkn hfree => ?_
    exact W0

theorem SameLists_refl (L : List (List UInt8)) (hl : L.length ≤ 1000000) (hb : ∀ r ∈ L, r.length ≤ 1000000) (k : Nat) :
    ACall Try.prog 34 [.slice none (L.map bAV), .slice none (L.map bAV)] k [] (.lit (.bool true)) [] := by
  have := SameLists_spec L L (by omega) (fun r hr => by have := hb r hr; omega) k
  rw [decide_eq_true rfl] at this
  exact this
theorem cutB (c : Nat) (b : List UInt8) : (if (c : Int) < (b.length : Int) then (c : Int) else (b.length : Int)) = ((min c b.length : Nat) : Int) ∧ (b.map byteAV).take (min c b.length) = (b.take c).map byteAV := by
  refine ⟨by split <;> omega, ?_⟩
  rw [← List.map_take]
  congr 1
  rcases Nat.le_total c b.length with h | h
  · rw [Nat.min_eq_left h]
  · rw [Nat.min_eq_right h, List.take_length, List.take_of_length_le h]
theorem lists_of {x : AV} (h : tyAV Try.prog 8 40 x) : ∃ L : List (List UInt8), (L.length ≤ 9223372036854775807 ∧ ∀ d ∈ L, d.length ≤ 9223372036854775807) ∧ x = .slice none (L.map bAV) := ty_list sl40 (fun y hy => ty_bytes sl22 by5 hy) h
end Go.Proofs.Ytmhehlfocfhpkaa

/- Shared: slices.Clone of bytes, the bytes of a number, varint.Append. -/
namespace Go.Proofs.Ytmhehlfocfhpkaa
open Go.Ab
attribute [local irreducible] Go.Ab.tyAV Go.Ab.aw Go.Ab.aops Go.Ab.kReg Go.Ab.aThen Go.Ab.aBlk Go.Ab.acond Go.Ab.aguard Go.Ab.astep Go.Ab.AStepX Go.Ab.aRet

attribute [go_sem] bytes_all1 bytes_all2 List.isEmpty_map

theorem SClone_cons (bs : List UInt8) (he : bs.isEmpty = false) (hl : bs.length ≤ 100000000) (k : Nat) :
    ACall Try.prog 35 [.slice none (bs.map byteAV)] k [] (.slice (some k) (bs.map byteAV)) [(k, .row 5 1 bs.length)] := by
  refine ACall.of_body mixed Try.func35 rfl (by kernel_rfl) Try.ntmps35 (by kernel_rfl) rfl (by simp) (by simp) (by simp) fun σ N hp hpn hk hkn hfree => ?_
  refine Wk ?_
  refine go_result1 (r0 := N+3) (by simp (disch := omega) [go_sem, *, -List.reduceReplicate]; rfl) (by omega) (by simp (disch := omega) [go_sem]; try rfl) (fun id hid => by simp (disch := omega) only [upd_ne, wr_cons, wr_nil]; try exact hlow id hid) (by simp (disch := omega) only [upd_same, upd_ne]; rfl) (by simp (disch := omega) [go_sem])

theorem SClone_nil (c k : Nat) : ACall Try.prog 35 [.lit (.slice none 0 c)] k [] .nils [] := by
  refine ACall.of_body mixed Try.func35 rfl (by kernel_rfl) Try.ntmps35 (by kernel_rfl) rfl (by simp) (by simp) (by simp) fun σ N hp hpn hk hkn hfree => ?_
  exact W0

theorem SClone_empty (A : Addr) (c k : Nat) : ACall Try.prog 35 [.lit (.slice (some A) 0 c)] k [] (.slice (some k) []) [(k, .row 5 1 0)] := by
  refine ACall.of_body mixed Try.func35 rfl (by kernel_rfl) Try.ntmps35 (by kernel_rfl) rfl (by simp) (by simp) (by simp) fun σ N hp hpn hk hkn hfree => ?_
  refine Wk ?_
  refine go_result1 (r0 := N+3) (by simp (disch := omega) [go_sem, *, -List.reduceReplicate]; rfl) (by omega) (by simp (disch := omega) [go_sem]; try rfl) (fun id hid => by simp (disch := omega) only [upd_ne, wr_cons, wr_nil]; try exact hlow id hid) (by simp (disch := omega) only [upd_same, upd_ne]; rfl) (by simp (disch := omega) [go_sem])

theorem SClone_spec (bs : List UInt8) (hl : bs.length ≤ 100000000) (k : Nat) :
    ACall Try.prog 35 [.slice none (bs.map byteAV)] k [] (.slice (some k) (bs.map byteAV)) [(k, .row 5 1 bs.length)] := by
  cases bs with
  | cons b r => exact SClone_cons (b :: r) rfl hl k
  | nil =>
    refine ACall.empty fun A c => ?_
    cases A with
    | none => exact ACall.nilrow (SClone_nil c k)
    | some A => exact SClone_empty A c k

/-- The byte of a number. -/
def u8 (n : Nat) : UInt8 := UInt8.ofNat n
def leb (n : Nat) : List UInt8 := if h : n < 128 then [u8 n] else u8 (n % 128 + 128) :: leb (n / 128)
termination_by n

theorem leb_small {n : Nat} (h : n < 128) : leb n = [u8 n] := by rw [leb, dif_pos h]
theorem leb_big {n : Nat} (h : ¬ n < 128) : leb n = u8 (n % 128 + 128) :: leb (n / 128) := by rw [leb, dif_neg h]
theorem leb_len (n : Nat) : ∀ k, n < 128 ^ k → (leb n).length ≤ k + 1 := by
  induction n using Nat.strongRecOn with
  | _ n ih =>
    intro k hk
    by_cases h : n < 128
    · rw [leb_small h]; simp
    · rw [leb_big h]
      cases k with
      | zero => simp at hk; omega
      | succ k =>
        have := ih (n / 128) (by omega) k (by rw [Nat.pow_succ] at hk; omega)
        simp; omega
theorem byteAV_ofNat {n : Nat} (h : n < 256) : byteAV (u8 n) = .lit (.int .u8 n) := by
  simp only [byteAV, u8]
  rw [UInt8.toNat_ofNat', Nat.mod_eq_of_lt h]

theorem Number_spec (n k : Nat) (hn : n < 128 ^ 9) : ACall Try.prog 22 [.lit (.int .i64 n)] k [] (.slice (some k) ((leb n).map byteAV)) [(k, .row 5 1 (leb n).length)] := by
  have hl := leb_len n 9 hn
  refine ACall.of_body mixed Try.func22 rfl (by kernel_rfl) Try.ntmps22 (by kernel_rfl) rfl (by simp) (by simp) (by simp) fun σ N hp hpn hk hkn hfree => ?_
  refine Wk ?_
  refine go_loop (ALoop.nilrow 3 5 1 (by simp (disch := omega) [go_sem, *, -List.reduceReplicate]) ?_)
  refine aloop mixed (by kernel_rfl) (fun c => ∃ (m : Nat) (acc : List UInt8), c.s 0 = .lit (.int .i64 m) ∧ c.s 3 = .slice (some (N + 2)) (acc.map byteAV) ∧ c.σ (N + 2) = .row 5 1 acc.length ∧ N + 3 ≤ c.n ∧ (∀ id, id < N → c.σ id = σ id) ∧ acc ++ leb m = leb n ∧ m < 128 ^ 9)
    (fun c => match c.s 0 with | .lit (.int _ m) => m.toNat | _ => 0) ⟨n, [], by simp (disch := omega) [go_sem, *, -List.reduceReplicate], by simp (disch := omega) [go_sem, *, -List.reduceReplicate], by simp (disch := omega) [go_sem, *, -List.reduceReplicate], by simp, by intro id hid; simp (disch := omega) only [upd_ne], rfl, hn⟩ ?_
  rintro ⟨s, σ', n'⟩ ⟨m, acc, h0, h3, hr, hn', hlow, hacc, hm⟩
  simp only at h0 h3 hr hn' hlow
  have hal : acc.length ≤ 10 := by rw [← hacc, List.length_append] at hl; omega
  refine Wk ?_
  by_cases h : m < 128
  · refine go_condF (by simp (disch := omega) [go_sem, *, -List.reduceReplicate]; try first | rfl | omega) ?_
    refine Wk ?_
    have hfin : (leb n).map byteAV = acc.map byteAV ++ [.lit (.int .u8 (IntKind.u8.wrap (m : Int)))] := by
      rw [← hacc, leb_small h, List.map_append, List.map_cons, List.map_nil, byteAV_ofNat (by omega), IntKind.wrap_u8, Int.emod_eq_of_lt (by omega) (by omega)]
    have hlen : (leb n).length = acc.length + 1 := by rw [← hacc, leb_small h]; simp
    rw [hfin, hlen]
    refine go_result1 (r0 := N+2) (by simp (disch := omega) [go_sem, *, -List.reduceReplicate]; rfl) (by omega) (by simp (disch := omega) [go_sem]; try rfl) (fun id hid => by simp (disch := omega) only [upd_ne, wr_cons, wr_nil]; try exact hlow id hid) (by simp (disch := omega) only [upd_same, upd_ne]; rfl) (by simp (disch := omega) [go_sem])
  · have ht : (m : Int).tmod 128 = (m : Int) % 128 := Int.tmod_eq_emod_of_nonneg (by omega)
    have hb : IntKind.u8.wrap ((m : Int) % 128 + 128) = (m : Int) % 128 + 128 := by rw [IntKind.wrap_u8]; omega
    have hbv : byteAV (u8 (m % 128 + 128)) = .lit (.int .u8 ((m : Int) % 128 + 128)) := by rw [byteAV_ofNat (by omega)]; simp
    refine Wk ?_
    refine ⟨⟨m / 128, acc ++ [u8 (m % 128 + 128)], by simp (disch := omega) [go_sem, *, -List.reduceReplicate], by simp (disch := omega) [go_sem, *, -List.reduceReplicate], by simp (disch := omega) [go_sem, *, -List.reduceReplicate], by simp only; omega, (fun id hid => by simp (disch := omega) only [upd_ne, wr_cons, wr_nil]; try exact hlow id hid), by rw [← hacc, leb_big h]; simp, by omega⟩, ?_⟩
    simp (disch := omega) [go_sem, *, -List.reduceReplicate]
    omega

theorem Append_bad (bs : List UInt8) (n : Int) (h : n < 0 ∨ 281474976710656 < n) (k : Nat) : ACall Try.prog 17 [.slice none (bs.map byteAV), .lit (.int .i64 n)] k [] (.tup [.nils, .lit (.int .i64 1)]) [] := by
  by_cases h1 : n < 0
  · refine ACall.of_body mixed Try.func17 rfl (by kernel_rfl) Try.ntmps17 (by kernel_rfl) rfl (by simp) (by simp) (by simp) fun σ N hp hpn hk hkn hfree => ?_
    exact W0
  · have h2 : 281474976710656 < n := by omega
    refine ACall.of_body mixed Try.func17 rfl (by kernel_rfl) Try.ntmps17 (by kernel_rfl) rfl (by simp) (by simp) (by simp) fun σ N hp hpn hk hkn hfree => ?_
    exact W0

theorem Append_ok (bs : List UInt8) (hb : bs.length ≤ 10000000) (n : Nat) (h : n ≤ 281474976710656) (k : Nat) :
    ACall Try.prog 17 [.slice none (bs.map byteAV), .lit (.int .i64 n)] k [] (.tup [.slice (some k) ((bs ++ leb n).map byteAV), .lit (.int .i64 0)]) [(k, .row 5 1 (bs.length + (leb n).length))] := by
  have hl := leb_len n 7 (by omega)
  have hc := SClone_spec bs (by omega)
  refine ACall.of_body mixed Try.func17 rfl (by kernel_rfl) Try.ntmps17 (by kernel_rfl) rfl (by simp) (by simp) (by simp) fun σ N hp hpn hk hkn hfree => ?_
  have g1 : ¬ (n : Int) < 0 := by omega
  have g2 : ¬ (281474976710656 : Int) < n := by omega
  have hcs := And.intro hc True.intro
  refine Wk ?_
  refine go_loop (aloop mixed (by kernel_rfl) (fun c => ∃ (m : Nat) (acc : List UInt8), c.s 1 = .lit (.int .i64 m) ∧ c.s 6 = .slice (some (N + 9)) ((bs ++ acc).map byteAV) ∧ c.σ (N + 9) = .row 5 1 (bs.length + acc.length) ∧ N + 10 ≤ c.n ∧ (∀ id, id < N → c.σ id = σ id) ∧ acc ++ leb m = leb n ∧ m ≤ 281474976710656)
    (fun c => match c.s 1 with | .lit (.int _ m) => m.toNat | _ => 0) ⟨n, [], by simp (disch := omega) [go_sem, *, -List.reduceReplicate], by simp (disch := omega) [go_sem, *, -List.reduceReplicate], by simp (disch := omega) [go_sem, *, -List.reduceReplicate], by simp, (fun id hid => by simp (disch := omega) only [upd_ne, wr_cons, wr_nil]; try exact hlow id hid), rfl, h⟩ ?_)
  rintro ⟨s, σ', n'⟩ ⟨m, acc, h0, h3, hr, hn', hlow, hacc, hm⟩
  simp only at h0 h3 hr hn' hlow
  have hal : acc.length ≤ 10 := by rw [← hacc, List.length_append] at hl; omega
  by_cases h : m < 128
  · repeat (first | apply go_nil | apply go_kreg | apply go_kreg0 | apply go_kreg1 | (apply go_kregT; · (first | (simp [addT, CF, CFy, Ind, DisjF]; done) | (simp only [addT, CF, CFy, Ind]; repeat' (first | exact trivial | apply And.intro | exact Or.inl (by decide +kernel) | (refine Or.inr ⟨?_, ?_⟩ <;> (simp; try omega)))))) | apply go_then | apply go_then_exit | apply go_then_ret | apply go_blk | apply go_blk_ret | apply go_blk_here | (apply go_blk_there; · rfl) | apply go_seq | (apply go_region; · (simp only [List.length_cons, List.length_nil, Nat.reduceAdd, Nat.add_assoc]; rfl)) | apply go_skip | apply go_block | apply go_scope | apply go_label | apply go_exit | apply go_ret | (apply go_mut; (· assumption); · (simp (disch := omega) [go_sem, *, -List.reduceReplicate]; first | exact ⟨rfl, rfl⟩ | (simp [go_sem, *]; exact ⟨rfl, rfl⟩))) | (apply go_mutP; (· assumption); · (simp (disch := omega) [go_sem, *, -List.reduceReplicate]; try first | rfl | exact ⟨rfl, rfl⟩ | exact ⟨rfl, rfl, rfl⟩)) | (apply go_guard_in; (· rfl); · (simp (disch := omega) [go_sem, *, -List.reduceReplicate]; try first | rfl | omega)) | (apply go_guard_off; (· rfl); · (simp (disch := omega) [go_sem, *, -List.reduceReplicate]; try first | rfl | omega)) | (apply go_guard_no; (· rfl); · (simp (disch := omega) [go_sem, *, -List.reduceReplicate]; try rfl)) | ((first | apply go_move | apply go_assign | apply go_load | apply go_store | apply go_append | apply go_copy | apply go_copy0 | apply go_clear0 | apply go_slice3 | apply go_indexA); · (simp (disch := omega) [go_sem, *, -List.reduceReplicate]; try first | rfl | exact ⟨rfl, rfl⟩ | exact ⟨rfl, rfl, rfl⟩)) | ((first | apply go_loadv | apply go_append0 | apply go_beyond); · (simp (disch := omega) [go_sem, *, -List.reduceReplicate]; try first | rfl | exact ⟨rfl, rfl⟩ | exact ⟨rfl, rfl, rfl⟩)) | (apply go_appself; · (simp (disch := omega) [go_sem, *, -List.reduceReplicate]; try first | rfl | exact ⟨rfl, rfl⟩ | exact ⟨rfl, rfl, rfl⟩)) | ((first | (apply go_appendz; · rfl) | (apply go_new; · rfl) | (apply go_pure; · rfl)); · (simp (disch := omega) [go_sem, *, -List.reduceReplicate]; try first | rfl | exact ⟨rfl, rfl⟩ | exact ⟨rfl, rfl, rfl⟩)) | ((apply go_glob; · assumption); · (simp (disch := omega) [go_sem, *, -List.reduceReplicate]; try first | rfl | exact ⟨rfl, rfl⟩ | exact ⟨rfl, rfl, rfl⟩)) | (apply go_read1; (· rfl); · (simp (disch := omega) [go_sem, *, -List.reduceReplicate]; try first | rfl | exact ⟨rfl, rfl⟩ | exact ⟨rfl, rfl, rfl⟩)) | (apply go_rw1; (· rfl); · (simp (disch := omega) [go_sem, *, -List.reduceReplicate]; try first | rfl | exact ⟨rfl, rfl⟩ | exact ⟨rfl, rfl, rfl⟩)) | (apply go_new1; (· rfl); · (simp (disch := omega) [go_sem, *, -List.reduceReplicate]; try first | rfl | exact ⟨rfl, rfl⟩ | exact ⟨rfl, rfl, rfl⟩)) | (apply go_conv; · (simp (disch := omega) [go_sem, *, -List.reduceReplicate]; try first | rfl | exact ⟨rfl, rfl⟩ | exact ⟨rfl, rfl, rfl⟩)) | ((first | (apply go_new; · rfl) | (apply go_pure; · rfl)); · (simp (disch := omega) [go_sem, *, -List.reduceReplicate]; simp [go_sem, *]; try first | rfl | exact ⟨rfl, rfl⟩)))
    refine Wk ?_
    have hfin : (bs ++ leb n).map byteAV = (bs ++ acc).map byteAV ++ [.lit (.int .u8 (IntKind.u8.wrap (m : Int)))] := by
      rw [← hacc, leb_small h, ← List.append_assoc, List.map_append, List.map_cons, List.map_nil, byteAV_ofNat (by omega), IntKind.wrap_u8, Int.emod_eq_of_lt (by omega) (by omega)]
    have hlen : bs.length + (leb n).length = bs.length + acc.length + 1 := by rw [← hacc, leb_small h]; simp; omega
    rw [hfin, hlen]
    refine go_result1 (r0 := N+9) (by simp (disch := omega) [go_sem, *, -List.reduceReplicate]; rfl) (by omega) (by simp (disch := omega) [go_sem]; try rfl) (fun id hid => by simp (disch := omega) only [upd_ne, wr_cons, wr_nil]; try exact hlow id hid) (by simp (disch := omega) only [upd_same, upd_ne]; rfl) (by simp (disch := omega) [go_sem])
  · have ha : bits .and .i64 (m : Int) 127 = (m : Int) % 128 := i64_and127 _ (by omega) (by omega)
    have ho : bits .or .i64 ((m : Int) % 128) 128 = (m : Int) % 128 + 128 := i64_or128 _ (by omega) (by omega)
    have hs : (m : Int).fdiv 128 = (m : Int) / 128 := by rw [Int.fdiv_eq_ediv]; simp
    have hb : IntKind.u8.wrap ((m : Int) % 128 + 128) = (m : Int) % 128 + 128 := by rw [IntKind.wrap_u8]; omega
    have hbv : byteAV (u8 (m % 128 + 128)) = .lit (.int .u8 ((m : Int) % 128 + 128)) := by rw [byteAV_ofNat (by omega)]; simp
    refine Wk ?_
    refine ⟨⟨m / 128, acc ++ [u8 (m % 128 + 128)], by simp (disch := omega) [go_sem, *, -List.reduceReplicate], by simp (disch := omega) [go_sem, *, -List.reduceReplicate], by simp (disch := omega) [go_sem, *, -List.reduceReplicate]; omega, by simp only; omega, (fun id hid => by simp (disch := omega) only [upd_ne, wr_cons, wr_nil]; try exact hlow id hid), by rw [← hacc, leb_big h]; simp, by omega⟩, ?_⟩
    simp (disch := omega) [go_sem, *, -List.reduceReplicate]
    omega

theorem Number_spec_f (n k : Nat) (hn : n < 128 ^ 9) : ACall Try.prog 22 [.lit (.int .i64 n)] k [] (.slice none ((leb n).map byteAV)) [] := by
  have hl := leb_len n 9 hn
  refine ACall.of_body mixed Try.func22 rfl (by kernel_rfl) Try.ntmps22 (by kernel_rfl) rfl (by simp) (by simp) (by simp) fun σ N hp hpn hk hkn hfree => ?_
  refine Wk ?_
  refine go_loop (ALoop.nilrow 3 5 1 (by simp (disch := omega) [go_sem, *, -List.reduceReplicate]) ?_)
  refine aloop mixed (by kernel_rfl) (fun c => ∃ (m : Nat) (acc : List UInt8), c.s 0 = .lit (.int .i64 m) ∧ c.s 3 = .slice (some (N + 2)) (acc.map byteAV) ∧ c.σ (N + 2) = .row 5 1 acc.length ∧ N + 3 ≤ c.n ∧ (∀ id, id < N → c.σ id = σ id) ∧ acc ++ leb m = leb n ∧ m < 128 ^ 9)
    (fun c => match c.s 0 with | .lit (.int _ m) => m.toNat | _ => 0) ⟨n, [], by simp (disch := omega) [go_sem, *, -List.reduceReplicate], by simp (disch := omega) [go_sem, *, -List.reduceReplicate], by simp (disch := omega) [go_sem, *, -List.reduceReplicate], by simp, by intro id hid; simp (disch := omega) only [upd_ne], rfl, hn⟩ ?_
  rintro ⟨s, σ', n'⟩ ⟨m, acc, h0, h3, hr, hn', hlow, hacc, hm⟩
  simp only at h0 h3 hr hn' hlow
  have hal : acc.length ≤ 10 := by rw [← hacc, List.length_append] at hl; omega
  refine Wk ?_
  by_cases h : m < 128
  · refine go_condF (by simp (disch := omega) [go_sem, *, -List.reduceReplicate]; try first | rfl | omega) ?_
    refine Wk ?_
    have hfin : (leb n).map byteAV = acc.map byteAV ++ [.lit (.int .u8 (IntKind.u8.wrap (m : Int)))] := by
      rw [← hacc, leb_small h, List.map_append, List.map_cons, List.map_nil, byteAV_ofNat (by omega), IntKind.wrap_u8, Int.emod_eq_of_lt (by omega) (by omega)]
    have hlen : (leb n).length = acc.length + 1 := by rw [← hacc, leb_small h]; simp
    rw [hfin]
    refine go_resultI (by simp (disch := omega) [go_sem, *, -List.reduceReplicate]; rfl) (by first | exact AV.le_refl _ | ((first | apply AV.le_slices | apply AV.le_nilsE | apply AV.le_clipE); first | rfl | (simp (disch := omega) [go_sem, *, -List.reduceReplicate]; done))) (by simp (disch := omega) [go_sem]; try rfl) (fun id hid => by simp (disch := omega) only [upd_ne, wr_cons, wr_nil]; try exact hlow id hid)
  · have ht : (m : Int).tmod 128 = (m : Int) % 128 := Int.tmod_eq_emod_of_nonneg (by omega)
    have hb : IntKind.u8.wrap ((m : Int) % 128 + 128) = (m : Int) % 128 + 128 := by rw [IntKind.wrap_u8]; omega
    have hbv : byteAV (u8 (m % 128 + 128)) = .lit (.int .u8 ((m : Int) % 128 + 128)) := by rw [byteAV_ofNat (by omega)]; simp
    refine Wk ?_
    refine ⟨⟨m / 128, acc ++ [u8 (m % 128 + 128)], by simp (disch := omega) [go_sem, *, -List.reduceReplicate], by simp (disch := omega) [go_sem, *, -List.reduceReplicate], by simp (disch := omega) [go_sem, *, -List.reduceReplicate], by simp only; omega, (fun id hid => by simp (disch := omega) only [upd_ne, wr_cons, wr_nil]; try exact hlow id hid), by rw [← hacc, leb_big h]; simp, by omega⟩, ?_⟩
    simp (disch := omega) [go_sem, *, -List.reduceReplicate]
    omega

theorem Append_ok_f (bs : List UInt8) (hb : bs.length ≤ 10000000) (n : Nat) (h : n ≤ 281474976710656) (k : Nat) :
    ACall Try.prog 17 [.slice none (bs.map byteAV), .lit (.int .i64 n)] k [] (.tup [.slice none ((bs ++ leb n).map byteAV), .lit (.int .i64 0)]) [] := by
  have hl := leb_len n 7 (by omega)
  have hc := SClone_spec bs (by omega)
  refine ACall.of_body mixed Try.func17 rfl (by kernel_rfl) Try.ntmps17 (by kernel_rfl) rfl (by simp) (by simp) (by simp) fun σ N hp hpn hk hkn hfree => ?_
  have g1 : ¬ (n : Int) < 0 := by omega
  have g2 : ¬ (281474976710656 : Int) < n := by omega
  have hcs := And.intro hc True.intro
  refine Wk ?_
  refine go_loop (aloop mixed (by kernel_rfl) (fun c => ∃ (m : Nat) (acc : List UInt8), c.s 1 = .lit (.int .i64 m) ∧ c.s 6 = .slice (some (N + 9)) ((bs ++ acc).map byteAV) ∧ c.σ (N + 9) = .row 5 1 (bs.length + acc.length) ∧ N + 10 ≤ c.n ∧ (∀ id, id < N → c.σ id = σ id) ∧ acc ++ leb m = leb n ∧ m ≤ 281474976710656)
    (fun c => match c.s 1 with | .lit (.int _ m) => m.toNat | _ => 0) ⟨n, [], by simp (disch := omega) [go_sem, *, -List.reduceReplicate], by simp (disch := omega) [go_sem, *, -List.reduceReplicate], by simp (disch := omega) [go_sem, *, -List.reduceReplicate], by simp, (fun id hid => by simp (disch := omega) only [upd_ne, wr_cons, wr_nil]; try exact hlow id hid), rfl, h⟩ ?_)
  rintro ⟨s, σ', n'⟩ ⟨m, acc, h0, h3, hr, hn', hlow, hacc, hm⟩
  simp only at h0 h3 hr hn' hlow
  have hal : acc.length ≤ 10 := by rw [← hacc, List.length_append] at hl; omega
  by_cases h : m < 128
  · repeat (first | apply go_nil | apply go_kreg | apply go_kreg0 | apply go_kreg1 | (apply go_kregT; · (first | (simp [addT, CF, CFy, Ind, DisjF]; done) | (simp only [addT, CF, CFy, Ind]; repeat' (first | exact trivial | apply And.intro | exact Or.inl (by decide +kernel) | (refine Or.inr ⟨?_, ?_⟩ <;> (simp; try omega)))))) | apply go_then | apply go_then_exit | apply go_then_ret | apply go_blk | apply go_blk_ret | apply go_blk_here | (apply go_blk_there; · rfl) | apply go_seq | (apply go_region; · (simp only [List.length_cons, List.length_nil, Nat.reduceAdd, Nat.add_assoc]; rfl)) | apply go_skip | apply go_block | apply go_scope | apply go_label | apply go_exit | apply go_ret | (apply go_mut; (· assumption); · (simp (disch := omega) [go_sem, *, -List.reduceReplicate]; first | exact ⟨rfl, rfl⟩ | (simp [go_sem, *]; exact ⟨rfl, rfl⟩))) | (apply go_mutP; (· assumption); · (simp (disch := omega) [go_sem, *, -List.reduceReplicate]; try first | rfl | exact ⟨rfl, rfl⟩ | exact ⟨rfl, rfl, rfl⟩)) | (apply go_guard_in; (· rfl); · (simp (disch := omega) [go_sem, *, -List.reduceReplicate]; try first | rfl | omega)) | (apply go_guard_off; (· rfl); · (simp (disch := omega) [go_sem, *, -List.reduceReplicate]; try first | rfl | omega)) | (apply go_guard_no; (· rfl); · (simp (disch := omega) [go_sem, *, -List.reduceReplicate]; try rfl)) | ((first | apply go_move | apply go_assign | apply go_load | apply go_store | apply go_append | apply go_copy | apply go_copy0 | apply go_clear0 | apply go_slice3 | apply go_indexA); · (simp (disch := omega) [go_sem, *, -List.reduceReplicate]; try first | rfl | exact ⟨rfl, rfl⟩ | exact ⟨rfl, rfl, rfl⟩)) | ((first | apply go_loadv | apply go_append0 | apply go_beyond); · (simp (disch := omega) [go_sem, *, -List.reduceReplicate]; try first | rfl | exact ⟨rfl, rfl⟩ | exact ⟨rfl, rfl, rfl⟩)) | (apply go_appself; · (simp (disch := omega) [go_sem, *, -List.reduceReplicate]; try first | rfl | exact ⟨rfl, rfl⟩ | exact ⟨rfl, rfl, rfl⟩)) | ((first | (apply go_appendz; · rfl) | (apply go_new; · rfl) | (apply go_pure; · rfl)); · (simp (disch := omega) [go_sem, *, -List.reduceReplicate]; try first | rfl | exact ⟨rfl, rfl⟩ | exact ⟨rfl, rfl, rfl⟩)) | ((apply go_glob; · assumption); · (simp (disch := omega) [go_sem, *, -List.reduceReplicate]; try first | rfl | exact ⟨rfl, rfl⟩ | exact ⟨rfl, rfl, rfl⟩)) | (apply go_read1; (· rfl); · (simp (disch := omega) [go_sem, *, -List.reduceReplicate]; try first | rfl | exact ⟨rfl, rfl⟩ | exact ⟨rfl, rfl, rfl⟩)) | (apply go_rw1; (· rfl); · (simp (disch := omega) [go_sem, *, -List.reduceReplicate]; try first | rfl | exact ⟨rfl, rfl⟩ | exact ⟨rfl, rfl, rfl⟩)) | (apply go_new1; (· rfl); · (simp (disch := omega) [go_sem, *, -List.reduceReplicate]; try first | rfl | exact ⟨rfl, rfl⟩ | exact ⟨rfl, rfl, rfl⟩)) | (apply go_conv; · (simp (disch := omega) [go_sem, *, -List.reduceReplicate]; try first | rfl | exact ⟨rfl, rfl⟩ | exact ⟨rfl, rfl, rfl⟩)) | ((first | (apply go_new; · rfl) | (apply go_pure; · rfl)); · (simp (disch := omega) [go_sem, *, -List.reduceReplicate]; simp [go_sem, *]; try first | rfl | exact ⟨rfl, rfl⟩)))
    refine Wk ?_
    have hfin : (bs ++ leb n).map byteAV = (bs ++ acc).map byteAV ++ [.lit (.int .u8 (IntKind.u8.wrap (m : Int)))] := by
      rw [← hacc, leb_small h, ← List.append_assoc, List.map_append, List.map_cons, List.map_nil, byteAV_ofNat (by omega), IntKind.wrap_u8, Int.emod_eq_of_lt (by omega) (by omega)]
    have hlen : bs.length + (leb n).length = bs.length + acc.length + 1 := by rw [← hacc, leb_small h]; simp; omega
    rw [hfin]
    refine go_resultI (by simp (disch := omega) [go_sem, *, -List.reduceReplicate]; rfl) (AV.sub_tup (by repeat' first | exact ALe.nil | exact AV.le_refl _ | apply ALe.cons | ((first | apply AV.le_slices | apply AV.le_nilsE | apply AV.le_clipE); first | rfl | (simp (disch := omega) [go_sem, *, -List.reduceReplicate]; done)))) (by simp (disch := omega) [go_sem]; try rfl) (fun id hid => by simp (disch := omega) only [upd_ne, wr_cons, wr_nil]; try exact hlow id hid)
  · have ha : bits .and .i64 (m : Int) 127 = (m : Int) % 128 := i64_and127 _ (by omega) (by omega)
    have ho : bits .or .i64 ((m : Int) % 128) 128 = (m : Int) % 128 + 128 := i64_or128 _ (by omega) (by omega)
    have hs : (m : Int).fdiv 128 = (m : Int) / 128 := by rw [Int.fdiv_eq_ediv]; simp
    have hb : IntKind.u8.wrap ((m : Int) % 128 + 128) = (m : Int) % 128 + 128 := by rw [IntKind.wrap_u8]; omega
    have hbv : byteAV (u8 (m % 128 + 128)) = .lit (.int .u8 ((m : Int) % 128 + 128)) := by rw [byteAV_ofNat (by omega)]; simp
    refine Wk ?_
    refine ⟨⟨m / 128, acc ++ [u8 (m % 128 + 128)], by simp (disch := omega) [go_sem, *, -List.reduceReplicate], by simp (disch := omega) [go_sem, *, -List.reduceReplicate], by simp (disch := omega) [go_sem, *, -List.reduceReplicate]; omega, by simp only; omega, (fun id hid => by simp (disch := omega) only [upd_ne, wr_cons, wr_nil]; try exact hlow id hid), by rw [← hacc, leb_big h]; simp, by omega⟩, ?_⟩
    simp (disch := omega) [go_sem, *, -List.reduceReplicate]
    omega
end Go.Proofs.Ytmhehlfocfhpkaa

/- Shared: the number at the beginning of bytes: varint.Read, the specified reading, plain laws. -/
namespace Go.Proofs.Ytmhehlfocfhpkaa
open Go.Ab
attribute [local irreducible] Go.Ab.tyAV Go.Ab.aw Go.Ab.aops Go.Ab.kReg Go.Ab.aThen Go.Ab.aBlk Go.Ab.acond Go.Ab.aguard Go.Ab.astep Go.Ab.AStepX Go.Ab.aRet

def leadF : Nat → List UInt8 → Nat
  | 0, _ => 0
  | _ + 1, [] => 0
  | f + 1, x :: r => if 128 ≤ x.toNat then leadF f r + 1 else 0
def lead (b : List UInt8) : Nat := leadF 7 b
/-- The value of the first groups. -/
def vl (b : List UInt8) : Nat → Nat
  | 0 => 0
  | j + 1 => vl b j + (b.getD j 0).toNat % 128 * 128 ^ j
def rdS (b : List UInt8) : Nat × Nat × Nat :=
  if lead b = 7 then (0, 0, 5) else if lead b = b.length then (0, 0, 3) else if 0 < lead b ∧ (b.getD (lead b) 0).toNat = 0 then (0, 0, 5) else
    if 281474976710656 < vl b (lead b + 1) then (0, 0, 1) else (vl b (lead b + 1), lead b + 1, 0)
def rdAV (r : Nat × Nat × Nat) : AV := .tup [.lit (.int .i64 r.1), .lit (.int .i64 r.2.1), .lit (.int .i64 r.2.2)]

theorem leadF_le : ∀ (f : Nat) (b : List UInt8), leadF f b ≤ f ∧ leadF f b ≤ b.length
  | 0, b => by simp [leadF]
  | f + 1, [] => by simp [leadF]
  | f + 1, x :: r => by
    have := leadF_le f r
    simp only [leadF]
    split <;> simp <;> omega
theorem leadF_lt : ∀ (f : Nat) (b : List UInt8) (i : Nat), i < leadF f b → ∃ x, b[i]? = some x ∧ 128 ≤ x.toNat
  | 0, b, i, h => by simp [leadF] at h
  | f + 1, [], i, h => by simp [leadF] at h
  | f + 1, x :: r, i, h => by
    simp only [leadF] at h
    split at h
    · cases i with
      | zero => exact ⟨x, rfl, by assumption⟩
      | succ i => exact leadF_lt f r i (by omega)
    · omega
theorem leadF_at : ∀ (f : Nat) (b : List UInt8), leadF f b < f → leadF f b < b.length → ∃ x, b[leadF f b]? = some x ∧ x.toNat < 128
  | 0, b, h, _ => by omega
  | f + 1, [], _, h => by simp at h
  | f + 1, x :: r, h, h' => by
    simp only [leadF] at h h' ⊢
    split at h
    · rename_i hx
      rw [if_pos hx] at h' ⊢
      obtain ⟨y, h1, h2⟩ := leadF_at f r (by omega) (by simpa using h')
      exact ⟨y, by simpa using h1, h2⟩
    · rename_i hx
      rw [if_neg hx]
      exact ⟨x, rfl, by omega⟩
theorem vl_lt (b : List UInt8) : ∀ j, vl b j < 128 ^ j
  | 0 => by simp [vl]
  | j + 1 => by
    have h := vl_lt b j
    have h2 : (b.getD j 0).toNat % 128 ≤ 127 := by omega
    have h3 := Nat.mul_le_mul_right (128 ^ j) h2
    simp only [vl, Nat.pow_succ]
    omega
theorem or_join (i : Nat) (a y : Nat) (ha : a < 2 ^ i) (hy : y % 2 ^ i = 0) (h1 : a < 9223372036854775808) (h2 : y < 9223372036854775808) : bits .or .i64 (a : Int) (y : Int) = ((a + y : Nat) : Int) := by
  have h := bits_join .i64 63 (by decide) (fun n a b => wrap_i64 (by omega) (by omega)) i (y : Int) (a : Int) (by omega) (by exact_mod_cast hy) (by omega) (by omega) (by exact_mod_cast ha) (by omega)
  have c : bits .or .i64 (a : Int) (y : Int) = bits .or .i64 (y : Int) (a : Int) := by simp [bits, BitVec.or_comm]
  rw [c, h]; omega

theorem rd_pow (x : UInt8) (u : Nat) (hu : u < 7) : x.toNat % 128 * 128 ^ u < 4611686018427387904 ∧ ((x.toNat % 128 * 128 ^ u : Nat) : Int) = (x.toNat : Int) % 128 * 2 ^ (7 * u) := by
  have hp : (128 : Nat) ^ u = 2 ^ (7 * u) := by rw [Nat.pow_mul]
  have hpl : 128 ^ u ≤ 128 ^ 6 := Nat.pow_le_pow_right (by omega) (by omega)
  have hsm : x.toNat % 128 * 128 ^ u ≤ 127 * 128 ^ 6 := Nat.mul_le_mul (by omega) hpl
  refine ⟨by omega, ?_⟩
  rw [hp, Int.natCast_mul, Int.natCast_pow, Int.natCast_emod]
  rfl
theorem rd_sh (x : UInt8) (u : Nat) (hu : u < 7) : IntKind.i64.wrap ((x.toNat : Int) % 128 * 2 ^ (7 * u)) = (x.toNat : Int) % 128 * 2 ^ (7 * u) := by
  obtain ⟨h1, h2⟩ := rd_pow x u hu
  rw [← h2, wrap_i64 (by omega) (by omega)]
theorem rd_or (b : List UInt8) (x : UInt8) (u : Nat) (hu : u < 7) (hx : b.getD u 0 = x) : bits .or .i64 (vl b u : Int) ((x.toNat : Int) % 128 * 2 ^ (7 * u)) = ((vl b (u + 1) : Nat) : Int) ∧ vl b (u + 1) < 9223372036854775808 := by
  obtain ⟨h1, h2⟩ := rd_pow x u hu
  have hv := vl_lt b u
  have hpl : 128 ^ u ≤ 128 ^ 6 := Nat.pow_le_pow_right (by omega) (by omega)
  have hvs : vl b (u + 1) = vl b u + x.toNat % 128 * 128 ^ u := by simp only [vl, hx]
  have hp : (128 : Nat) ^ u = 2 ^ (7 * u) := by rw [Nat.pow_mul]
  refine ⟨?_, by omega⟩
  rw [← h2, hvs]
  exact or_join (7 * u) _ _ (by rw [← hp]; exact hv) (by rw [hp]; exact Nat.mul_mod_left _ _) (by omega) (by omega)

set_option maxRecDepth 100000 in
theorem Read_spec (b : List UInt8) (hb : b.length ≤ 100000000) (k : Nat) : ACall Try.prog 24 [.slice none (b.map byteAV)] k [] (rdAV (rdS b)) [] := by
  refine ACall.of_body mixed Try.func24 rfl (by kernel_rfl) Try.ntmps24 (by kernel_rfl) rfl (by simp) (by simp) (by simp) fun σ N hp hpn hk hkn hfree => ?_
  repeat (first | apply go_nil | apply go_kreg | apply go_kreg0 | apply go_kreg1 | (apply go_kregT; · (first | (simp [addT, CF, CFy, Ind, DisjF]; done) | (simp only [addT, CF, CFy, Ind]; repeat' (first | exact trivial | apply And.intro | exact Or.inl (by decide +kernel) | (refine Or.inr ⟨?_, ?_⟩ <;> (simp; try omega)))))) | apply go_then | apply go_then_exit | apply go_then_ret | apply go_blk | apply go_blk_ret | apply go_blk_here | (apply go_blk_there; · rfl) | apply go_seq | (apply go_region; · (simp only [List.length_cons, List.length_nil, Nat.reduceAdd, Nat.add_assoc]; rfl)) | apply go_skip | apply go_block | apply go_scope | apply go_label | apply go_exit | apply go_ret | (apply go_mut; (· assumption); · (simp (disch := omega) [go_sem, *, -List.reduceReplicate]; first | exact ⟨rfl, rfl⟩ | (simp [go_sem, *]; exact ⟨rfl, rfl⟩))) | (apply go_mutP; (· assumption); · (simp (disch := omega) [go_sem, *, -List.reduceReplicate]; try first | rfl | exact ⟨rfl, rfl⟩ | exact ⟨rfl, rfl, rfl⟩)) | (apply go_guard_in; (· rfl); · (simp (disch := omega) [go_sem, *, -List.reduceReplicate]; try first | rfl | omega)) | (apply go_guard_off; (· rfl); · (simp (disch := omega) [go_sem, *, -List.reduceReplicate]; try first | rfl | omega)) | (apply go_guard_no; (· rfl); · (simp (disch := omega) [go_sem, *, -List.reduceReplicate]; try rfl)) | ((first | apply go_move | apply go_assign | apply go_load | apply go_store | apply go_append | apply go_copy | apply go_copy0 | apply go_clear0 | apply go_slice3 | apply go_indexA); · (simp (disch := omega) [go_sem, *, -List.reduceReplicate]; try first | rfl | exact ⟨rfl, rfl⟩ | exact ⟨rfl, rfl, rfl⟩)) | ((first | apply go_loadv | apply go_append0 | apply go_beyond); · (simp (disch := omega) [go_sem, *, -List.reduceReplicate]; try first | rfl | exact ⟨rfl, rfl⟩ | exact ⟨rfl, rfl, rfl⟩)) | (apply go_appself; · (simp (disch := omega) [go_sem, *, -List.reduceReplicate]; try first | rfl | exact ⟨rfl, rfl⟩ | exact ⟨rfl, rfl, rfl⟩)) | ((first | (apply go_appendz; · rfl) | (apply go_new; · rfl) | (apply go_pure; · rfl)); · (simp (disch := omega) [go_sem, *, -List.reduceReplicate]; try first | rfl | exact ⟨rfl, rfl⟩ | exact ⟨rfl, rfl, rfl⟩)) | ((apply go_glob; · assumption); · (simp (disch := omega) [go_sem, *, -List.reduceReplicate]; try first | rfl | exact ⟨rfl, rfl⟩ | exact ⟨rfl, rfl, rfl⟩)) | (apply go_read1; (· rfl); · (simp (disch := omega) [go_sem, *, -List.reduceReplicate]; try first | rfl | exact ⟨rfl, rfl⟩ | exact ⟨rfl, rfl, rfl⟩)) | (apply go_rw1; (· rfl); · (simp (disch := omega) [go_sem, *, -List.reduceReplicate]; try first | rfl | exact ⟨rfl, rfl⟩ | exact ⟨rfl, rfl, rfl⟩)) | (apply go_new1; (· rfl); · (simp (disch := omega) [go_sem, *, -List.reduceReplicate]; try first | rfl | exact ⟨rfl, rfl⟩ | exact ⟨rfl, rfl, rfl⟩)) | (apply go_conv; · (simp (disch := omega) [go_sem, *, -List.reduceReplicate]; try first | rfl | exact ⟨rfl, rfl⟩ | exact ⟨rfl, rfl, rfl⟩)) | ((first | (apply go_new; · rfl) | (apply go_pure; · rfl)); · (simp (disch := omega) [go_sem, *, -List.reduceReplicate]; simp [go_sem, *]; try first | rfl | exact ⟨rfl, rfl⟩)))
  refine go_loop (aloop mixed (by kernel_rfl) (fun c => ∃ (u : Nat), c.s 0 = .slice none (b.map byteAV) ∧ c.s 5 = .lit (.int .i64 (vl b u)) ∧ c.s 6 = .lit (.int .i64 u) ∧ (∀ id, id < N → c.σ id = σ id) ∧ N ≤ c.n ∧ u ≤ lead b)
    (fun c => match c.s 6 with | .lit (.int _ m) => 7 - m.toNat | _ => 0) ⟨0, by simp (disch := omega) [go_sem, *, -List.reduceReplicate], by simp (disch := omega) [go_sem, *, -List.reduceReplicate]; rfl, by simp (disch := omega) [go_sem, *, -List.reduceReplicate], (fun id hid => by simp (disch := omega) only [upd_ne, wr_cons, wr_nil]; try exact hlow id hid), by simp only; omega, by omega⟩ ?_)
  rintro ⟨s, σ', n'⟩ ⟨u, h0, h5, h6, hlow, hn', hu⟩
  simp only at h0 h5 h6 hlow hn'
  have hle := leadF_le 7 b
  by_cases h7 : u = 7
  · subst h7
    have hr : rdS b = (0, 0, 5) := by simp [rdS, show lead b = 7 from by unfold lead at hu ⊢; omega]
    rw [hr]
    repeat (first | apply go_nil | apply go_kreg | apply go_kreg0 | apply go_kreg1 | (apply go_kregT; · (first | (simp [addT, CF, CFy, Ind, DisjF]; done) | (simp only [addT, CF, CFy, Ind]; repeat' (first | exact trivial | apply And.intro | exact Or.inl (by decide +kernel) | (refine Or.inr ⟨?_, ?_⟩ <;> (simp; try omega)))))) | apply go_then | apply go_then_exit | apply go_then_ret | apply go_blk | apply go_blk_ret | apply go_blk_here | (apply go_blk_there; · rfl) | apply go_seq | (apply go_region; · (simp only [List.length_cons, List.length_nil, Nat.reduceAdd, Nat.add_assoc]; rfl)) | apply go_skip | apply go_block | apply go_scope | apply go_label | apply go_exit | apply go_ret | (apply go_mut; (· assumption); · (simp (disch := omega) [go_sem, *, -List.reduceReplicate]; first | exact ⟨rfl, rfl⟩ | (simp [go_sem, *]; exact ⟨rfl, rfl⟩))) | (apply go_mutP; (· assumption); · (simp (disch := omega) [go_sem, *, -List.reduceReplicate]; try first | rfl | exact ⟨rfl, rfl⟩ | exact ⟨rfl, rfl, rfl⟩)) | (apply go_guard_in; (· rfl); · (simp (disch := omega) [go_sem, *, -List.reduceReplicate]; try first | rfl | omega)) | (apply go_guard_off; (· rfl); · (simp (disch := omega) [go_sem, *, -List.reduceReplicate]; try first | rfl | omega)) | (apply go_guard_no; (· rfl); · (simp (disch := omega) [go_sem, *, -List.reduceReplicate]; try rfl)) | ((first | apply go_move | apply go_assign | apply go_load | apply go_store | apply go_append | apply go_copy | apply go_copy0 | apply go_clear0 | apply go_slice3 | apply go_indexA); · (simp (disch := omega) [go_sem, *, -List.reduceReplicate]; try first | rfl | exact ⟨rfl, rfl⟩ | exact ⟨rfl, rfl, rfl⟩)) | ((first | apply go_loadv | apply go_append0 | apply go_beyond); · (simp (disch := omega) [go_sem, *, -List.reduceReplicate]; try first | rfl | exact ⟨rfl, rfl⟩ | exact ⟨rfl, rfl, rfl⟩)) | (apply go_appself; · (simp (disch := omega) [go_sem, *, -List.reduceReplicate]; try first | rfl | exact ⟨rfl, rfl⟩ | exact ⟨rfl, rfl, rfl⟩)) | ((first | (apply go_appendz; · rfl) | (apply go_new; · rfl) | (apply go_pure; · rfl)); · (simp (disch := omega) [go_sem, *, -List.reduceReplicate]; try first | rfl | exact ⟨rfl, rfl⟩ | exact ⟨rfl, rfl, rfl⟩)) | ((apply go_glob; · assumption); · (simp (disch := omega) [go_sem, *, -List.reduceReplicate]; try first | rfl | exact ⟨rfl, rfl⟩ | exact ⟨rfl, rfl, rfl⟩)) | (apply go_read1; (· rfl); · (simp (disch := omega) [go_sem, *, -List.reduceReplicate]; try first | rfl | exact ⟨rfl, rfl⟩ | exact ⟨rfl, rfl, rfl⟩)) | (apply go_rw1; (· rfl); · (simp (disch := omega) [go_sem, *, -List.reduceReplicate]; try first | rfl | exact ⟨rfl, rfl⟩ | exact ⟨rfl, rfl, rfl⟩)) | (apply go_new1; (· rfl); · (simp (disch := omega) [go_sem, *, -List.reduceReplicate]; try first | rfl | exact ⟨rfl, rfl⟩ | exact ⟨rfl, rfl, rfl⟩)) | (apply go_conv; · (simp (disch := omega) [go_sem, *, -List.reduceReplicate]; try first | rfl | exact ⟨rfl, rfl⟩ | exact ⟨rfl, rfl, rfl⟩)) | ((first | (apply go_new; · rfl) | (apply go_pure; · rfl)); · (simp (disch := omega) [go_sem, *, -List.reduceReplicate]; simp [go_sem, *]; try first | rfl | exact ⟨rfl, rfl⟩)))
    refine go_condT (by simp (disch := omega) [go_sem, *, -List.reduceReplicate]; try first | rfl | omega) ?_
    repeat (first | apply go_nil | apply go_kreg | apply go_kreg0 | apply go_kreg1 | (apply go_kregT; · (first | (simp [addT, CF, CFy, Ind, DisjF]; done) | (simp only [addT, CF, CFy, Ind]; repeat' (first | exact trivial | apply And.intro | exact Or.inl (by decide +kernel) | (refine Or.inr ⟨?_, ?_⟩ <;> (simp; try omega)))))) | apply go_then | apply go_then_exit | apply go_then_ret | apply go_blk | apply go_blk_ret | apply go_blk_here | (apply go_blk_there; · rfl) | apply go_seq | (apply go_region; · (simp only [List.length_cons, List.length_nil, Nat.reduceAdd, Nat.add_assoc]; rfl)) | apply go_skip | apply go_block | apply go_scope | apply go_label | apply go_exit | apply go_ret | (apply go_mut; (· assumption); · (simp (disch := omega) [go_sem, *, -List.reduceReplicate]; first | exact ⟨rfl, rfl⟩ | (simp [go_sem, *]; exact ⟨rfl, rfl⟩))) | (apply go_mutP; (· assumption); · (simp (disch := omega) [go_sem, *, -List.reduceReplicate]; try first | rfl | exact ⟨rfl, rfl⟩ | exact ⟨rfl, rfl, rfl⟩)) | (apply go_guard_in; (· rfl); · (simp (disch := omega) [go_sem, *, -List.reduceReplicate]; try first | rfl | omega)) | (apply go_guard_off; (· rfl); · (simp (disch := omega) [go_sem, *, -List.reduceReplicate]; try first | rfl | omega)) | (apply go_guard_no; (· rfl); · (simp (disch := omega) [go_sem, *, -List.reduceReplicate]; try rfl)) | ((first | apply go_move | apply go_assign | apply go_load | apply go_store | apply go_append | apply go_copy | apply go_copy0 | apply go_clear0 | apply go_slice3 | apply go_indexA); · (simp (disch := omega) [go_sem, *, -List.reduceReplicate]; try first | rfl | exact ⟨rfl, rfl⟩ | exact ⟨rfl, rfl, rfl⟩)) | ((first | apply go_loadv | apply go_append0 | apply go_beyond); · (simp (disch := omega) [go_sem, *, -List.reduceReplicate]; try first | rfl | exact ⟨rfl, rfl⟩ | exact ⟨rfl, rfl, rfl⟩)) | (apply go_appself; · (simp (disch := omega) [go_sem, *, -List.reduceReplicate]; try first | rfl | exact ⟨rfl, rfl⟩ | exact ⟨rfl, rfl, rfl⟩)) | ((first | (apply go_appendz; · rfl) | (apply go_new; · rfl) | (apply go_pure; · rfl)); · (simp (disch := omega) [go_sem, *, -List.reduceReplicate]; try first | rfl | exact ⟨rfl, rfl⟩ | exact ⟨rfl, rfl, rfl⟩)) | ((apply go_glob; · assumption); · (simp (disch := omega) [go_sem, *, -List.reduceReplicate]; try first | rfl | exact ⟨rfl, rfl⟩ | exact ⟨rfl, rfl, rfl⟩)) | (apply go_read1; (· rfl); · (simp (disch := omega) [go_sem, *, -List.reduceReplicate]; try first | rfl | exact ⟨rfl, rfl⟩ | exact ⟨rfl, rfl, rfl⟩)) | (apply go_rw1; (· rfl); · (simp (disch := omega) [go_sem, *, -List.reduceReplicate]; try first | rfl | exact ⟨rfl, rfl⟩ | exact ⟨rfl, rfl, rfl⟩)) | (apply go_new1; (· rfl); · (simp (disch := omega) [go_sem, *, -List.reduceReplicate]; try first | rfl | exact ⟨rfl, rfl⟩ | exact ⟨rfl, rfl, rfl⟩)) | (apply go_conv; · (simp (disch := omega) [go_sem, *, -List.reduceReplicate]; try first | rfl | exact ⟨rfl, rfl⟩ | exact ⟨rfl, rfl, rfl⟩)) | ((first | (apply go_new; · rfl) | (apply go_pure; · rfl)); · (simp (disch := omega) [go_sem, *, -List.reduceReplicate]; simp [go_sem, *]; try first | rfl | exact ⟨rfl, rfl⟩)))
    refine go_result (by simp (disch := omega) [go_sem, *, -List.reduceReplicate]; rfl) (by simp (disch := omega) [go_sem]; try rfl) (fun id hid => by simp (disch := omega) only [upd_ne, wr_cons, wr_nil]; try exact hlow id hid)
  · by_cases hlen : u = b.length
    · have hr : rdS b = (0, 0, 3) := by
        have : lead b = b.length := by unfold lead at hu ⊢; omega
        simp [rdS, this, ← hlen, h7]
      rw [hr]
      repeat (first | apply go_nil | apply go_kreg | apply go_kreg0 | apply go_kreg1 | (apply go_kregT; · (first | (simp [addT, CF, CFy, Ind, DisjF]; done) | (simp only [addT, CF, CFy, Ind]; repeat' (first | exact trivial | apply And.intro | exact Or.inl (by decide +kernel) | (refine Or.inr ⟨?_, ?_⟩ <;> (simp; try omega)))))) | apply go_then | apply go_then_exit | apply go_then_ret | apply go_blk | apply go_blk_ret | apply go_blk_here | (apply go_blk_there; · rfl) | apply go_seq | (apply go_region; · (simp only [List.length_cons, List.length_nil, Nat.reduceAdd, Nat.add_assoc]; rfl)) | apply go_skip | apply go_block | apply go_scope | apply go_label | apply go_exit | apply go_ret | (apply go_mut; (· assumption); · (simp (disch := omega) [go_sem, *, -List.reduceReplicate]; first | exact ⟨rfl, rfl⟩ | (simp [go_sem, *]; exact ⟨rfl, rfl⟩))) | (apply go_mutP; (· assumption); · (simp (disch := omega) [go_sem, *, -List.reduceReplicate]; try first | rfl | exact ⟨rfl, rfl⟩ | exact ⟨rfl, rfl, rfl⟩)) | (apply go_guard_in; (· rfl); · (simp (disch := omega) [go_sem, *, -List.reduceReplicate]; try first | rfl | omega)) | (apply go_guard_off; (· rfl); · (simp (disch := omega) [go_sem, *, -List.reduceReplicate]; try first | rfl | omega)) | (apply go_guard_no; (· rfl); · (simp (disch := omega) [go_sem, *, -List.reduceReplicate]; try rfl)) | ((first | apply go_move | apply go_assign | apply go_load | apply go_store | apply go_append | apply go_copy | apply go_copy0 | apply go_clear0 | apply go_slice3 | apply go_indexA); · (simp (disch := omega) [go_sem, *, -List.reduceReplicate]; try first | rfl | exact ⟨rfl, rfl⟩ | exact ⟨rfl, rfl, rfl⟩)) | ((first | apply go_loadv | apply go_append0 | apply go_beyond); · (simp (disch := omega) [go_sem, *, -List.reduceReplicate]; try first | rfl | exact ⟨rfl, rfl⟩ | exact ⟨rfl, rfl, rfl⟩)) | (apply go_appself; · (simp (disch := omega) [go_sem, *, -List.reduceReplicate]; try first | rfl | exact ⟨rfl, rfl⟩ | exact ⟨rfl, rfl, rfl⟩)) | ((first | (apply go_appendz; · rfl) | (apply go_new; · rfl) | (apply go_pure; · rfl)); · (simp (disch := omega) [go_sem, *, -List.reduceReplicate]; try first | rfl | exact ⟨rfl, rfl⟩ | exact ⟨rfl, rfl, rfl⟩)) | ((apply go_glob; · assumption); · (simp (disch := omega) [go_sem, *, -List.reduceReplicate]; try first | rfl | exact ⟨rfl, rfl⟩ | exact ⟨rfl, rfl, rfl⟩)) | (apply go_read1; (· rfl); · (simp (disch := omega) [go_sem, *, -List.reduceReplicate]; try first | rfl | exact ⟨rfl, rfl⟩ | exact ⟨rfl, rfl, rfl⟩)) | (apply go_rw1; (· rfl); · (simp (disch := omega) [go_sem, *, -List.reduceReplicate]; try first | rfl | exact ⟨rfl, rfl⟩ | exact ⟨rfl, rfl, rfl⟩)) | (apply go_new1; (· rfl); · (simp (disch := omega) [go_sem, *, -List.reduceReplicate]; try first | rfl | exact ⟨rfl, rfl⟩ | exact ⟨rfl, rfl, rfl⟩)) | (apply go_conv; · (simp (disch := omega) [go_sem, *, -List.reduceReplicate]; try first | rfl | exact ⟨rfl, rfl⟩ | exact ⟨rfl, rfl, rfl⟩)) | ((first | (apply go_new; · rfl) | (apply go_pure; · rfl)); · (simp (disch := omega) [go_sem, *, -List.reduceReplicate]; simp [go_sem, *]; try first | rfl | exact ⟨rfl, rfl⟩)))
      refine go_condF (by simp (disch := omega) [go_sem, *, -List.reduceReplicate]; try first | rfl | omega) ?_
      repeat (first | apply go_nil | apply go_kreg | apply go_kreg0 | apply go_kreg1 | (apply go_kregT; · (first | (simp [addT, CF, CFy, Ind, DisjF]; done) | (simp only [addT, CF, CFy, Ind]; repeat' (first | exact trivial | apply And.intro | exact Or.inl (by decide +kernel) | (refine Or.inr ⟨?_, ?_⟩ <;> (simp; try omega)))))) | apply go_then | apply go_then_exit | apply go_then_ret | apply go_blk | apply go_blk_ret | apply go_blk_here | (apply go_blk_there; · rfl) | apply go_seq | (apply go_region; · (simp only [List.length_cons, List.length_nil, Nat.reduceAdd, Nat.add_assoc]; rfl)) | apply go_skip | apply go_block | apply go_scope | apply go_label | apply go_exit | apply go_ret | (apply go_mut; (· assumption); · (simp (disch := omega) [go_sem, *, -List.reduceReplicate]; first | exact ⟨rfl, rfl⟩ | (simp [go_sem, *]; exact ⟨rfl, rfl⟩))) | (apply go_mutP; (· assumption); · (simp (disch := omega) [go_sem, *, -List.reduceReplicate]; try first | rfl | exact ⟨rfl, rfl⟩ | exact ⟨rfl, rfl, rfl⟩)) | (apply go_guard_in; (· rfl); · (simp (disch := omega) [go_sem, *, -List.reduceReplicate]; try first | rfl | omega)) | (apply go_guard_off; (· rfl); · (simp (disch := omega) [go_sem, *, -List.reduceReplicate]; try first | rfl | omega)) | (apply go_guard_no; (· rfl); · (simp (disch := omega) [go_sem, *, -List.reduceReplicate]; try rfl)) | ((first | apply go_move | apply go_assign | apply go_load | apply go_store | apply go_append | apply go_copy | apply go_copy0 | apply go_clear0 | apply go_slice3 | apply go_indexA); · (simp (disch := omega) [go_sem, *, -List.reduceReplicate]; try first | rfl | exact ⟨rfl, rfl⟩ | exact ⟨rfl, rfl, rfl⟩)) | ((first | apply go_loadv | apply go_append0 | apply go_beyond); · (simp (disch := omega) [go_sem, *, -List.reduceReplicate]; try first | rfl | exact ⟨rfl, rfl⟩ | exact ⟨rfl, rfl, rfl⟩)) | (apply go_appself; · (simp (disch := omega) [go_sem, *, -List.reduceReplicate]; try first | rfl | exact ⟨rfl, rfl⟩ | exact ⟨rfl, rfl, rfl⟩)) | ((first | (apply go_appendz; · rfl) | (apply go_new; · rfl) | (apply go_pure; · rfl)); · (simp (disch := omega) [go_sem, *, -List.reduceReplicate]; try first | rfl | exact ⟨rfl, rfl⟩ | exact ⟨rfl, rfl, rfl⟩)) | ((apply go_glob; · assumption); · (simp (disch := omega) [go_sem, *, -List.reduceReplicate]; try first | rfl | exact ⟨rfl, rfl⟩ | exact ⟨rfl, rfl, rfl⟩)) | (apply go_read1; (· rfl); · (simp (disch := omega) [go_sem, *, -List.reduceReplicate]; try first | rfl | exact ⟨rfl, rfl⟩ | exact ⟨rfl, rfl, rfl⟩)) | (apply go_rw1; (· rfl); · (simp (disch := omega) [go_sem, *, -List.reduceReplicate]; try first | rfl | exact ⟨rfl, rfl⟩ | exact ⟨rfl, rfl, rfl⟩)) | (apply go_new1; (· rfl); · (simp (disch := omega) [go_sem, *, -List.reduceReplicate]; try first | rfl | exact ⟨rfl, rfl⟩ | exact ⟨rfl, rfl, rfl⟩)) | (apply go_conv; · (simp (disch := omega) [go_sem, *, -List.reduceReplicate]; try first | rfl | exact ⟨rfl, rfl⟩ | exact ⟨rfl, rfl, rfl⟩)) | ((first | (apply go_new; · rfl) | (apply go_pure; · rfl)); · (simp (disch := omega) [go_sem, *, -List.reduceReplicate]; simp [go_sem, *]; try first | rfl | exact ⟨rfl, rfl⟩)))
      refine go_condT (by simp (disch := omega) [go_sem, *, -List.reduceReplicate]; try first | rfl | omega) ?_
      repeat (first | apply go_nil | apply go_kreg | apply go_kreg0 | apply go_kreg1 | (apply go_kregT; · (first | (simp [addT, CF, CFy, Ind, DisjF]; done) | (simp only [addT, CF, CFy, Ind]; repeat' (first | exact trivial | apply And.intro | exact Or.inl (by decide +kernel) | (refine Or.inr ⟨?_, ?_⟩ <;> (simp; try omega)))))) | apply go_then | apply go_then_exit | apply go_then_ret | apply go_blk | apply go_blk_ret | apply go_blk_here | (apply go_blk_there; · rfl) | apply go_seq | (apply go_region; · (simp only [List.length_cons, List.length_nil, Nat.reduceAdd, Nat.add_assoc]; rfl)) | apply go_skip | apply go_block | apply go_scope | apply go_label | apply go_exit | apply go_ret | (apply go_mut; (· assumption); · (simp (disch := omega) [go_sem, *, -List.reduceReplicate]; first | exact ⟨rfl, rfl⟩ | (simp [go_sem, *]; exact ⟨rfl, rfl⟩))) | (apply go_mutP; (· assumption); · (simp (disch := omega) [go_sem, *, -List.reduceReplicate]; try first | rfl | exact ⟨rfl, rfl⟩ | exact ⟨rfl, rfl, rfl⟩)) | (apply go_guard_in; (· rfl); · (simp (disch := omega) [go_sem, *, -List.reduceReplicate]; try first | rfl | omega)) | (apply go_guard_off; (· rfl); · (simp (disch := omega) [go_sem, *, -List.reduceReplicate]; try first | rfl | omega)) | (apply go_guard_no; (· rfl); · (simp (disch := omega) [go_sem, *, -List.reduceReplicate]; try rfl)) | ((first | apply go_move | apply go_assign | apply go_load | apply go_store | apply go_append | apply go_copy | apply go_copy0 | apply go_clear0 | apply go_slice3 | apply go_indexA); · (simp (disch := omega) [go_sem, *, -List.reduceReplicate]; try first | rfl | exact ⟨rfl, rfl⟩ | exact ⟨rfl, rfl, rfl⟩)) | ((first | apply go_loadv | apply go_append0 | apply go_beyond); · (simp (disch := omega) [go_sem, *, -List.reduceReplicate]; try first | rfl | exact ⟨rfl, rfl⟩ | exact ⟨rfl, rfl, rfl⟩)) | (apply go_appself; · (simp (disch := omega) [go_sem, *, -List.reduceReplicate]; try first | rfl | exact ⟨rfl, rfl⟩ | exact ⟨rfl, rfl, rfl⟩)) | ((first | (apply go_appendz; · rfl) | (apply go_new; · rfl) | (apply go_pure; · rfl)); · (simp (disch := omega) [go_sem, *, -List.reduceReplicate]; try first | rfl | exact ⟨rfl, rfl⟩ | exact ⟨rfl, rfl, rfl⟩)) | ((apply go_glob; · assumption); · (simp (disch := omega) [go_sem, *, -List.reduceReplicate]; try first | rfl | exact ⟨rfl, rfl⟩ | exact ⟨rfl, rfl, rfl⟩)) | (apply go_read1; (· rfl); · (simp (disch := omega) [go_sem, *, -List.reduceReplicate]; try first | rfl | exact ⟨rfl, rfl⟩ | exact ⟨rfl, rfl, rfl⟩)) | (apply go_rw1; (· rfl); · (simp (disch := omega) [go_sem, *, -List.reduceReplicate]; try first | rfl | exact ⟨rfl, rfl⟩ | exact ⟨rfl, rfl, rfl⟩)) | (apply go_new1; (· rfl); · (simp (disch := omega) [go_sem, *, -List.reduceReplicate]; try first | rfl | exact ⟨rfl, rfl⟩ | exact ⟨rfl, rfl, rfl⟩)) | (apply go_conv; · (simp (disch := omega) [go_sem, *, -List.reduceReplicate]; try first | rfl | exact ⟨rfl, rfl⟩ | exact ⟨rfl, rfl, rfl⟩)) | ((first | (apply go_new; · rfl) | (apply go_pure; · rfl)); · (simp (disch := omega) [go_sem, *, -List.reduceReplicate]; simp [go_sem, *]; try first | rfl | exact ⟨rfl, rfl⟩)))
      refine go_result (by simp (disch := omega) [go_sem, *, -List.reduceReplicate]; rfl) (by simp (disch := omega) [go_sem]; try rfl) (fun id hid => by simp (disch := omega) only [upd_ne, wr_cons, wr_nil]; try exact hlow id hid)
    · have hul : u < b.length := by unfold lead at hu; omega
      have hu7 : u < 7 := by unfold lead at hu; omega
      obtain ⟨x, hx⟩ : ∃ x, b[u] = x := ⟨_, rfl⟩
      have hxx : byteAV x = .lit (.int .u8 x.toNat) := rfl
      have hxl := x.toNat_lt
      have ha : bits .and .u8 (x.toNat : Int) 127 = (x.toNat : Int) % 128 := u8_and127 _ (by omega) (by omega)
      have hgd : b.getD u 0 = x := by rw [List.getD, List.getElem?_eq_getElem hul, hx]; rfl
      have hto : (7 * (u : Int)).toNat = 7 * u := by omega
      have hsh := rd_sh x u hu7
      obtain ⟨hor, hv1⟩ := rd_or b x u hu7 hgd
      by_cases hbig : x.toNat < 128
      · have hlead : lead b = u := by
          rcases Nat.lt_or_ge u (lead b) with h | h
          · obtain ⟨y, h1, h2⟩ := leadF_lt 7 b u h
            rw [List.getElem?_eq_getElem hul, hx] at h1
            cases h1; omega
          · omega
        repeat (first | apply go_nil | apply go_kreg | apply go_kreg0 | apply go_kreg1 | (apply go_kregT; · (first | (simp [addT, CF, CFy, Ind, DisjF]; done) | (simp only [addT, CF, CFy, Ind]; repeat' (first | exact trivial | apply And.intro | exact Or.inl (by decide +kernel) | (refine Or.inr ⟨?_, ?_⟩ <;> (simp; try omega)))))) | apply go_then | apply go_then_exit | apply go_then_ret | apply go_blk | apply go_blk_ret | apply go_blk_here | (apply go_blk_there; · rfl) | apply go_seq | (apply go_region; · (simp only [List.length_cons, List.length_nil, Nat.reduceAdd, Nat.add_assoc]; rfl)) | apply go_skip | apply go_block | apply go_scope | apply go_label | apply go_exit | apply go_ret | (apply go_mut; (· assumption); · (simp (disch := omega) [go_sem, *, -List.reduceReplicate]; first | exact ⟨rfl, rfl⟩ | (simp [go_sem, *]; exact ⟨rfl, rfl⟩))) | (apply go_mutP; (· assumption); · (simp (disch := omega) [go_sem, *, -List.reduceReplicate]; try first | rfl | exact ⟨rfl, rfl⟩ | exact ⟨rfl, rfl, rfl⟩)) | (apply go_guard_in; (· rfl); · (simp (disch := omega) [go_sem, *, -List.reduceReplicate]; try first | rfl | omega)) | (apply go_guard_off; (· rfl); · (simp (disch := omega) [go_sem, *, -List.reduceReplicate]; try first | rfl | omega)) | (apply go_guard_no; (· rfl); · (simp (disch := omega) [go_sem, *, -List.reduceReplicate]; try rfl)) | ((first | apply go_move | apply go_assign | apply go_load | apply go_store | apply go_append | apply go_copy | apply go_copy0 | apply go_clear0 | apply go_slice3 | apply go_indexA); · (simp (disch := omega) [go_sem, *, -List.reduceReplicate]; try first | rfl | exact ⟨rfl, rfl⟩ | exact ⟨rfl, rfl, rfl⟩)) | ((first | apply go_loadv | apply go_append0 | apply go_beyond); · (simp (disch := omega) [go_sem, *, -List.reduceReplicate]; try first | rfl | exact ⟨rfl, rfl⟩ | exact ⟨rfl, rfl, rfl⟩)) | (apply go_appself; · (simp (disch := omega) [go_sem, *, -List.reduceReplicate]; try first | rfl | exact ⟨rfl, rfl⟩ | exact ⟨rfl, rfl, rfl⟩)) | ((first | (apply go_appendz; · rfl) | (apply go_new; · rfl) | (apply go_pure; · rfl)); · (simp (disch := omega) [go_sem, *, -List.reduceReplicate]; try first | rfl | exact ⟨rfl, rfl⟩ | exact ⟨rfl, rfl, rfl⟩)) | ((apply go_glob; · assumption); · (simp (disch := omega) [go_sem, *, -List.reduceReplicate]; try first | rfl | exact ⟨rfl, rfl⟩ | exact ⟨rfl, rfl, rfl⟩)) | (apply go_read1; (· rfl); · (simp (disch := omega) [go_sem, *, -List.reduceReplicate]; try first | rfl | exact ⟨rfl, rfl⟩ | exact ⟨rfl, rfl, rfl⟩)) | (apply go_rw1; (· rfl); · (simp (disch := omega) [go_sem, *, -List.reduceReplicate]; try first | rfl | exact ⟨rfl, rfl⟩ | exact ⟨rfl, rfl, rfl⟩)) | (apply go_new1; (· rfl); · (simp (disch := omega) [go_sem, *, -List.reduceReplicate]; try first | rfl | exact ⟨rfl, rfl⟩ | exact ⟨rfl, rfl, rfl⟩)) | (apply go_conv; · (simp (disch := omega) [go_sem, *, -List.reduceReplicate]; try first | rfl | exact ⟨rfl, rfl⟩ | exact ⟨rfl, rfl, rfl⟩)) | ((first | (apply go_new; · rfl) | (apply go_pure; · rfl)); · (simp (disch := omega) [go_sem, *, -List.reduceReplicate]; simp [go_sem, *]; try first | rfl | exact ⟨rfl, rfl⟩)))
        refine go_condF (by simp (disch := omega) [go_sem, *, -List.reduceReplicate]; try first | rfl | omega) ?_
        repeat (first | apply go_nil | apply go_kreg | apply go_kreg0 | apply go_kreg1 | (apply go_kregT; · (first | (simp [addT, CF, CFy, Ind, DisjF]; done) | (simp only [addT, CF, CFy, Ind]; repeat' (first | exact trivial | apply And.intro | exact Or.inl (by decide +kernel) | (refine Or.inr ⟨?_, ?_⟩ <;> (simp; try omega)))))) | apply go_then | apply go_then_exit | apply go_then_ret | apply go_blk | apply go_blk_ret | apply go_blk_here | (apply go_blk_there; · rfl) | apply go_seq | (apply go_region; · (simp only [List.length_cons, List.length_nil, Nat.reduceAdd, Nat.add_assoc]; rfl)) | apply go_skip | apply go_block | apply go_scope | apply go_label | apply go_exit | apply go_ret | (apply go_mut; (· assumption); · (simp (disch := omega) [go_sem, *, -List.reduceReplicate]; first | exact ⟨rfl, rfl⟩ | (simp [go_sem, *]; exact ⟨rfl, rfl⟩))) | (apply go_mutP; (· assumption); · (simp (disch := omega) [go_sem, *, -List.reduceReplicate]; try first | rfl | exact ⟨rfl, rfl⟩ | exact ⟨rfl, rfl, rfl⟩)) | (apply go_guard_in; (· rfl); · (simp (disch := omega) [go_sem, *, -List.reduceReplicate]; try first | rfl | omega)) | (apply go_guard_off; (· rfl); · (simp (disch := omega) [go_sem, *, -List.reduceReplicate]; try first | rfl | omega)) | (apply go_guard_no; (· rfl); · (simp (disch := omega) [go_sem, *, -List.reduceReplicate]; try rfl)) | ((first | apply go_move | apply go_assign | apply go_load | apply go_store | apply go_append | apply go_copy | apply go_copy0 | apply go_clear0 | apply go_slice3 | apply go_indexA); · (simp (disch := omega) [go_sem, *, -List.reduceReplicate]; try first | rfl | exact ⟨rfl, rfl⟩ | exact ⟨rfl, rfl, rfl⟩)) | ((first | apply go_loadv | apply go_append0 | apply go_beyond); · (simp (disch := omega) [go_sem, *, -List.reduceReplicate]; try first | rfl | exact ⟨rfl, rfl⟩ | exact ⟨rfl, rfl, rfl⟩)) | (apply go_appself; · (simp (disch := omega) [go_sem, *, -List.reduceReplicate]; try first | rfl | exact ⟨rfl, rfl⟩ | exact ⟨rfl, rfl, rfl⟩)) | ((first | (apply go_appendz; · rfl) | (apply go_new; · rfl) | (apply go_pure; · rfl)); · (simp (disch := omega) [go_sem, *, -List.reduceReplicate]; try first | rfl | exact ⟨rfl, rfl⟩ | exact ⟨rfl, rfl, rfl⟩)) | ((apply go_glob; · assumption); · (simp (disch := omega) [go_sem, *, -List.reduceReplicate]; try first | rfl | exact ⟨rfl, rfl⟩ | exact ⟨rfl, rfl, rfl⟩)) | (apply go_read1; (· rfl); · (simp (disch := omega) [go_sem, *, -List.reduceReplicate]; try first | rfl | exact ⟨rfl, rfl⟩ | exact ⟨rfl, rfl, rfl⟩)) | (apply go_rw1; (· rfl); · (simp (disch := omega) [go_sem, *, -List.reduceReplicate]; try first | rfl | exact ⟨rfl, rfl⟩ | exact ⟨rfl, rfl, rfl⟩)) | (apply go_new1; (· rfl); · (simp (disch := omega) [go_sem, *, -List.reduceReplicate]; try first | rfl | exact ⟨rfl, rfl⟩ | exact ⟨rfl, rfl, rfl⟩)) | (apply go_conv; · (simp (disch := omega) [go_sem, *, -List.reduceReplicate]; try first | rfl | exact ⟨rfl, rfl⟩ | exact ⟨rfl, rfl, rfl⟩)) | ((first | (apply go_new; · rfl) | (apply go_pure; · rfl)); · (simp (disch := omega) [go_sem, *, -List.reduceReplicate]; simp [go_sem, *]; try first | rfl | exact ⟨rfl, rfl⟩)))
        refine go_condF (by simp (disch := omega) [go_sem, *, -List.reduceReplicate]; try first | rfl | omega) ?_
        repeat (first | apply go_nil | apply go_kreg | apply go_kreg0 | apply go_kreg1 | (apply go_kregT; · (first | (simp [addT, CF, CFy, Ind, DisjF]; done) | (simp only [addT, CF, CFy, Ind]; repeat' (first | exact trivial | apply And.intro | exact Or.inl (by decide +kernel) | (refine Or.inr ⟨?_, ?_⟩ <;> (simp; try omega)))))) | apply go_then | apply go_then_exit | apply go_then_ret | apply go_blk | apply go_blk_ret | apply go_blk_here | (apply go_blk_there; · rfl) | apply go_seq | (apply go_region; · (simp only [List.length_cons, List.length_nil, Nat.reduceAdd, Nat.add_assoc]; rfl)) | apply go_skip | apply go_block | apply go_scope | apply go_label | apply go_exit | apply go_ret | (apply go_mut; (· assumption); · (simp (disch := omega) [go_sem, *, -List.reduceReplicate]; first | exact ⟨rfl, rfl⟩ | (simp [go_sem, *]; exact ⟨rfl, rfl⟩))) | (apply go_mutP; (· assumption); · (simp (disch := omega) [go_sem, *, -List.reduceReplicate]; try first | rfl | exact ⟨rfl, rfl⟩ | exact ⟨rfl, rfl, rfl⟩)) | (apply go_guard_in; (· rfl); · (simp (disch := omega) [go_sem, *, -List.reduceReplicate]; try first | rfl | omega)) | (apply go_guard_off; (· rfl); · (simp (disch := omega) [go_sem, *, -List.reduceReplicate]; try first | rfl | omega)) | (apply go_guard_no; (· rfl); · (simp (disch := omega) [go_sem, *, -List.reduceReplicate]; try rfl)) | ((first | apply go_move | apply go_assign | apply go_load | apply go_store | apply go_append | apply go_copy | apply go_copy0 | apply go_clear0 | apply go_slice3 | apply go_indexA); · (simp (disch := omega) [go_sem, *, -List.reduceReplicate]; try first | rfl | exact ⟨rfl, rfl⟩ | exact ⟨rfl, rfl, rfl⟩)) | ((first | apply go_loadv | apply go_append0 | apply go_beyond); · (simp (disch := omega) [go_sem, *, -List.reduceReplicate]; try first | rfl | exact ⟨rfl, rfl⟩ | exact ⟨rfl, rfl, rfl⟩)) | (apply go_appself; · (simp (disch := omega) [go_sem, *, -List.reduceReplicate]; try first | rfl | exact ⟨rfl, rfl⟩ | exact ⟨rfl, rfl, rfl⟩)) | ((first | (apply go_appendz; · rfl) | (apply go_new; · rfl) | (apply go_pure; · rfl)); · (simp (disch := omega) [go_sem, *, -List.reduceReplicate]; try first | rfl | exact ⟨rfl, rfl⟩ | exact ⟨rfl, rfl, rfl⟩)) | ((apply go_glob; · assumption); · (simp (disch := omega) [go_sem, *, -List.reduceReplicate]; try first | rfl | exact ⟨rfl, rfl⟩ | exact ⟨rfl, rfl, rfl⟩)) | (apply go_read1; (· rfl); · (simp (disch := omega) [go_sem, *, -List.reduceReplicate]; try first | rfl | exact ⟨rfl, rfl⟩ | exact ⟨rfl, rfl, rfl⟩)) | (apply go_rw1; (· rfl); · (simp (disch := omega) [go_sem, *, -List.reduceReplicate]; try first | rfl | exact ⟨rfl, rfl⟩ | exact ⟨rfl, rfl, rfl⟩)) | (apply go_new1; (· rfl); · (simp (disch := omega) [go_sem, *, -List.reduceReplicate]; try first | rfl | exact ⟨rfl, rfl⟩ | exact ⟨rfl, rfl, rfl⟩)) | (apply go_conv; · (simp (disch := omega) [go_sem, *, -List.reduceReplicate]; try first | rfl | exact ⟨rfl, rfl⟩ | exact ⟨rfl, rfl, rfl⟩)) | ((first | (apply go_new; · rfl) | (apply go_pure; · rfl)); · (simp (disch := omega) [go_sem, *, -List.reduceReplicate]; simp [go_sem, *]; try first | rfl | exact ⟨rfl, rfl⟩)))
        refine go_cut [0, 5, 6, 33] fun s hcut => ?_
        have k0 := hcut 0 (by simp)
        have k5 := hcut 5 (by simp)
        have k6 := hcut 6 (by simp)
        have k33 := hcut 33 (by simp)
        simp (disch := omega) [go_sem, *] at k0 k5 k6 k33
        clear hcut h0 h5 h6
        refine go_condT (by simp (disch := omega) [go_sem, *, -List.reduceReplicate]; try first | rfl | omega) ?_
        have hlr : ∀ r, (if 0 < u ∧ x.toNat = 0 then (0, 0, 5) else if 281474976710656 < vl b (u + 1) then (0, 0, 1) else (vl b (u + 1), u + 1, 0)) = r → rdS b = r := by
          intro r hr
          unfold rdS
          rw [hlead, hgd, if_neg h7, if_neg hlen]
          exact hr
        clear hsh hor ha hle hgd hto hlead hu k33
        by_cases hz : 0 < u ∧ x.toNat = 0
        · rw [hlr _ (if_pos hz)]
          obtain ⟨hz1, hz2⟩ := hz
          repeat (first | apply go_nil | apply go_kreg | apply go_kreg0 | apply go_kreg1 | (apply go_kregT; · (first | (simp [addT, CF, CFy, Ind, DisjF]; done) | (simp only [addT, CF, CFy, Ind]; repeat' (first | exact trivial | apply And.intro | exact Or.inl (by decide +kernel) | (refine Or.inr ⟨?_, ?_⟩ <;> (simp; try omega)))))) | apply go_then | apply go_then_exit | apply go_then_ret | apply go_blk | apply go_blk_ret | apply go_blk_here | (apply go_blk_there; · rfl) | apply go_seq | (apply go_region; · (simp only [List.length_cons, List.length_nil, Nat.reduceAdd, Nat.add_assoc]; rfl)) | apply go_skip | apply go_block | apply go_scope | apply go_label | apply go_exit | apply go_ret | (apply go_mut; (· assumption); · (simp (disch := omega) [go_sem, *, -List.reduceReplicate]; first | exact ⟨rfl, rfl⟩ | (simp [go_sem, *]; exact ⟨rfl, rfl⟩))) | (apply go_mutP; (· assumption); · (simp (disch := omega) [go_sem, *, -List.reduceReplicate]; try first | rfl | exact ⟨rfl, rfl⟩ | exact ⟨rfl, rfl, rfl⟩)) | (apply go_guard_in; (· rfl); · (simp (disch := omega) [go_sem, *, -List.reduceReplicate]; try first | rfl | omega)) | (apply go_guard_off; (· rfl); · (simp (disch := omega) [go_sem, *, -List.reduceReplicate]; try first | rfl | omega)) | (apply go_guard_no; (· rfl); · (simp (disch := omega) [go_sem, *, -List.reduceReplicate]; try rfl)) | ((first | apply go_move | apply go_assign | apply go_load | apply go_store | apply go_append | apply go_copy | apply go_copy0 | apply go_clear0 | apply go_slice3 | apply go_indexA); · (simp (disch := omega) [go_sem, *, -List.reduceReplicate]; try first | rfl | exact ⟨rfl, rfl⟩ | exact ⟨rfl, rfl, rfl⟩)) | ((first | apply go_loadv | apply go_append0 | apply go_beyond); · (simp (disch := omega) [go_sem, *, -List.reduceReplicate]; try first | rfl | exact ⟨rfl, rfl⟩ | exact ⟨rfl, rfl, rfl⟩)) | (apply go_appself; · (simp (disch := omega) [go_sem, *, -List.reduceReplicate]; try first | rfl | exact ⟨rfl, rfl⟩ | exact ⟨rfl, rfl, rfl⟩)) | ((first | (apply go_appendz; · rfl) | (apply go_new; · rfl) | (apply go_pure; · rfl)); · (simp (disch := omega) [go_sem, *, -List.reduceReplicate]; try first | rfl | exact ⟨rfl, rfl⟩ | exact ⟨rfl, rfl, rfl⟩)) | ((apply go_glob; · assumption); · (simp (disch := omega) [go_sem, *, -List.reduceReplicate]; try first | rfl | exact ⟨rfl, rfl⟩ | exact ⟨rfl, rfl, rfl⟩)) | (apply go_read1; (· rfl); · (simp (disch := omega) [go_sem, *, -List.reduceReplicate]; try first | rfl | exact ⟨rfl, rfl⟩ | exact ⟨rfl, rfl, rfl⟩)) | (apply go_rw1; (· rfl); · (simp (disch := omega) [go_sem, *, -List.reduceReplicate]; try first | rfl | exact ⟨rfl, rfl⟩ | exact ⟨rfl, rfl, rfl⟩)) | (apply go_new1; (· rfl); · (simp (disch := omega) [go_sem, *, -List.reduceReplicate]; try first | rfl | exact ⟨rfl, rfl⟩ | exact ⟨rfl, rfl, rfl⟩)) | (apply go_conv; · (simp (disch := omega) [go_sem, *, -List.reduceReplicate]; try first | rfl | exact ⟨rfl, rfl⟩ | exact ⟨rfl, rfl, rfl⟩)) | ((first | (apply go_new; · rfl) | (apply go_pure; · rfl)); · (simp (disch := omega) [go_sem, *, -List.reduceReplicate]; simp [go_sem, *]; try first | rfl | exact ⟨rfl, rfl⟩)))
          refine go_condT (by simp (disch := omega) [go_sem, *, -List.reduceReplicate]; try first | rfl | omega) ?_
          repeat (first | apply go_nil | apply go_kreg | apply go_kreg0 | apply go_kreg1 | (apply go_kregT; · (first | (simp [addT, CF, CFy, Ind, DisjF]; done) | (simp only [addT, CF, CFy, Ind]; repeat' (first | exact trivial | apply And.intro | exact Or.inl (by decide +kernel) | (refine Or.inr ⟨?_, ?_⟩ <;> (simp; try omega)))))) | apply go_then | apply go_then_exit | apply go_then_ret | apply go_blk | apply go_blk_ret | apply go_blk_here | (apply go_blk_there; · rfl) | apply go_seq | (apply go_region; · (simp only [List.length_cons, List.length_nil, Nat.reduceAdd, Nat.add_assoc]; rfl)) | apply go_skip | apply go_block | apply go_scope | apply go_label | apply go_exit | apply go_ret | (apply go_mut; (· assumption); · (simp (disch := omega) [go_sem, *, -List.reduceReplicate]; first | exact ⟨rfl, rfl⟩ | (simp [go_sem, *]; exact ⟨rfl, rfl⟩))) | (apply go_mutP; (· assumption); · (simp (disch := omega) [go_sem, *, -List.reduceReplicate]; try first | rfl | exact ⟨rfl, rfl⟩ | exact ⟨rfl, rfl, rfl⟩)) | (apply go_guard_in; (· rfl); · (simp (disch := omega) [go_sem, *, -List.reduceReplicate]; try first | rfl | omega)) | (apply go_guard_off; (· rfl); · (simp (disch := omega) [go_sem, *, -List.reduceReplicate]; try first | rfl | omega)) | (apply go_guard_no; (· rfl); · (simp (disch := omega) [go_sem, *, -List.reduceReplicate]; try rfl)) | ((first | apply go_move | apply go_assign | apply go_load | apply go_store | apply go_append | apply go_copy | apply go_copy0 | apply go_clear0 | apply go_slice3 | apply go_indexA); · (simp (disch := omega) [go_sem, *, -List.reduceReplicate]; try first | rfl | exact ⟨rfl, rfl⟩ | exact ⟨rfl, rfl, rfl⟩)) | ((first | apply go_loadv | apply go_append0 | apply go_beyond); · (simp (disch := omega) [go_sem, *, -List.reduceReplicate]; try first | rfl | exact ⟨rfl, rfl⟩ | exact ⟨rfl, rfl, rfl⟩)) | (apply go_appself; · (simp (disch := omega) [go_sem, *, -List.reduceReplicate]; try first | rfl | exact ⟨rfl, rfl⟩ | exact ⟨rfl, rfl, rfl⟩)) | ((first | (apply go_appendz; · rfl) | (apply go_new; · rfl) | (apply go_pure; · rfl)); · (simp (disch := omega) [go_sem, *, -List.reduceReplicate]; try first | rfl | exact ⟨rfl, rfl⟩ | exact ⟨rfl, rfl, rfl⟩)) | ((apply go_glob; · assumption); · (simp (disch := omega) [go_sem, *, -List.reduceReplicate]; try first | rfl | exact ⟨rfl, rfl⟩ | exact ⟨rfl, rfl, rfl⟩)) | (apply go_read1; (· rfl); · (simp (disch := omega) [go_sem, *, -List.reduceReplicate]; try first | rfl | exact ⟨rfl, rfl⟩ | exact ⟨rfl, rfl, rfl⟩)) | (apply go_rw1; (· rfl); · (simp (disch := omega) [go_sem, *, -List.reduceReplicate]; try first | rfl | exact ⟨rfl, rfl⟩ | exact ⟨rfl, rfl, rfl⟩)) | (apply go_new1; (· rfl); · (simp (disch := omega) [go_sem, *, -List.reduceReplicate]; try first | rfl | exact ⟨rfl, rfl⟩ | exact ⟨rfl, rfl, rfl⟩)) | (apply go_conv; · (simp (disch := omega) [go_sem, *, -List.reduceReplicate]; try first | rfl | exact ⟨rfl, rfl⟩ | exact ⟨rfl, rfl, rfl⟩)) | ((first | (apply go_new; · rfl) | (apply go_pure; · rfl)); · (simp (disch := omega) [go_sem, *, -List.reduceReplicate]; simp [go_sem, *]; try first | rfl | exact ⟨rfl, rfl⟩)))
          refine go_result (by simp (disch := omega) [go_sem, *, -List.reduceReplicate]; rfl) (by simp (disch := omega) [go_sem]; try rfl) (fun id hid => by simp (disch := omega) only [upd_ne, wr_cons, wr_nil]; try exact hlow id hid)
        · by_cases hu0 : u = 0
          · have hu1 : ¬ (1 < (u : Int) + 1) := by omega
            have hu2 : ¬ (0 < u) := by omega
            clear hu0
            repeat (first | apply go_nil | apply go_kreg | apply go_kreg0 | apply go_kreg1 | (apply go_kregT; · (first | (simp [addT, CF, CFy, Ind, DisjF]; done) | (simp only [addT, CF, CFy, Ind]; repeat' (first | exact trivial | apply And.intro | exact Or.inl (by decide +kernel) | (refine Or.inr ⟨?_, ?_⟩ <;> (simp; try omega)))))) | apply go_then | apply go_then_exit | apply go_then_ret | apply go_blk | apply go_blk_ret | apply go_blk_here | (apply go_blk_there; · rfl) | apply go_seq | (apply go_region; · (simp only [List.length_cons, List.length_nil, Nat.reduceAdd, Nat.add_assoc]; rfl)) | apply go_skip | apply go_block | apply go_scope | apply go_label | apply go_exit | apply go_ret | (apply go_mut; (· assumption); · (simp (disch := omega) [go_sem, *, -List.reduceReplicate]; first | exact ⟨rfl, rfl⟩ | (simp [go_sem, *]; exact ⟨rfl, rfl⟩))) | (apply go_mutP; (· assumption); · (simp (disch := omega) [go_sem, *, -List.reduceReplicate]; try first | rfl | exact ⟨rfl, rfl⟩ | exact ⟨rfl, rfl, rfl⟩)) | (apply go_guard_in; (· rfl); · (simp (disch := omega) [go_sem, *, -List.reduceReplicate]; try first | rfl | omega)) | (apply go_guard_off; (· rfl); · (simp (disch := omega) [go_sem, *, -List.reduceReplicate]; try first | rfl | omega)) | (apply go_guard_no; (· rfl); · (simp (disch := omega) [go_sem, *, -List.reduceReplicate]; try rfl)) | ((first | apply go_move | apply go_assign | apply go_load | apply go_store | apply go_append | apply go_copy | apply go_copy0 | apply go_clear0 | apply go_slice3 | apply go_indexA); · (simp (disch := omega) [go_sem, *, -List.reduceReplicate]; try first | rfl | exact ⟨rfl, rfl⟩ | exact ⟨rfl, rfl, rfl⟩)) | ((first | apply go_loadv | apply go_append0 | apply go_beyond); · (simp (disch := omega) [go_sem, *, -List.reduceReplicate]; try first | rfl | exact ⟨rfl, rfl⟩ | exact ⟨rfl, rfl, rfl⟩)) | (apply go_appself; · (simp (disch := omega) [go_sem, *, -List.reduceReplicate]; try first | rfl | exact ⟨rfl, rfl⟩ | exact ⟨rfl, rfl, rfl⟩)) | ((first | (apply go_appendz; · rfl) | (apply go_new; · rfl) | (apply go_pure; · rfl)); · (simp (disch := omega) [go_sem, *, -List.reduceReplicate]; try first | rfl | exact ⟨rfl, rfl⟩ | exact ⟨rfl, rfl, rfl⟩)) | ((apply go_glob; · assumption); · (simp (disch := omega) [go_sem, *, -List.reduceReplicate]; try first | rfl | exact ⟨rfl, rfl⟩ | exact ⟨rfl, rfl, rfl⟩)) | (apply go_read1; (· rfl); · (simp (disch := omega) [go_sem, *, -List.reduceReplicate]; try first | rfl | exact ⟨rfl, rfl⟩ | exact ⟨rfl, rfl, rfl⟩)) | (apply go_rw1; (· rfl); · (simp (disch := omega) [go_sem, *, -List.reduceReplicate]; try first | rfl | exact ⟨rfl, rfl⟩ | exact ⟨rfl, rfl, rfl⟩)) | (apply go_new1; (· rfl); · (simp (disch := omega) [go_sem, *, -List.reduceReplicate]; try first | rfl | exact ⟨rfl, rfl⟩ | exact ⟨rfl, rfl, rfl⟩)) | (apply go_conv; · (simp (disch := omega) [go_sem, *, -List.reduceReplicate]; try first | rfl | exact ⟨rfl, rfl⟩ | exact ⟨rfl, rfl, rfl⟩)) | ((first | (apply go_new; · rfl) | (apply go_pure; · rfl)); · (simp (disch := omega) [go_sem, *, -List.reduceReplicate]; simp [go_sem, *]; try first | rfl | exact ⟨rfl, rfl⟩)))
            refine go_condF (by simp (disch := omega) [go_sem, *, -List.reduceReplicate]; try first | rfl | omega) ?_
            repeat (first | apply go_nil | apply go_kreg | apply go_kreg0 | apply go_kreg1 | (apply go_kregT; · (first | (simp [addT, CF, CFy, Ind, DisjF]; done) | (simp only [addT, CF, CFy, Ind]; repeat' (first | exact trivial | apply And.intro | exact Or.inl (by decide +kernel) | (refine Or.inr ⟨?_, ?_⟩ <;> (simp; try omega)))))) | apply go_then | apply go_then_exit | apply go_then_ret | apply go_blk | apply go_blk_ret | apply go_blk_here | (apply go_blk_there; · rfl) | apply go_seq | (apply go_region; · (simp only [List.length_cons, List.length_nil, Nat.reduceAdd, Nat.add_assoc]; rfl)) | apply go_skip | apply go_block | apply go_scope | apply go_label | apply go_exit | apply go_ret | (apply go_mut; (· assumption); · (simp (disch := omega) [go_sem, *, -List.reduceReplicate]; first | exact ⟨rfl, rfl⟩ | (simp [go_sem, *]; exact ⟨rfl, rfl⟩))) | (apply go_mutP; (· assumption); · (simp (disch := omega) [go_sem, *, -List.reduceReplicate]; try first | rfl | exact ⟨rfl, rfl⟩ | exact ⟨rfl, rfl, rfl⟩)) | (apply go_guard_in; (· rfl); · (simp (disch := omega) [go_sem, *, -List.reduceReplicate]; try first | rfl | omega)) | (apply go_guard_off; (· rfl); · (simp (disch := omega) [go_sem, *, -List.reduceReplicate]; try first | rfl | omega)) | (apply go_guard_no; (· rfl); · (simp (disch := omega) [go_sem, *, -List.reduceReplicate]; try rfl)) | ((first | apply go_move | apply go_assign | apply go_load | apply go_store | apply go_append | apply go_copy | apply go_copy0 | apply go_clear0 | apply go_slice3 | apply go_indexA); · (simp (disch := omega) [go_sem, *, -List.reduceReplicate]; try first | rfl | exact ⟨rfl, rfl⟩ | exact ⟨rfl, rfl, rfl⟩)) | ((first | apply go_loadv | apply go_append0 | apply go_beyond); · (simp (disch := omega) [go_sem, *, -List.reduceReplicate]; try first | rfl | exact ⟨rfl, rfl⟩ | exact ⟨rfl, rfl, rfl⟩)) | (apply go_appself; · (simp (disch := omega) [go_sem, *, -List.reduceReplicate]; try first | rfl | exact ⟨rfl, rfl⟩ | exact ⟨rfl, rfl, rfl⟩)) | ((first | (apply go_appendz; · rfl) | (apply go_new; · rfl) | (apply go_pure; · rfl)); · (simp (disch := omega) [go_sem, *, -List.reduceReplicate]; try first | rfl | exact ⟨rfl, rfl⟩ | exact ⟨rfl, rfl, rfl⟩)) | ((apply go_glob; · assumption); · (simp (disch := omega) [go_sem, *, -List.reduceReplicate]; try first | rfl | exact ⟨rfl, rfl⟩ | exact ⟨rfl, rfl, rfl⟩)) | (apply go_read1; (· rfl); · (simp (disch := omega) [go_sem, *, -List.reduceReplicate]; try first | rfl | exact ⟨rfl, rfl⟩ | exact ⟨rfl, rfl, rfl⟩)) | (apply go_rw1; (· rfl); · (simp (disch := omega) [go_sem, *, -List.reduceReplicate]; try first | rfl | exact ⟨rfl, rfl⟩ | exact ⟨rfl, rfl, rfl⟩)) | (apply go_new1; (· rfl); · (simp (disch := omega) [go_sem, *, -List.reduceReplicate]; try first | rfl | exact ⟨rfl, rfl⟩ | exact ⟨rfl, rfl, rfl⟩)) | (apply go_conv; · (simp (disch := omega) [go_sem, *, -List.reduceReplicate]; try first | rfl | exact ⟨rfl, rfl⟩ | exact ⟨rfl, rfl, rfl⟩)) | ((first | (apply go_new; · rfl) | (apply go_pure; · rfl)); · (simp (disch := omega) [go_sem, *, -List.reduceReplicate]; simp [go_sem, *]; try first | rfl | exact ⟨rfl, rfl⟩)))
            by_cases hm : 281474976710656 < vl b (u + 1)
            · rw [hlr _ ((if_neg hz).trans (if_pos hm))]
              refine go_condT (by simp (disch := omega) [go_sem, *, -List.reduceReplicate]; try first | rfl | omega) ?_
              repeat (first | apply go_nil | apply go_kreg | apply go_kreg0 | apply go_kreg1 | (apply go_kregT; · (first | (simp [addT, CF, CFy, Ind, DisjF]; done) | (simp only [addT, CF, CFy, Ind]; repeat' (first | exact trivial | apply And.intro | exact Or.inl (by decide +kernel) | (refine Or.inr ⟨?_, ?_⟩ <;> (simp; try omega)))))) | apply go_then | apply go_then_exit | apply go_then_ret | apply go_blk | apply go_blk_ret | apply go_blk_here | (apply go_blk_there; · rfl) | apply go_seq | (apply go_region; · (simp only [List.length_cons, List.length_nil, Nat.reduceAdd, Nat.add_assoc]; rfl)) | apply go_skip | apply go_block | apply go_scope | apply go_label | apply go_exit | apply go_ret | (apply go_mut; (· assumption); · (simp (disch := omega) [go_sem, *, -List.reduceReplicate]; first | exact ⟨rfl, rfl⟩ | (simp [go_sem, *]; exact ⟨rfl, rfl⟩))) | (apply go_mutP; (· assumption); · (simp (disch := omega) [go_sem, *, -List.reduceReplicate]; try first | rfl | exact ⟨rfl, rfl⟩ | exact ⟨rfl, rfl, rfl⟩)) | (apply go_guard_in; (· rfl); · (simp (disch := omega) [go_sem, *, -List.reduceReplicate]; try first | rfl | omega)) | (apply go_guard_off; (· rfl); · (simp (disch := omega) [go_sem, *, -List.reduceReplicate]; try first | rfl | omega)) | (apply go_guard_no; (· rfl); · (simp (disch := omega) [go_sem, *, -List.reduceReplicate]; try rfl)) | ((first | apply go_move | apply go_assign | apply go_load | apply go_store | apply go_append | apply go_copy | apply go_copy0 | apply go_clear0 | apply go_slice3 | apply go_indexA); · (simp (disch := omega) [go_sem, *, -List.reduceReplicate]; try first | rfl | exact ⟨rfl, rfl⟩ | exact ⟨rfl, rfl, rfl⟩)) | ((first | apply go_loadv | apply go_append0 | apply go_beyond); · (simp (disch := omega) [go_sem, *, -List.reduceReplicate]; try first | rfl | exact ⟨rfl, rfl⟩ | exact ⟨rfl, rfl, rfl⟩)) | (apply go_appself; · (simp (disch := omega) [go_sem, *, -List.reduceReplicate]; try first | rfl | exact ⟨rfl, rfl⟩ | exact ⟨rfl, rfl, rfl⟩)) | ((first | (apply go_appendz; · rfl) | (apply go_new; · rfl) | (apply go_pure; · rfl)); · (simp (disch := omega) [go_sem, *, -List.reduceReplicate]; try first | rfl | exact ⟨rfl, rfl⟩ | exact ⟨rfl, rfl, rfl⟩)) | ((apply go_glob; · assumption); · (simp (disch := omega) [go_sem, *, -List.reduceReplicate]; try first | rfl | exact ⟨rfl, rfl⟩ | exact ⟨rfl, rfl, rfl⟩)) | (apply go_read1; (· rfl); · (simp (disch := omega) [go_sem, *, -List.reduceReplicate]; try first | rfl | exact ⟨rfl, rfl⟩ | exact ⟨rfl, rfl, rfl⟩)) | (apply go_rw1; (· rfl); · (simp (disch := omega) [go_sem, *, -List.reduceReplicate]; try first | rfl | exact ⟨rfl, rfl⟩ | exact ⟨rfl, rfl, rfl⟩)) | (apply go_new1; (· rfl); · (simp (disch := omega) [go_sem, *, -List.reduceReplicate]; try first | rfl | exact ⟨rfl, rfl⟩ | exact ⟨rfl, rfl, rfl⟩)) | (apply go_conv; · (simp (disch := omega) [go_sem, *, -List.reduceReplicate]; try first | rfl | exact ⟨rfl, rfl⟩ | exact ⟨rfl, rfl, rfl⟩)) | ((first | (apply go_new; · rfl) | (apply go_pure; · rfl)); · (simp (disch := omega) [go_sem, *, -List.reduceReplicate]; simp [go_sem, *]; try first | rfl | exact ⟨rfl, rfl⟩)))
              refine go_result (by simp (disch := omega) [go_sem, *, -List.reduceReplicate]; rfl) (by simp (disch := omega) [go_sem]; try rfl) (fun id hid => by simp (disch := omega) only [upd_ne, wr_cons, wr_nil]; try exact hlow id hid)
            · rw [hlr _ ((if_neg hz).trans (if_neg hm))]
              refine go_condF (by simp (disch := omega) [go_sem, *, -List.reduceReplicate]; try first | rfl | omega) ?_
              repeat (first | apply go_nil | apply go_kreg | apply go_kreg0 | apply go_kreg1 | (apply go_kregT; · (first | (simp [addT, CF, CFy, Ind, DisjF]; done) | (simp only [addT, CF, CFy, Ind]; repeat' (first | exact trivial | apply And.intro | exact Or.inl (by decide +kernel) | (refine Or.inr ⟨?_, ?_⟩ <;> (simp; try omega)))))) | apply go_then | apply go_then_exit | apply go_then_ret | apply go_blk | apply go_blk_ret | apply go_blk_here | (apply go_blk_there; · rfl) | apply go_seq | (apply go_region; · (simp only [List.length_cons, List.length_nil, Nat.reduceAdd, Nat.add_assoc]; rfl)) | apply go_skip | apply go_block | apply go_scope | apply go_label | apply go_exit | apply go_ret | (apply go_mut; (· assumption); · (simp (disch := omega) [go_sem, *, -List.reduceReplicate]; first | exact ⟨rfl, rfl⟩ | (simp [go_sem, *]; exact ⟨rfl, rfl⟩))) | (apply go_mutP; (· assumption); · (simp (disch := omega) [go_sem, *, -List.reduceReplicate]; try first | rfl | exact ⟨rfl, rfl⟩ | exact ⟨rfl, rfl, rfl⟩)) | (apply go_guard_in; (· rfl); · (simp (disch := omega) [go_sem, *, -List.reduceReplicate]; try first | rfl | omega)) | (apply go_guard_off; (· rfl); · (simp (disch := omega) [go_sem, *, -List.reduceReplicate]; try first | rfl | omega)) | (apply go_guard_no; (· rfl); · (simp (disch := omega) [go_sem, *, -List.reduceReplicate]; try rfl)) | ((first | apply go_move | apply go_assign | apply go_load | apply go_store | apply go_append | apply go_copy | apply go_copy0 | apply go_clear0 | apply go_slice3 | apply go_indexA); · (simp (disch := omega) [go_sem, *, -List.reduceReplicate]; try first | rfl | exact ⟨rfl, rfl⟩ | exact ⟨rfl, rfl, rfl⟩)) | ((first | apply go_loadv | apply go_append0 | apply go_beyond); · (simp (disch := omega) [go_sem, *, -List.reduceReplicate]; try first | rfl | exact ⟨rfl, rfl⟩ | exact ⟨rfl, rfl, rfl⟩)) | (apply go_appself; · (simp (disch := omega) [go_sem, *, -List.reduceReplicate]; try first | rfl | exact ⟨rfl, rfl⟩ | exact ⟨rfl, rfl, rfl⟩)) | ((first | (apply go_appendz; · rfl) | (apply go_new; · rfl) | (apply go_pure; · rfl)); · (simp (disch := omega) [go_sem, *, -List.reduceReplicate]; try first | rfl | exact ⟨rfl, rfl⟩ | exact ⟨rfl, rfl, rfl⟩)) | ((apply go_glob; · assumption); · (simp (disch := omega) [go_sem, *, -List.reduceReplicate]; try first | rfl | exact ⟨rfl, rfl⟩ | exact ⟨rfl, rfl, rfl⟩)) | (apply go_read1; (· rfl); · (simp (disch := omega) [go_sem, *, -List.reduceReplicate]; try first | rfl | exact ⟨rfl, rfl⟩ | exact ⟨rfl, rfl, rfl⟩)) | (apply go_rw1; (· rfl); · (simp (disch := omega) [go_sem, *, -List.reduceReplicate]; try first | rfl | exact ⟨rfl, rfl⟩ | exact ⟨rfl, rfl, rfl⟩)) | (apply go_new1; (· rfl); · (simp (disch := omega) [go_sem, *, -List.reduceReplicate]; try first | rfl | exact ⟨rfl, rfl⟩ | exact ⟨rfl, rfl, rfl⟩)) | (apply go_conv; · (simp (disch := omega) [go_sem, *, -List.reduceReplicate]; try first | rfl | exact ⟨rfl, rfl⟩ | exact ⟨rfl, rfl, rfl⟩)) | ((first | (apply go_new; · rfl) | (apply go_pure; · rfl)); · (simp (disch := omega) [go_sem, *, -List.reduceReplicate]; simp [go_sem, *]; try first | rfl | exact ⟨rfl, rfl⟩)))
              refine go_result (by simp (disch := omega) [go_sem, *, -List.reduceReplicate]; rfl) (by simp (disch := omega) [go_sem]; try rfl) (fun id hid => by simp (disch := omega) only [upd_ne, wr_cons, wr_nil]; try exact hlow id hid)
          · have hu2 : 0 < u := by omega
            have hz0 : ¬ x.toNat = 0 := fun h => hz ⟨hu2, h⟩
            repeat (first | apply go_nil | apply go_kreg | apply go_kreg0 | apply go_kreg1 | (apply go_kregT; · (first | (simp [addT, CF, CFy, Ind, DisjF]; done) | (simp only [addT, CF, CFy, Ind]; repeat' (first | exact trivial | apply And.intro | exact Or.inl (by decide +kernel) | (refine Or.inr ⟨?_, ?_⟩ <;> (simp; try omega)))))) | apply go_then | apply go_then_exit | apply go_then_ret | apply go_blk | apply go_blk_ret | apply go_blk_here | (apply go_blk_there; · rfl) | apply go_seq | (apply go_region; · (simp only [List.length_cons, List.length_nil, Nat.reduceAdd, Nat.add_assoc]; rfl)) | apply go_skip | apply go_block | apply go_scope | apply go_label | apply go_exit | apply go_ret | (apply go_mut; (· assumption); · (simp (disch := omega) [go_sem, *, -List.reduceReplicate]; first | exact ⟨rfl, rfl⟩ | (simp [go_sem, *]; exact ⟨rfl, rfl⟩))) | (apply go_mutP; (· assumption); · (simp (disch := omega) [go_sem, *, -List.reduceReplicate]; try first | rfl | exact ⟨rfl, rfl⟩ | exact ⟨rfl, rfl, rfl⟩)) | (apply go_guard_in; (· rfl); · (simp (disch := omega) [go_sem, *, -List.reduceReplicate]; try first | rfl | omega)) | (apply go_guard_off; (· rfl); · (simp (disch := omega) [go_sem, *, -List.reduceReplicate]; try first | rfl | omega)) | (apply go_guard_no; (· rfl); · (simp (disch := omega) [go_sem, *, -List.reduceReplicate]; try rfl)) | ((first | apply go_move | apply go_assign | apply go_load | apply go_store | apply go_append | apply go_copy | apply go_copy0 | apply go_clear0 | apply go_slice3 | apply go_indexA); · (simp (disch := omega) [go_sem, *, -List.reduceReplicate]; try first | rfl | exact ⟨rfl, rfl⟩ | exact ⟨rfl, rfl, rfl⟩)) | ((first | apply go_loadv | apply go_append0 | apply go_beyond); · (simp (disch := omega) [go_sem, *, -List.reduceReplicate]; try first | rfl | exact ⟨rfl, rfl⟩ | exact ⟨rfl, rfl, rfl⟩)) | (apply go_appself; · (simp (disch := omega) [go_sem, *, -List.reduceReplicate]; try first | rfl | exact ⟨rfl, rfl⟩ | exact ⟨rfl, rfl, rfl⟩)) | ((first | (apply go_appendz; · rfl) | (apply go_new; · rfl) | (apply go_pure; · rfl)); · (simp (disch := omega) [go_sem, *, -List.reduceReplicate]; try first | rfl | exact ⟨rfl, rfl⟩ | exact ⟨rfl, rfl, rfl⟩)) | ((apply go_glob; · assumption); · (simp (disch := omega) [go_sem, *, -List.reduceReplicate]; try first | rfl | exact ⟨rfl, rfl⟩ | exact ⟨rfl, rfl, rfl⟩)) | (apply go_read1; (· rfl); · (simp (disch := omega) [go_sem, *, -List.reduceReplicate]; try first | rfl | exact ⟨rfl, rfl⟩ | exact ⟨rfl, rfl, rfl⟩)) | (apply go_rw1; (· rfl); · (simp (disch := omega) [go_sem, *, -List.reduceReplicate]; try first | rfl | exact ⟨rfl, rfl⟩ | exact ⟨rfl, rfl, rfl⟩)) | (apply go_new1; (· rfl); · (simp (disch := omega) [go_sem, *, -List.reduceReplicate]; try first | rfl | exact ⟨rfl, rfl⟩ | exact ⟨rfl, rfl, rfl⟩)) | (apply go_conv; · (simp (disch := omega) [go_sem, *, -List.reduceReplicate]; try first | rfl | exact ⟨rfl, rfl⟩ | exact ⟨rfl, rfl, rfl⟩)) | ((first | (apply go_new; · rfl) | (apply go_pure; · rfl)); · (simp (disch := omega) [go_sem, *, -List.reduceReplicate]; simp [go_sem, *]; try first | rfl | exact ⟨rfl, rfl⟩)))
            refine go_condF (by simp (disch := omega) [go_sem, *, -List.reduceReplicate]; try first | rfl | omega) ?_
            repeat (first | apply go_nil | apply go_kreg | apply go_kreg0 | apply go_kreg1 | (apply go_kregT; · (first | (simp [addT, CF, CFy, Ind, DisjF]; done) | (simp only [addT, CF, CFy, Ind]; repeat' (first | exact trivial | apply And.intro | exact Or.inl (by decide +kernel) | (refine Or.inr ⟨?_, ?_⟩ <;> (simp; try omega)))))) | apply go_then | apply go_then_exit | apply go_then_ret | apply go_blk | apply go_blk_ret | apply go_blk_here | (apply go_blk_there; · rfl) | apply go_seq | (apply go_region; · (simp only [List.length_cons, List.length_nil, Nat.reduceAdd, Nat.add_assoc]; rfl)) | apply go_skip | apply go_block | apply go_scope | apply go_label | apply go_exit | apply go_ret | (apply go_mut; (· assumption); · (simp (disch := omega) [go_sem, *, -List.reduceReplicate]; first | exact ⟨rfl, rfl⟩ | (simp [go_sem, *]; exact ⟨rfl, rfl⟩))) | (apply go_mutP; (· assumption); · (simp (disch := omega) [go_sem, *, -List.reduceReplicate]; try first | rfl | exact ⟨rfl, rfl⟩ | exact ⟨rfl, rfl, rfl⟩)) | (apply go_guard_in; (· rfl); · (simp (disch := omega) [go_sem, *, -List.reduceReplicate]; try first | rfl | omega)) | (apply go_guard_off; (· rfl); · (simp (disch := omega) [go_sem, *, -List.reduceReplicate]; try first | rfl | omega)) | (apply go_guard_no; (· rfl); · (simp (disch := omega) [go_sem, *, -List.reduceReplicate]; try rfl)) | ((first | apply go_move | apply go_assign | apply go_load | apply go_store | apply go_append | apply go_copy | apply go_copy0 | apply go_clear0 | apply go_slice3 | apply go_indexA); · (simp (disch := omega) [go_sem, *, -List.reduceReplicate]; try first | rfl | exact ⟨rfl, rfl⟩ | exact ⟨rfl, rfl, rfl⟩)) | ((first | apply go_loadv | apply go_append0 | apply go_beyond); · (simp (disch := omega) [go_sem, *, -List.reduceReplicate]; try first | rfl | exact ⟨rfl, rfl⟩ | exact ⟨rfl, rfl, rfl⟩)) | (apply go_appself; · (simp (disch := omega) [go_sem, *, -List.reduceReplicate]; try first | rfl | exact ⟨rfl, rfl⟩ | exact ⟨rfl, rfl, rfl⟩)) | ((first | (apply go_appendz; · rfl) | (apply go_new; · rfl) | (apply go_pure; · rfl)); · (simp (disch := omega) [go_sem, *, -List.reduceReplicate]; try first | rfl | exact ⟨rfl, rfl⟩ | exact ⟨rfl, rfl, rfl⟩)) | ((apply go_glob; · assumption); · (simp (disch := omega) [go_sem, *, -List.reduceReplicate]; try first | rfl | exact ⟨rfl, rfl⟩ | exact ⟨rfl, rfl, rfl⟩)) | (apply go_read1; (· rfl); · (simp (disch := omega) [go_sem, *, -List.reduceReplicate]; try first | rfl | exact ⟨rfl, rfl⟩ | exact ⟨rfl, rfl, rfl⟩)) | (apply go_rw1; (· rfl); · (simp (disch := omega) [go_sem, *, -List.reduceReplicate]; try first | rfl | exact ⟨rfl, rfl⟩ | exact ⟨rfl, rfl, rfl⟩)) | (apply go_new1; (· rfl); · (simp (disch := omega) [go_sem, *, -List.reduceReplicate]; try first | rfl | exact ⟨rfl, rfl⟩ | exact ⟨rfl, rfl, rfl⟩)) | (apply go_conv; · (simp (disch := omega) [go_sem, *, -List.reduceReplicate]; try first | rfl | exact ⟨rfl, rfl⟩ | exact ⟨rfl, rfl, rfl⟩)) | ((first | (apply go_new; · rfl) | (apply go_pure; · rfl)); · (simp (disch := omega) [go_sem, *, -List.reduceReplicate]; simp [go_sem, *]; try first | rfl | exact ⟨rfl, rfl⟩)))
            by_cases hm : 281474976710656 < vl b (u + 1)
            · rw [hlr _ ((if_neg hz).trans (if_pos hm))]
              refine go_condT (by simp (disch := omega) [go_sem, *, -List.reduceReplicate]; try first | rfl | omega) ?_
              repeat (first | apply go_nil | apply go_kreg | apply go_kreg0 | apply go_kreg1 | (apply go_kregT; · (first | (simp [addT, CF, CFy, Ind, DisjF]; done) | (simp only [addT, CF, CFy, Ind]; repeat' (first | exact trivial | apply And.intro | exact Or.inl (by decide +kernel) | (refine Or.inr ⟨?_, ?_⟩ <;> (simp; try omega)))))) | apply go_then | apply go_then_exit | apply go_then_ret | apply go_blk | apply go_blk_ret | apply go_blk_here | (apply go_blk_there; · rfl) | apply go_seq | (apply go_region; · (simp only [List.length_cons, List.length_nil, Nat.reduceAdd, Nat.add_assoc]; rfl)) | apply go_skip | apply go_block | apply go_scope | apply go_label | apply go_exit | apply go_ret | (apply go_mut; (· assumption); · (simp (disch := omega) [go_sem, *, -List.reduceReplicate]; first | exact ⟨rfl, rfl⟩ | (simp [go_sem, *]; exact ⟨rfl, rfl⟩))) | (apply go_mutP; (· assumption); · (simp (disch := omega) [go_sem, *, -List.reduceReplicate]; try first | rfl | exact ⟨rfl, rfl⟩ | exact ⟨rfl, rfl, rfl⟩)) | (apply go_guard_in; (· rfl); · (simp (disch := omega) [go_sem, *, -List.reduceReplicate]; try first | rfl | omega)) | (apply go_guard_off; (· rfl); · (simp (disch := omega) [go_sem, *, -List.reduceReplicate]; try first | rfl | omega)) | (apply go_guard_no; (· rfl); · (simp (disch := omega) [go_sem, *, -List.reduceReplicate]; try rfl)) | ((first | apply go_move | apply go_assign | apply go_load | apply go_store | apply go_append | apply go_copy | apply go_copy0 | apply go_clear0 | apply go_slice3 | apply go_indexA); · (simp (disch := omega) [go_sem, *, -List.reduceReplicate]; try first | rfl | exact ⟨rfl, rfl⟩ | exact ⟨rfl, rfl, rfl⟩)) | ((first | apply go_loadv | apply go_append0 | apply go_beyond); · (simp (disch := omega) [go_sem, *, -List.reduceReplicate]; try first | rfl | exact ⟨rfl, rfl⟩ | exact ⟨rfl, rfl, rfl⟩)) | (apply go_appself; · (simp (disch := omega) [go_sem, *, -List.reduceReplicate]; try first | rfl | exact ⟨rfl, rfl⟩ | exact ⟨rfl, rfl, rfl⟩)) | ((first | (apply go_appendz; · rfl) | (apply go_new; · rfl) | (apply go_pure; · rfl)); · (simp (disch := omega) [go_sem, *, -List.reduceReplicate]; try first | rfl | exact ⟨rfl, rfl⟩ | exact ⟨rfl, rfl, rfl⟩)) | ((apply go_glob; · assumption); · (simp (disch := omega) [go_sem, *, -List.reduceReplicate]; try first | rfl | exact ⟨rfl, rfl⟩ | exact ⟨rfl, rfl, rfl⟩)) | (apply go_read1; (· rfl); · (simp (disch := omega) [go_sem, *, -List.reduceReplicate]; try first | rfl | exact ⟨rfl, rfl⟩ | exact ⟨rfl, rfl, rfl⟩)) | (apply go_rw1; (· rfl); · (simp (disch := omega) [go_sem, *, -List.reduceReplicate]; try first | rfl | exact ⟨rfl, rfl⟩ | exact ⟨rfl, rfl, rfl⟩)) | (apply go_new1; (· rfl); · (simp (disch := omega) [go_sem, *, -List.reduceReplicate]; try first | rfl | exact ⟨rfl, rfl⟩ | exact ⟨rfl, rfl, rfl⟩)) | (apply go_conv; · (simp (disch := omega) [go_sem, *, -List.reduceReplicate]; try first | rfl | exact ⟨rfl, rfl⟩ | exact ⟨rfl, rfl, rfl⟩)) | ((first | (apply go_new; · rfl) | (apply go_pure; · rfl)); · (simp (disch := omega) [go_sem, *, -List.reduceReplicate]; simp [go_sem, *]; try first | rfl | exact ⟨rfl, rfl⟩)))
              refine go_result (by simp (disch := omega) [go_sem, *, -List.reduceReplicate]; rfl) (by simp (disch := omega) [go_sem]; try rfl) (fun id hid => by simp (disch := omega) only [upd_ne, wr_cons, wr_nil]; try exact hlow id hid)
            · rw [hlr _ ((if_neg hz).trans (if_neg hm))]
              refine go_condF (by simp (disch := omega) [go_sem, *, -List.reduceReplicate]; try first | rfl | omega) ?_
              repeat (first | apply go_nil | apply go_kreg | apply go_kreg0 | apply go_kreg1 | (apply go_kregT; · (first | (simp [addT, CF, CFy, Ind, DisjF]; done) | (simp only [addT, CF, CFy, Ind]; repeat' (first | exact trivial | apply And.intro | exact Or.inl (by decide +kernel) | (refine Or.inr ⟨?_, ?_⟩ <;> (simp; try omega)))))) | apply go_then | apply go_then_exit | apply go_then_ret | apply go_blk | apply go_blk_ret | apply go_blk_here | (apply go_blk_there; · rfl) | apply go_seq | (apply go_region; · (simp only [List.length_cons, List.length_nil, Nat.reduceAdd, Nat.add_assoc]; rfl)) | apply go_skip | apply go_block | apply go_scope | apply go_label | apply go_exit | apply go_ret | (apply go_mut; (· assumption); · (simp (disch := omega) [go_sem, *, -List.reduceReplicate]; first | exact ⟨rfl, rfl⟩ | (simp [go_sem, *]; exact ⟨rfl, rfl⟩))) | (apply go_mutP; (· assumption); · (simp (disch := omega) [go_sem, *, -List.reduceReplicate]; try first | rfl | exact ⟨rfl, rfl⟩ | exact ⟨rfl, rfl, rfl⟩)) | (apply go_guard_in; (· rfl); · (simp (disch := omega) [go_sem, *, -List.reduceReplicate]; try first | rfl | omega)) | (apply go_guard_off; (· rfl); · (simp (disch := omega) [go_sem, *, -List.reduceReplicate]; try first | rfl | omega)) | (apply go_guard_no; (· rfl); · (simp (disch := omega) [go_sem, *, -List.reduceReplicate]; try rfl)) | ((first | apply go_move | apply go_assign | apply go_load | apply go_store | apply go_append | apply go_copy | apply go_copy0 | apply go_clear0 | apply go_slice3 | apply go_indexA); · (simp (disch := omega) [go_sem, *, -List.reduceReplicate]; try first | rfl | exact ⟨rfl, rfl⟩ | exact ⟨rfl, rfl, rfl⟩)) | ((first | apply go_loadv | apply go_append0 | apply go_beyond); · (simp (disch := omega) [go_sem, *, -List.reduceReplicate]; try first | rfl | exact ⟨rfl, rfl⟩ | exact ⟨rfl, rfl, rfl⟩)) | (apply go_appself; · (simp (disch := omega) [go_sem, *, -List.reduceReplicate]; try first | rfl | exact ⟨rfl, rfl⟩ | exact ⟨rfl, rfl, rfl⟩)) | ((first | (apply go_appendz; · rfl) | (apply go_new; · rfl) | (apply go_pure; · rfl)); · (simp (disch := omega) [go_sem, *, -List.reduceReplicate]; try first | rfl | exact ⟨rfl, rfl⟩ | exact ⟨rfl, rfl, rfl⟩)) | ((apply go_glob; · assumption); · (simp (disch := omega) [go_sem, *, -List.reduceReplicate]; try first | rfl | exact ⟨rfl, rfl⟩ | exact ⟨rfl, rfl, rfl⟩)) | (apply go_read1; (· rfl); · (simp (disch := omega) [go_sem, *, -List.reduceReplicate]; try first | rfl | exact ⟨rfl, rfl⟩ | exact ⟨rfl, rfl, rfl⟩)) | (apply go_rw1; (· rfl); · (simp (disch := omega) [go_sem, *, -List.reduceReplicate]; try first | rfl | exact ⟨rfl, rfl⟩ | exact ⟨rfl, rfl, rfl⟩)) | (apply go_new1; (· rfl); · (simp (disch := omega) [go_sem, *, -List.reduceReplicate]; try first | rfl | exact ⟨rfl, rfl⟩ | exact ⟨rfl, rfl, rfl⟩)) | (apply go_conv; · (simp (disch := omega) [go_sem, *, -List.reduceReplicate]; try first | rfl | exact ⟨rfl, rfl⟩ | exact ⟨rfl, rfl, rfl⟩)) | ((first | (apply go_new; · rfl) | (apply go_pure; · rfl)); · (simp (disch := omega) [go_sem, *, -List.reduceReplicate]; simp [go_sem, *]; try first | rfl | exact ⟨rfl, rfl⟩)))
              refine go_result (by simp (disch := omega) [go_sem, *, -List.reduceReplicate]; rfl) (by simp (disch := omega) [go_sem]; try rfl) (fun id hid => by simp (disch := omega) only [upd_ne, wr_cons, wr_nil]; try exact hlow id hid)
      · have hlt : u + 1 ≤ lead b := by
          rcases Nat.lt_or_ge u (lead b) with h | h
          · omega
          · have e : leadF 7 b = u := by unfold lead at hu h; omega
            obtain ⟨y, h1, h2⟩ := leadF_at 7 b (by omega) (by omega)
            rw [e, List.getElem?_eq_getElem hul, hx] at h1
            cases h1; omega
        repeat (first | apply go_nil | apply go_kreg | apply go_kreg0 | apply go_kreg1 | (apply go_kregT; · (first | (simp [addT, CF, CFy, Ind, DisjF]; done) | (simp only [addT, CF, CFy, Ind]; repeat' (first | exact trivial | apply And.intro | exact Or.inl (by decide +kernel) | (refine Or.inr ⟨?_, ?_⟩ <;> (simp; try omega)))))) | apply go_then | apply go_then_exit | apply go_then_ret | apply go_blk | apply go_blk_ret | apply go_blk_here | (apply go_blk_there; · rfl) | apply go_seq | (apply go_region; · (simp only [List.length_cons, List.length_nil, Nat.reduceAdd, Nat.add_assoc]; rfl)) | apply go_skip | apply go_block | apply go_scope | apply go_label | apply go_exit | apply go_ret | (apply go_mut; (· assumption); · (simp (disch := omega) [go_sem, *, -List.reduceReplicate]; first | exact ⟨rfl, rfl⟩ | (simp [go_sem, *]; exact ⟨rfl, rfl⟩))) | (apply go_mutP; (· assumption); · (simp (disch := omega) [go_sem, *, -List.reduceReplicate]; try first | rfl | exact ⟨rfl, rfl⟩ | exact ⟨rfl, rfl, rfl⟩)) | (apply go_guard_in; (· rfl); · (simp (disch := omega) [go_sem, *, -List.reduceReplicate]; try first | rfl | omega)) | (apply go_guard_off; (· rfl); · (simp (disch := omega) [go_sem, *, -List.reduceReplicate]; try first | rfl | omega)) | (apply go_guard_no; (· rfl); · (simp (disch := omega) [go_sem, *, -List.reduceReplicate]; try rfl)) | ((first | apply go_move | apply go_assign | apply go_load | apply go_store | apply go_append | apply go_copy | apply go_copy0 | apply go_clear0 | apply go_slice3 | apply go_indexA); · (simp (disch := omega) [go_sem, *, -List.reduceReplicate]; try first | rfl | exact ⟨rfl, rfl⟩ | exact ⟨rfl, rfl, rfl⟩)) | ((first | apply go_loadv | apply go_append0 | apply go_beyond); · (simp (disch := omega) [go_sem, *, -List.reduceReplicate]; try first | rfl | exact ⟨rfl, rfl⟩ | exact ⟨rfl, rfl, rfl⟩)) | (apply go_appself; · (simp (disch := omega) [go_sem, *, -List.reduceReplicate]; try first | rfl | exact ⟨rfl, rfl⟩ | exact ⟨rfl, rfl, rfl⟩)) | ((first | (apply go_appendz; · rfl) | (apply go_new; · rfl) | (apply go_pure; · rfl)); · (simp (disch := omega) [go_sem, *, -List.reduceReplicate]; try first | rfl | exact ⟨rfl, rfl⟩ | exact ⟨rfl, rfl, rfl⟩)) | ((apply go_glob; · assumption); · (simp (disch := omega) [go_sem, *, -List.reduceReplicate]; try first | rfl | exact ⟨rfl, rfl⟩ | exact ⟨rfl, rfl, rfl⟩)) | (apply go_read1; (· rfl); · (simp (disch := omega) [go_sem, *, -List.reduceReplicate]; try first | rfl | exact ⟨rfl, rfl⟩ | exact ⟨rfl, rfl, rfl⟩)) | (apply go_rw1; (· rfl); · (simp (disch := omega) [go_sem, *, -List.reduceReplicate]; try first | rfl | exact ⟨rfl, rfl⟩ | exact ⟨rfl, rfl, rfl⟩)) | (apply go_new1; (· rfl); · (simp (disch := omega) [go_sem, *, -List.reduceReplicate]; try first | rfl | exact ⟨rfl, rfl⟩ | exact ⟨rfl, rfl, rfl⟩)) | (apply go_conv; · (simp (disch := omega) [go_sem, *, -List.reduceReplicate]; try first | rfl | exact ⟨rfl, rfl⟩ | exact ⟨rfl, rfl, rfl⟩)) | ((first | (apply go_new; · rfl) | (apply go_pure; · rfl)); · (simp (disch := omega) [go_sem, *, -List.reduceReplicate]; simp [go_sem, *]; try first | rfl | exact ⟨rfl, rfl⟩)))
        refine go_condF (by simp (disch := omega) [go_sem, *, -List.reduceReplicate]; try first | rfl | omega) ?_
        repeat (first | apply go_nil | apply go_kreg | apply go_kreg0 | apply go_kreg1 | (apply go_kregT; · (first | (simp [addT, CF, CFy, Ind, DisjF]; done) | (simp only [addT, CF, CFy, Ind]; repeat' (first | exact trivial | apply And.intro | exact Or.inl (by decide +kernel) | (refine Or.inr ⟨?_, ?_⟩ <;> (simp; try omega)))))) | apply go_then | apply go_then_exit | apply go_then_ret | apply go_blk | apply go_blk_ret | apply go_blk_here | (apply go_blk_there; · rfl) | apply go_seq | (apply go_region; · (simp only [List.length_cons, List.length_nil, Nat.reduceAdd, Nat.add_assoc]; rfl)) | apply go_skip | apply go_block | apply go_scope | apply go_label | apply go_exit | apply go_ret | (apply go_mut; (· assumption); · (simp (disch := omega) [go_sem, *, -List.reduceReplicate]; first | exact ⟨rfl, rfl⟩ | (simp [go_sem, *]; exact ⟨rfl, rfl⟩))) | (apply go_mutP; (· assumption); · (simp (disch := omega) [go_sem, *, -List.reduceReplicate]; try first | rfl | exact ⟨rfl, rfl⟩ | exact ⟨rfl, rfl, rfl⟩)) | (apply go_guard_in; (· rfl); · (simp (disch := omega) [go_sem, *, -List.reduceReplicate]; try first | rfl | omega)) | (apply go_guard_off; (· rfl); · (simp (disch := omega) [go_sem, *, -List.reduceReplicate]; try first | rfl | omega)) | (apply go_guard_no; (· rfl); · (simp (disch := omega) [go_sem, *, -List.reduceReplicate]; try rfl)) | ((first | apply go_move | apply go_assign | apply go_load | apply go_store | apply go_append | apply go_copy | apply go_copy0 | apply go_clear0 | apply go_slice3 | apply go_indexA); · (simp (disch := omega) [go_sem, *, -List.reduceReplicate]; try first | rfl | exact ⟨rfl, rfl⟩ | exact ⟨rfl, rfl, rfl⟩)) | ((first | apply go_loadv | apply go_append0 | apply go_beyond); · (simp (disch := omega) [go_sem, *, -List.reduceReplicate]; try first | rfl | exact ⟨rfl, rfl⟩ | exact ⟨rfl, rfl, rfl⟩)) | (apply go_appself; · (simp (disch := omega) [go_sem, *, -List.reduceReplicate]; try first | rfl | exact ⟨rfl, rfl⟩ | exact ⟨rfl, rfl, rfl⟩)) | ((first | (apply go_appendz; · rfl) | (apply go_new; · rfl) | (apply go_pure; · rfl)); · (simp (disch := omega) [go_sem, *, -List.reduceReplicate]; try first | rfl | exact ⟨rfl, rfl⟩ | exact ⟨rfl, rfl, rfl⟩)) | ((apply go_glob; · assumption); · (simp (disch := omega) [go_sem, *, -List.reduceReplicate]; try first | rfl | exact ⟨rfl, rfl⟩ | exact ⟨rfl, rfl, rfl⟩)) | (apply go_read1; (· rfl); · (simp (disch := omega) [go_sem, *, -List.reduceReplicate]; try first | rfl | exact ⟨rfl, rfl⟩ | exact ⟨rfl, rfl, rfl⟩)) | (apply go_rw1; (· rfl); · (simp (disch := omega) [go_sem, *, -List.reduceReplicate]; try first | rfl | exact ⟨rfl, rfl⟩ | exact ⟨rfl, rfl, rfl⟩)) | (apply go_new1; (· rfl); · (simp (disch := omega) [go_sem, *, -List.reduceReplicate]; try first | rfl | exact ⟨rfl, rfl⟩ | exact ⟨rfl, rfl, rfl⟩)) | (apply go_conv; · (simp (disch := omega) [go_sem, *, -List.reduceReplicate]; try first | rfl | exact ⟨rfl, rfl⟩ | exact ⟨rfl, rfl, rfl⟩)) | ((first | (apply go_new; · rfl) | (apply go_pure; · rfl)); · (simp (disch := omega) [go_sem, *, -List.reduceReplicate]; simp [go_sem, *]; try first | rfl | exact ⟨rfl, rfl⟩)))
        refine go_condF (by simp (disch := omega) [go_sem, *, -List.reduceReplicate]; try first | rfl | omega) ?_
        repeat (first | apply go_nil | apply go_kreg | apply go_kreg0 | apply go_kreg1 | (apply go_kregT; · (first | (simp [addT, CF, CFy, Ind, DisjF]; done) | (simp only [addT, CF, CFy, Ind]; repeat' (first | exact trivial | apply And.intro | exact Or.inl (by decide +kernel) | (refine Or.inr ⟨?_, ?_⟩ <;> (simp; try omega)))))) | apply go_then | apply go_then_exit | apply go_then_ret | apply go_blk | apply go_blk_ret | apply go_blk_here | (apply go_blk_there; · rfl) | apply go_seq | (apply go_region; · (simp only [List.length_cons, List.length_nil, Nat.reduceAdd, Nat.add_assoc]; rfl)) | apply go_skip | apply go_block | apply go_scope | apply go_label | apply go_exit | apply go_ret | (apply go_mut; (· assumption); · (simp (disch := omega) [go_sem, *, -List.reduceReplicate]; first | exact ⟨rfl, rfl⟩ | (simp [go_sem, *]; exact ⟨rfl, rfl⟩))) | (apply go_mutP; (· assumption); · (simp (disch := omega) [go_sem, *, -List.reduceReplicate]; try first | rfl | exact ⟨rfl, rfl⟩ | exact ⟨rfl, rfl, rfl⟩)) | (apply go_guard_in; (· rfl); · (simp (disch := omega) [go_sem, *, -List.reduceReplicate]; try first | rfl | omega)) | (apply go_guard_off; (· rfl); · (simp (disch := omega) [go_sem, *, -List.reduceReplicate]; try first | rfl | omega)) | (apply go_guard_no; (· rfl); · (simp (disch := omega) [go_sem, *, -List.reduceReplicate]; try rfl)) | ((first | apply go_move | apply go_assign | apply go_load | apply go_store | apply go_append | apply go_copy | apply go_copy0 | apply go_clear0 | apply go_slice3 | apply go_indexA); · (simp (disch := omega) [go_sem, *, -List.reduceReplicate]; try first | rfl | exact ⟨rfl, rfl⟩ | exact ⟨rfl, rfl, rfl⟩)) | ((first | apply go_loadv | apply go_append0 | apply go_beyond); · (simp (disch := omega) [go_sem, *, -List.reduceReplicate]; try first | rfl | exact ⟨rfl, rfl⟩ | exact ⟨rfl, rfl, rfl⟩)) | (apply go_appself; · (simp (disch := omega) [go_sem, *, -List.reduceReplicate]; try first | rfl | exact ⟨rfl, rfl⟩ | exact ⟨rfl, rfl, rfl⟩)) | ((first | (apply go_appendz; · rfl) | (apply go_new; · rfl) | (apply go_pure; · rfl)); · (simp (disch := omega) [go_sem, *, -List.reduceReplicate]; try first | rfl | exact ⟨rfl, rfl⟩ | exact ⟨rfl, rfl, rfl⟩)) | ((apply go_glob; · assumption); · (simp (disch := omega) [go_sem, *, -List.reduceReplicate]; try first | rfl | exact ⟨rfl, rfl⟩ | exact ⟨rfl, rfl, rfl⟩)) | (apply go_read1; (· rfl); · (simp (disch := omega) [go_sem, *, -List.reduceReplicate]; try first | rfl | exact ⟨rfl, rfl⟩ | exact ⟨rfl, rfl, rfl⟩)) | (apply go_rw1; (· rfl); · (simp (disch := omega) [go_sem, *, -List.reduceReplicate]; try first | rfl | exact ⟨rfl, rfl⟩ | exact ⟨rfl, rfl, rfl⟩)) | (apply go_new1; (· rfl); · (simp (disch := omega) [go_sem, *, -List.reduceReplicate]; try first | rfl | exact ⟨rfl, rfl⟩ | exact ⟨rfl, rfl, rfl⟩)) | (apply go_conv; · (simp (disch := omega) [go_sem, *, -List.reduceReplicate]; try first | rfl | exact ⟨rfl, rfl⟩ | exact ⟨rfl, rfl, rfl⟩)) | ((first | (apply go_new; · rfl) | (apply go_pure; · rfl)); · (simp (disch := omega) [go_sem, *, -List.reduceReplicate]; simp [go_sem, *]; try first | rfl | exact ⟨rfl, rfl⟩)))
        refine go_condF (by simp (disch := omega) [go_sem, *, -List.reduceReplicate]; try first | rfl | omega) ?_
        repeat (first | apply go_nil | apply go_kreg | apply go_kreg0 | apply go_kreg1 | (apply go_kregT; · (first | (simp [addT, CF, CFy, Ind, DisjF]; done) | (simp only [addT, CF, CFy, Ind]; repeat' (first | exact trivial | apply And.intro | exact Or.inl (by decide +kernel) | (refine Or.inr ⟨?_, ?_⟩ <;> (simp; try omega)))))) | apply go_then | apply go_then_exit | apply go_then_ret | apply go_blk | apply go_blk_ret | apply go_blk_here | (apply go_blk_there; · rfl) | apply go_seq | (apply go_region; · (simp only [List.length_cons, List.length_nil, Nat.reduceAdd, Nat.add_assoc]; rfl)) | apply go_skip | apply go_block | apply go_scope | apply go_label | apply go_exit | apply go_ret | (apply go_mut; (· assumption); · (simp (disch := omega) [go_sem, *, -List.reduceReplicate]; first | exact ⟨rfl, rfl⟩ | (simp [go_sem, *]; exact ⟨rfl, rfl⟩))) | (apply go_mutP; (· assumption); · (simp (disch := omega) [go_sem, *, -List.reduceReplicate]; try first | rfl | exact ⟨rfl, rfl⟩ | exact ⟨rfl, rfl, rfl⟩)) | (apply go_guard_in; (· rfl); · (simp (disch := omega) [go_sem, *, -List.reduceReplicate]; try first | rfl | omega)) | (apply go_guard_off; (· rfl); · (simp (disch := omega) [go_sem, *, -List.reduceReplicate]; try first | rfl | omega)) | (apply go_guard_no; (· rfl); · (simp (disch := omega) [go_sem, *, -List.reduceReplicate]; try rfl)) | ((first | apply go_move | apply go_assign | apply go_load | apply go_store | apply go_append | apply go_copy | apply go_copy0 | apply go_clear0 | apply go_slice3 | apply go_indexA); · (simp (disch := omega) [go_sem, *, -List.reduceReplicate]; try first | rfl | exact ⟨rfl, rfl⟩ | exact ⟨rfl, rfl, rfl⟩)) | ((first | apply go_loadv | apply go_append0 | apply go_beyond); · (simp (disch := omega) [go_sem, *, -List.reduceReplicate]; try first | rfl | exact ⟨rfl, rfl⟩ | exact ⟨rfl, rfl, rfl⟩)) | (apply go_appself; · (simp (disch := omega) [go_sem, *, -List.reduceReplicate]; try first | rfl | exact ⟨rfl, rfl⟩ | exact ⟨rfl, rfl, rfl⟩)) | ((first | (apply go_appendz; · rfl) | (apply go_new; · rfl) | (apply go_pure; · rfl)); · (simp (disch := omega) [go_sem, *, -List.reduceReplicate]; try first | rfl | exact ⟨rfl, rfl⟩ | exact ⟨rfl, rfl, rfl⟩)) | ((apply go_glob; · assumption); · (simp (disch := omega) [go_sem, *, -List.reduceReplicate]; try first | rfl | exact ⟨rfl, rfl⟩ | exact ⟨rfl, rfl, rfl⟩)) | (apply go_read1; (· rfl); · (simp (disch := omega) [go_sem, *, -List.reduceReplicate]; try first | rfl | exact ⟨rfl, rfl⟩ | exact ⟨rfl, rfl, rfl⟩)) | (apply go_rw1; (· rfl); · (simp (disch := omega) [go_sem, *, -List.reduceReplicate]; try first | rfl | exact ⟨rfl, rfl⟩ | exact ⟨rfl, rfl, rfl⟩)) | (apply go_new1; (· rfl); · (simp (disch := omega) [go_sem, *, -List.reduceReplicate]; try first | rfl | exact ⟨rfl, rfl⟩ | exact ⟨rfl, rfl, rfl⟩)) | (apply go_conv; · (simp (disch := omega) [go_sem, *, -List.reduceReplicate]; try first | rfl | exact ⟨rfl, rfl⟩ | exact ⟨rfl, rfl, rfl⟩)) | ((first | (apply go_new; · rfl) | (apply go_pure; · rfl)); · (simp (disch := omega) [go_sem, *, -List.reduceReplicate]; simp [go_sem, *]; try first | rfl | exact ⟨rfl, rfl⟩)))
        refine ⟨⟨u + 1, by simp (disch := omega) [go_sem, *, -List.reduceReplicate], by simp (disch := omega) [go_sem, *, -List.reduceReplicate], by simp (disch := omega) [go_sem, *, -List.reduceReplicate], (fun id hid => by simp (disch := omega) only [upd_ne, wr_cons, wr_nil]; try exact hlow id hid), by simp only; omega, hlt⟩, ?_⟩
        simp (disch := omega) [go_sem, *, -List.reduceReplicate]
        omega

theorem leb_pos (n : Nat) : 1 ≤ (leb n).length := by
  by_cases h : n < 128
  · rw [leb_small h]; simp
  · rw [leb_big h]; simp

theorem leb_len1 (n : Nat) : ∀ k, n < 128 ^ (k + 1) → (leb n).length ≤ k + 1 := by
  induction n using Nat.strongRecOn with
  | _ n ih =>
    intro k hk
    by_cases h : n < 128
    · rw [leb_small h]; simp
    · rw [leb_big h]
      cases k with
      | zero => simp at hk; omega
      | succ k =>
        have := ih (n / 128) (by omega) k (by rw [Nat.pow_succ] at hk; omega)
        simp; omega
theorem u8_toNat {n : Nat} (h : n < 256) : (u8 n).toNat = n := by
  unfold u8; rw [UInt8.toNat_ofNat', Nat.mod_eq_of_lt h]
theorem vl_cons (x : UInt8) (r : List UInt8) : ∀ j, vl (x :: r) (j + 1) = x.toNat % 128 + 128 * vl r j
  | 0 => by simp [vl]
  | j + 1 => by
    rw [vl, vl_cons x r j, vl]
    simp only [List.getD_cons_succ, Nat.pow_succ]
    rw [Nat.mul_add, Nat.add_assoc]
    congr 2
    rw [← Nat.mul_assoc, Nat.mul_comm _ 128]
theorem leadF_leb (n : Nat) : ∀ (f : Nat) (t : List UInt8), (leb n).length ≤ f → leadF f (leb n ++ t) = (leb n).length - 1 := by
  induction n using Nat.strongRecOn with
  | _ n ih =>
    intro f t hf
    by_cases h : n < 128
    · rw [leb_small h] at hf ⊢
      cases f with
      | zero => simp at hf
      | succ f => simp [leadF, u8_toNat (show n < 256 by omega)]; omega
    · rw [leb_big h] at hf ⊢
      cases f with
      | zero => simp at hf
      | succ f =>
        have hp := leb_pos (n / 128)
        simp only [List.cons_append, leadF, u8_toNat (show n % 128 + 128 < 256 by omega)]
        rw [if_pos (by omega), ih (n / 128) (by omega) f t (by simp at hf; omega)]
        simp; omega
theorem vl_leb (n : Nat) : ∀ t : List UInt8, vl (leb n ++ t) (leb n).length = n := by
  induction n using Nat.strongRecOn with
  | _ n ih =>
    intro t
    by_cases h : n < 128
    · rw [leb_small h]
      simp only [List.cons_append, List.nil_append, List.length_cons, List.length_nil, vl_cons, u8_toNat (show n < 256 by omega), vl]
      omega
    · rw [leb_big h]
      simp only [List.cons_append, List.length_cons, vl_cons, u8_toNat (show n % 128 + 128 < 256 by omega)]
      rw [ih (n / 128) (by omega) t]
      omega
theorem last_leb (n : Nat) : ∀ t : List UInt8, 0 < (leb n).length - 1 → ((leb n ++ t).getD ((leb n).length - 1) 0).toNat ≠ 0 := by
  induction n using Nat.strongRecOn with
  | _ n ih =>
    intro t hl
    by_cases h : n < 128
    · rw [leb_small h] at hl; simp at hl
    · rw [leb_big h]
      have hp := leb_pos (n / 128)
      have e : (u8 (n % 128 + 128) :: leb (n / 128)).length - 1 = ((leb (n / 128)).length - 1) + 1 := by simp; omega
      rw [e, List.cons_append, List.getD_cons_succ]
      by_cases h2 : n / 128 < 128
      · rw [leb_small h2]
        simp [u8_toNat (show n / 128 < 256 by omega)]
        omega
      · refine ih (n / 128) (by omega) t ?_
        rw [leb_big h2]
        have := leb_pos (n / 128 / 128)
        simp; omega

theorem rdS_leb (n : Nat) (hn : n ≤ 281474976710656) (t : List UInt8) : rdS (leb n ++ t) = (n, (leb n).length, 0) := by
  have hl := leb_len1 n 6 (by omega)
  have hp := leb_pos n
  have h1 : lead (leb n ++ t) = (leb n).length - 1 := leadF_leb n 7 t (by omega)
  have h2 : vl (leb n ++ t) ((leb n).length - 1 + 1) = n := by rw [Nat.sub_add_cancel hp]; exact vl_leb n t
  unfold rdS
  rw [h1, h2, if_neg (by omega), if_neg (by rw [List.length_append]; omega), if_neg (fun h => last_leb n t h.1 h.2), if_neg (by omega), Nat.sub_add_cancel hp]

theorem leb_vl : ∀ (l : Nat) (b : List UInt8), l < b.length → (∀ i, i < l → ∃ x, b[i]? = some x ∧ 128 ≤ x.toNat) → (b.getD l 0).toNat < 128 → (l = 0 ∨ (b.getD l 0).toNat ≠ 0) → leb (vl b (l + 1)) = b.take (l + 1)
  | 0, [], h, _, _, _ => by simp at h
  | 0, x :: r, _, _, h, _ => by
    simp only [List.getD_cons_zero] at h
    have : vl (x :: r) (0 + 1) = x.toNat := by rw [vl_cons]; simp [vl]; omega
    rw [this, leb_small h]
    simp [u8]
  | l + 1, [], h, _, _, _ => by simp at h
  | l + 1, x :: r, hl, hb, h, hz => by
    simp only [List.getD_cons_succ] at h hz
    have hz' : (r.getD l 0).toNat ≠ 0 := hz.resolve_left (by omega)
    obtain ⟨y, hy, hy1⟩ := hb 0 (by omega)
    simp at hy; subst hy
    have ih := leb_vl l r (by simpa using hl) (fun i hi => by simpa using hb (i + 1) (by omega)) h (.inr hz')
    have hpos : 1 ≤ vl r (l + 1) := by
      have : 1 ≤ (r.getD l 0).toNat % 128 * 128 ^ l := Nat.mul_pos (by omega) (Nat.pow_pos (by omega))
      simp only [vl]; omega
    have hx := x.toNat_lt
    rw [vl_cons, leb_big (by omega), show (x.toNat % 128 + 128 * vl r (l + 1)) % 128 + 128 = x.toNat by omega, show (x.toNat % 128 + 128 * vl r (l + 1)) / 128 = vl r (l + 1) by omega, ih]
    simp [u8]

theorem rdS_ok (b : List UInt8) {n u : Nat} (h : rdS b = (n, u, 0)) : n ≤ 281474976710656 ∧ u ≤ b.length ∧ leb n = b.take u := by
  have hle := leadF_le 7 b
  unfold rdS at h
  split at h
  · simp at h
  · rename_i h7
    split at h
    · simp at h
    · rename_i hlen
      split at h
      · simp at h
      · rename_i hz
        split at h
        · simp at h
        · rename_i hm
          simp only [Prod.mk.injEq, and_true] at h
          obtain ⟨rfl, rfl⟩ := h
          unfold lead at *
          obtain ⟨x, hx1, hx2⟩ := leadF_at 7 b (by omega) (by omega)
          have hg : b.getD (leadF 7 b) 0 = x := by simp [List.getD, hx1]
          refine ⟨by omega, by omega, leb_vl _ b (by omega) (fun i hi => leadF_lt 7 b i hi) (by rw [hg]; exact hx2) ?_⟩
          by_cases h0 : leadF 7 b = 0
          · exact .inl h0
          · exact .inr fun e => hz ⟨by omega, e⟩
theorem rdS_bad (b : List UInt8) : (rdS b).2.2 = 0 ∨ ∃ e, rdS b = (0, 0, e) ∧ e ≠ 0 := by
  unfold rdS
  split
  · exact .inr ⟨5, rfl, by omega⟩
  · split
    · exact .inr ⟨3, rfl, by omega⟩
    · split
      · exact .inr ⟨5, rfl, by omega⟩
      · split
        · exact .inr ⟨1, rfl, by omega⟩
        · exact .inl rfl

/-- A slice, cut where it is longer than c. -/

theorem vl_back (b : List UInt8) (i : Nat) (n : Nat) : vl b (i + 1) + n * 128 ^ (i + 1) = vl b i + (128 * n + (b.getD i 0).toNat % 128) * 128 ^ i := by
  simp only [vl, Nat.pow_succ, Nat.add_mul]
  have : n * (128 ^ i * 128) = 128 * n * 128 ^ i := by rw [Nat.mul_comm (128 ^ i), ← Nat.mul_assoc, Nat.mul_comm n]
  omega

theorem lead_lt (b : List UInt8) (i : Nat) (h : i < lead b) : ∃ h : i < b.length, 127 < (b[i].toNat : Int) := by
  obtain ⟨x, hx, hx2⟩ := leadF_lt 7 b i h
  obtain ⟨h1, h2⟩ := List.getElem?_eq_some_iff.1 hx
  exact ⟨h1, by rw [h2]; omega⟩
theorem lead_at (b : List UInt8) (h : lead b < 7) (h2 : lead b < b.length) : (b[lead b].toNat : Int) < 128 := by
  obtain ⟨x, hx, hx2⟩ := leadF_at 7 b h h2
  obtain ⟨h1, h3⟩ := List.getElem?_eq_some_iff.1 hx
  have e : b[lead b].toNat = x.toNat := congrArg UInt8.toNat h3
  omega

def rdTail (b : List UInt8) (L : Nat) : Nat × Nat × Nat :=
  if L = 7 then (0, 0, 5) else if L = b.length then (0, 0, 3) else if 0 < L ∧ (b.getD L 0).toNat = 0 then (0, 0, 5) else
    if 281474976710656 < vl b (L + 1) then (0, 0, 1) else (vl b (L + 1), L + 1, 0)

theorem pow_step (n x i l : Nat) (h : n < 128 ^ (l - i)) (hi : i < l) (hx : x < 128) : 128 * n + x < 128 ^ (l - (i - 1)) ∨ i = 0 := by
  by_cases h0 : i = 0
  · exact .inr h0
  · left
    have e : l - (i - 1) = (l - i) + 1 := by omega
    rw [e, Nat.pow_succ]; omega

set_option maxHeartbeats 800000 in
theorem refRead_spec (b : List UInt8) (hb : b.length ≤ 100000000) (k : Nat) : ACall Try.prog 25 [.slice none (b.map byteAV)] k [] (rdAV (rdS b)) [] := by
  have hl7 : lead b ≤ 7 := (leadF_le 7 b).1
  have hll : lead b ≤ b.length := (leadF_le 7 b).2
  have hlt := lead_lt b
  have hat := lead_at b
  have hrd : rdS b = rdTail b (lead b) := rfl
  rw [hrd]
  clear hrd
  generalize lead b = L at *
  refine ACall.of_body mixed Try.func25 rfl (by kernel_rfl) Try.ntmps25 (by kernel_rfl) rfl (by simp) (by simp) (by simp) fun σ N hp hpn hk hkn hfree => ?_
  refine Wk ?_
  refine go_after (fun c => c.s 5 = .lit (.int .i64 L) ∧ c.s 0 = .slice none (b.map byteAV) ∧ N + 4 ≤ c.n ∧ (∀ id, id < N → c.σ id = σ id)) ?_ ?_
  · refine go_loop (aloop mixed (by kernel_rfl) (fun c => ∃ i : Nat, c.s 5 = .lit (.int .i64 i) ∧ c.s 0 = .slice none (b.map byteAV) ∧ N + 4 ≤ c.n ∧ (∀ id, id < N → c.σ id = σ id) ∧ i ≤ L)
      (fun c => match c.s 5 with | .lit (.int _ m) => L - m.toNat | _ => 0) ⟨0, by simp (disch := omega) [go_sem, *, -List.reduceReplicate], by simp (disch := omega) [go_sem, *, -List.reduceReplicate], by simp, (fun id hid => by simp (disch := omega) only [upd_ne, wr_cons, wr_nil]; try exact hlow id hid), by omega⟩ ?_)
    rintro ⟨s, σ', n'⟩ ⟨i, h5, h0, hn', hlow, hi⟩
    simp only at h5 h0 hn' hlow
    by_cases hiL : i < L
    · obtain ⟨hib, g3⟩ := hlt i hiL
      have g1 : (i : Int) < (b.length : Int) := by omega
      have g2 : (i : Int) < 7 := by omega
      clear hlt hat
      refine Wk ?_
      refine ⟨⟨i + 1, by simp (disch := omega) [go_sem, *, -List.reduceReplicate], by simp (disch := omega) [go_sem, *, -List.reduceReplicate], by simp only; omega, (fun id hid => by simp (disch := omega) only [upd_ne, wr_cons, wr_nil]; try exact hlow id hid), by omega⟩, ?_⟩
      simp (disch := omega) [go_sem, *, -List.reduceReplicate]
      omega
    · have hiL' : i = L := by omega
      subst hiL'
      clear hlt hi hiL
      by_cases c1 : (i : Int) < (b.length : Int)
      · by_cases c2 : (i : Int) < 7
        · have c3 := hat (by omega) (by omega)
          have c4 : ¬ (127 : Int) < (b[i].toNat : Int) := by omega
          clear hat c3
          refine Wk ?_
          exact ⟨by simp (disch := omega) [go_sem, *, -List.reduceReplicate], by simp (disch := omega) [go_sem, *, -List.reduceReplicate], by simp only; omega, (fun id hid => by simp (disch := omega) only [upd_ne, wr_cons, wr_nil]; try exact hlow id hid)⟩
        · clear hat
          refine Wk ?_
          exact ⟨by simp (disch := omega) [go_sem, *, -List.reduceReplicate], by simp (disch := omega) [go_sem, *, -List.reduceReplicate], by simp only; omega, (fun id hid => by simp (disch := omega) only [upd_ne, wr_cons, wr_nil]; try exact hlow id hid)⟩
      · clear hat
        refine Wk ?_
        exact ⟨by simp (disch := omega) [go_sem, *, -List.reduceReplicate], by simp (disch := omega) [go_sem, *, -List.reduceReplicate], by simp only; omega, (fun id hid => by simp (disch := omega) only [upd_ne, wr_cons, wr_nil]; try exact hlow id hid)⟩
  · rintro ⟨s, σ', n'⟩ ⟨h5, h0, hn', hlow⟩
    simp only at h5 h0 hn' hlow
    clear hlt hat
    unfold rdTail rdAV
    by_cases c1 : L = 7
    · rw [if_pos c1]
      subst c1
      exact W0
    · rw [if_neg c1]
      by_cases c2 : L = b.length
      · rw [if_pos c2]
        have d1 : ¬ (L : Int) = 7 := by omega
        have d2 : (L : Int) = (b.length : Int) := by omega
        exact W0
      · rw [if_neg c2]
        have d1 : ¬ (L : Int) = 7 := by omega
        have d2 : ¬ (L : Int) = (b.length : Int) := by omega
        have d3 : L < b.length := by omega
        have hg : (b.getD L 0).toNat = b[L].toNat := by simp [List.getD, d3]
        by_cases c3 : 0 < L ∧ (b.getD L 0).toNat = 0
        · rw [if_pos c3]
          have e1 : (0 : Int) < (L : Int) := by omega
          have e2 : (b[L].toNat : Int) = 0 := by omega
          clear hg c3
          exact W0
        · rw [if_neg c3]
          have key : ((0 : Int) < (L : Int) ∧ ¬ (b[L].toNat : Int) = 0) ∨ ¬ 0 < L := by omega
          have hv := vl_lt b (L + 1)
          have hL6 : L ≤ 6 := by omega
          clear hg c3
          have hlow0 := hlow
          rcases key with ⟨e1, e2⟩ | e1
          all_goals
            refine Wk ?_
            refine go_after (fun c => c.s 5 = .lit (.int .i64 L) ∧ c.s 6 = .lit (.int .i64 (vl b (L + 1))) ∧ (∀ id, id < N → c.σ id = σ id)) ?_ ?_
            · refine go_loop (aloop mixed (by kernel_rfl) (fun c => ∃ (i n : Nat), c.s 7 = .lit (.int .i64 ((i : Int) - 1)) ∧ c.s 5 = .lit (.int .i64 L) ∧ c.s 6 = .lit (.int .i64 n) ∧ c.s 0 = .slice none (b.map byteAV) ∧ (∀ id, id < N → c.σ id = σ id) ∧ N ≤ c.n ∧ i ≤ L + 1 ∧ vl b (L + 1) = vl b i + n * 128 ^ i)
                (fun c => match c.s 7 with | .lit (.int _ m) => (m + 1).toNat | _ => 0) ⟨L + 1, 0, by (simp (disch := omega) [go_sem, *, -List.reduceReplicate]; try omega), by simp (disch := omega) [go_sem, *, -List.reduceReplicate], by simp (disch := omega) [go_sem, *, -List.reduceReplicate], by simp (disch := omega) [go_sem, *, -List.reduceReplicate], (fun id hid => by simp (disch := omega) only [upd_ne, wr_cons, wr_nil]; try exact hlow id hid), by simp only; omega, by omega, by omega⟩ ?_)
              rintro ⟨s2, σ2, n2⟩ ⟨i, n, h7, h5, h6, h0, hlow, hn2, hi, hvl⟩
              simp only at h7 h5 h6 h0 hlow hn2
              by_cases hi0 : i = 0
              · subst hi0
                have f1 : ¬ (0 : Int) ≤ ((0 : Nat) : Int) - 1 := by omega
                have f2 : n = vl b (L + 1) := by rw [hvl]; simp [vl]
                clear hvl
                subst f2
                refine Wk ?_
                exact ⟨by simp (disch := omega) [go_sem, *, -List.reduceReplicate], by simp (disch := omega) [go_sem, *, -List.reduceReplicate], (fun id hid => by simp (disch := omega) only [upd_ne, wr_cons, wr_nil]; try exact hlow id hid)⟩
              · obtain ⟨i, rfl⟩ : ∃ j, i = j + 1 := ⟨i - 1, by omega⟩
                have f0 : ((i + 1 : Nat) : Int) - 1 = (i : Int) := by omega
                rw [f0] at h7
                have f1 : (0 : Int) ≤ (i : Int) := by omega
                have f2 : (i : Int) < (b.length : Int) := by omega
                have f3 : i < b.length := by omega
                rw [vl_back] at hvl
                have hg : (b.getD i 0).toNat = b[i].toNat := by simp [List.getD, f3]
                rw [hg] at hvl
                have hpos : 0 < 128 ^ i := Nat.pow_pos (by omega)
                have hbig : (128 * n + b[i].toNat % 128) * 1 ≤ (128 * n + b[i].toNat % 128) * 128 ^ i := Nat.mul_le_mul_left _ hpos
                have hvl7 : 128 ^ (L + 1) ≤ 128 ^ 7 := Nat.pow_le_pow_right (by omega) (by omega)
                have hsm : 128 * n + b[i].toNat % 128 < 562949953421312 := by omega
                have w1 : IntKind.i64.wrap (b[i].toNat : Int) = (b[i].toNat : Int) := wrap_i64 (by omega) (by have := b[i].toNat_lt; omega)
                have w2 : (b[i].toNat : Int).tmod 128 = ((b[i].toNat % 128 : Nat) : Int) := by rw [Int.tmod_eq_emod_of_nonneg (by omega)]; omega
                have w3 : IntKind.i64.wrap (128 * (n : Int)) = 128 * (n : Int) := wrap_i64 (by omega) (by omega)
                have w4 : IntKind.i64.wrap (128 * (n : Int) + ((b[i].toNat % 128 : Nat) : Int)) = ((128 * n + b[i].toNat % 128 : Nat) : Int) := by rw [wrap_i64 (by omega) (by omega)]; omega
                clear f0 hg hpos hbig hvl7
                have HV : vl b (L + 1) = vl b i + (128 * n + b[i].toNat % 128) * 128 ^ i := hvl
                clear hvl
                generalize hN : 128 * n + b[i].toNat % 128 = n3 at *
                generalize hB : ((b[i].toNat % 128 : Nat) : Int) = q at *
                clear hN hB
                revert HV
                generalize hVV : vl b (L + 1) = VV at *
                intro HV
                refine Wk ?_
                refine ⟨⟨i, n3, by simp (disch := omega) [go_sem, *, -List.reduceReplicate], by simp (disch := omega) [go_sem, *, -List.reduceReplicate], by simp (disch := omega) [go_sem, *, -List.reduceReplicate], by simp (disch := omega) [go_sem, *, -List.reduceReplicate], (fun id hid => by simp (disch := omega) only [upd_ne, wr_cons, wr_nil]; try exact hlow id hid), by simp only; omega, by omega, HV⟩, ?_⟩
                simp (disch := omega) [go_sem, *, -List.reduceReplicate]
                try omega
            · rintro ⟨s2, σ2, n2⟩ ⟨h5, h6, hlow⟩
              simp only at h5 h6 hlow
              have hvl7 : 128 ^ (L + 1) ≤ 128 ^ 7 := Nat.pow_le_pow_right (by omega) (by omega)
              have hv2 : vl b (L + 1) < 562949953421312 := by omega
              clear hv hvl7
              by_cases c4 : 281474976710656 < vl b (L + 1)
              · rw [if_pos c4]
                have c5 : (281474976710656 : Int) < (vl b (L + 1) : Int) := by omega
                clear c4
                exact W0
              · rw [if_neg c4]
                have c5 : ¬ (281474976710656 : Int) < (vl b (L + 1) : Int) := by omega
                clear c4
                exact W0
end Go.Proofs.Ytmhehlfocfhpkaa

/- Shared: fields: Field, field.Append, field.Read, the specified ones. -/
namespace Go.Proofs.Ytmhehlfocfhpkaa
open Go.Ab
attribute [local irreducible] Go.Ab.tyAV Go.Ab.aw Go.Ab.aops Go.Ab.kReg Go.Ab.aThen Go.Ab.aBlk Go.Ab.acond Go.Ab.aguard Go.Ab.astep Go.Ab.AStepX Go.Ab.aRet

def fieldB (x : List UInt8) : List UInt8 := leb x.length ++ x

theorem Field_spec (x : List UInt8) (hx : x.length ≤ 10000000) (k : Nat) : ACall Try.prog 26 [.slice none (x.map byteAV)] k [] (.slice (some k) ((fieldB x).map byteAV)) [(k, .row 5 1 ((leb x.length).length + x.length))] := by
  have hl := leb_len x.length 8 (by omega)
  have hc := Number_spec x.length
  have hn9 : x.length < 128 ^ 9 := by omega
  unfold fieldB
  refine ACall.of_body mixed Try.func26 rfl (by kernel_rfl) Try.ntmps26 (by kernel_rfl) rfl (by simp) (by simp) (by simp) fun σ N hp hpn hk hkn hfree => ?_
  refine Wk ?_
  refine go_callw (hc _ hn9) (by simp (disch := omega) [go_sem, *, -List.reduceReplicate]; try rfl) (by simp (disch := omega) [go_sem, *, -List.reduceReplicate]; repeat' first | exact ALe.nil | exact AV.le_refl _ | exact AV.le_nils | exact AV.le_own _ _ | apply ALe.cons | apply AV.sub_agg) (by simp (disch := omega) [go_sem, *, -List.reduceReplicate]) ?_
  refine Wk ?_
  refine go_result1 (r0 := N+3) (by simp (disch := omega) [go_sem, *, -List.reduceReplicate]; rfl) (by omega) (by simp (disch := omega) [go_sem]; try rfl) (fun id hid => by simp (disch := omega) only [upd_ne, wr_cons, wr_nil]; try exact hlow id hid) (by simp (disch := omega) only [upd_same, upd_ne]; rfl) (by simp (disch := omega) [go_sem])

theorem field_bad (b x : List UInt8) (hx : 1024 < x.length) (k : Nat) : ACall Try.prog 13 [.slice none (b.map byteAV), .slice none (x.map byteAV)] k [] (.tup [.nils, .lit (.int .i64 2)]) [] := by
  have hx' : (1024 : Int) < (x.length : Int) := by omega
  refine ACall.of_body mixed Try.func13 rfl (by kernel_rfl) Try.ntmps13 (by kernel_rfl) rfl (by simp) (by simp) (by simp) fun σ N hp hpn hk hkn hfree => ?_
  exact W0

theorem field_ok (b x : List UInt8) (hb : b.length ≤ 10000000) (hx : x.length ≤ 1024) (k : Nat) : ACall Try.prog 13 [.slice none (b.map byteAV), .slice none (x.map byteAV)] k []
    (.tup [.slice (some k) ((b ++ fieldB x).map byteAV), .lit (.int .i64 0)]) [(k, .row 5 1 (b ++ fieldB x).length)] := by
  have hl := leb_len x.length 2 (by omega)
  have hx' : ¬ (1024 : Int) < (x.length : Int) := by omega
  have hc := Append_ok b (by omega) x.length (by omega)
  have hf : (b ++ fieldB x) = b ++ leb x.length ++ x := by simp [fieldB]
  rw [hf, List.length_append, List.length_append]
  refine ACall.of_body mixed Try.func13 rfl (by kernel_rfl) Try.ntmps13 (by kernel_rfl) rfl (by simp) (by simp) (by simp) fun σ N hp hpn hk hkn hfree => ?_
  have hcs := And.intro hc True.intro
  refine Wk ?_
  refine go_result1 (r0 := N+8) (by simp (disch := omega) [go_sem, *, -List.reduceReplicate]; rfl) (by omega) (by simp (disch := omega) [go_sem]; try rfl) (fun id hid => by simp (disch := omega) only [upd_ne, wr_cons, wr_nil]; try exact hlow id hid) (by simp (disch := omega) only [upd_same, upd_ne]; rfl) (by simp (disch := omega) [go_sem])

theorem Field_spec_f (x : List UInt8) (hx : x.length ≤ 10000000) (k : Nat) : ACall Try.prog 26 [.slice none (x.map byteAV)] k [] (.slice none ((fieldB x).map byteAV)) [] := by
  have hl := leb_len x.length 8 (by omega)
  have hc := Number_spec x.length
  have hn9 : x.length < 128 ^ 9 := by omega
  unfold fieldB
  refine ACall.of_body mixed Try.func26 rfl (by kernel_rfl) Try.ntmps26 (by kernel_rfl) rfl (by simp) (by simp) (by simp) fun σ N hp hpn hk hkn hfree => ?_
  refine Wk ?_
  refine go_callw (hc _ hn9) (by simp (disch := omega) [go_sem, *, -List.reduceReplicate]; try rfl) (by simp (disch := omega) [go_sem, *, -List.reduceReplicate]; repeat' first | exact ALe.nil | exact AV.le_refl _ | exact AV.le_nils | exact AV.le_own _ _ | apply ALe.cons | apply AV.sub_agg) (by simp (disch := omega) [go_sem, *, -List.reduceReplicate]) ?_
  exact WM

theorem field_ok_f (b x : List UInt8) (hb : b.length ≤ 10000000) (hx : x.length ≤ 1024) (k : Nat) : ACall Try.prog 13 [.slice none (b.map byteAV), .slice none (x.map byteAV)] k []
    (.tup [.slice none ((b ++ fieldB x).map byteAV), .lit (.int .i64 0)]) [] := by
  have hl := leb_len x.length 2 (by omega)
  have hx' : ¬ (1024 : Int) < (x.length : Int) := by omega
  have hc := Append_ok b (by omega) x.length (by omega)
  have hf : (b ++ fieldB x) = b ++ leb x.length ++ x := by simp [fieldB]
  rw [hf]
  refine ACall.of_body mixed Try.func13 rfl (by kernel_rfl) Try.ntmps13 (by kernel_rfl) rfl (by simp) (by simp) (by simp) fun σ N hp hpn hk hkn hfree => ?_
  have hcs := And.intro hc True.intro
  exact WL

/-- The field at the beginning of bytes. -/
def rdF (b : List UInt8) : List UInt8 × Nat × Nat :=
  if (rdS b).2.2 ≠ 0 then ([], 0, (rdS b).2.2) else if 1024 < (rdS b).1 then ([], 0, 2) else if b.length - (rdS b).2.1 < (rdS b).1 then ([], 0, 3)
  else ((b.drop (rdS b).2.1).take (rdS b).1, (rdS b).2.1 + (rdS b).1, 0)
def rdFAV (r : List UInt8 × Nat × Nat) : AV := .tup [.slice none (r.1.map byteAV), .lit (.int .i64 r.2.1), .lit (.int .i64 r.2.2)]

theorem rdS_le (b : List UInt8) : (rdS b).2.1 ≤ b.length := by
  rcases rdS_bad b with h | ⟨e, h, _⟩
  · exact (rdS_ok b (n := (rdS b).1) (u := (rdS b).2.1) (by rw [← h])).2.1
  · rw [h]; simp

theorem take_drop_bytes (b : List UInt8) (u n : Nat) : ((b.map byteAV).take (u + n)).drop u = ((b.drop u).take n).map byteAV := by
  rw [List.map_take, List.map_drop, List.drop_take]
  congr 1
  omega

theorem fieldRead_spec (b : List UInt8) (hb : b.length ≤ 10000000) (k : Nat) : ACall Try.prog 27 [.slice none (b.map byteAV)] k [] (rdFAV (rdF b)) [] := by
  have c1 := Read_spec b (by omega)
  have hu := rdS_le b
  unfold rdF rdFAV
  generalize rdS b = r at *
  obtain ⟨n, u, e⟩ := r
  simp only [rdAV] at c1 hu ⊢
  by_cases h1 : e ≠ 0
  · rw [if_pos h1]
    have g1 : ¬ (e : Int) = 0 := by omega
    clear h1
    refine ACall.of_body mixed Try.func27 rfl (by kernel_rfl) Try.ntmps27 (by kernel_rfl) rfl (by simp) (by simp) (by simp) fun σ N hp hpn hk hkn hfree => ?_
    have hcs := And.intro c1 True.intro
    exact WL
  · rw [if_neg h1]
    have e0 : e = 0 := by omega
    subst e0
    clear h1
    by_cases h2 : 1024 < n
    · rw [if_pos h2]
      have g1 : (1024 : Int) < (n : Int) := by omega
      clear h2
      refine ACall.of_body mixed Try.func27 rfl (by kernel_rfl) Try.ntmps27 (by kernel_rfl) rfl (by simp) (by simp) (by simp) fun σ N hp hpn hk hkn hfree => ?_
      have hcs := And.intro c1 True.intro
      exact WL
    · rw [if_neg h2]
      have g1 : ¬ (1024 : Int) < (n : Int) := by omega
      by_cases h3 : b.length - u < n
      · rw [if_pos h3]
        have g2 : (b.length : Int) - (u : Int) < (n : Int) := by omega
        clear h3 h2
        refine ACall.of_body mixed Try.func27 rfl (by kernel_rfl) Try.ntmps27 (by kernel_rfl) rfl (by simp) (by simp) (by simp) fun σ N hp hpn hk hkn hfree => ?_
        have hcs := And.intro c1 True.intro
        exact WL
      · rw [if_neg h3]
        have g2 : ¬ (b.length : Int) - (u : Int) < (n : Int) := by omega
        have g3 : ((u : Int) + (n : Int)).toNat = u + n := by omega
        have g4 : u + n ≤ b.length := by omega
        have htd := take_drop_bytes b u n
        have c2 := SClone_spec ((b.drop u).take n) (by rw [List.length_take]; omega)
        have hl : ((b.drop u).take n).length = n := by rw [List.length_take, List.length_drop]; omega
        generalize (b.drop u).take n = y at *
        clear h3 h2
        refine ACall.of_body mixed Try.func27 rfl (by kernel_rfl) Try.ntmps27 (by kernel_rfl) rfl (by simp) (by simp) (by simp) fun σ N hp hpn hk hkn hfree => ?_
        have hcs := And.intro c1 (And.intro c2 True.intro)
        exact WL

theorem refReadField_spec (b : List UInt8) (hb : b.length ≤ 10000000) (k : Nat) : ACall Try.prog 28 [.slice none (b.map byteAV)] k [] (rdFAV (rdF b)) [] := by
  have c1 := refRead_spec b (by omega)
  have hu := rdS_le b
  unfold rdF rdFAV
  generalize rdS b = r at *
  obtain ⟨n, u, e⟩ := r
  simp only [rdAV] at c1 hu ⊢
  by_cases h1 : e ≠ 0
  · rw [if_pos h1]
    have g1 : ¬ (e : Int) = 0 := by omega
    clear h1
    refine ACall.of_body mixed Try.func28 rfl (by kernel_rfl) Try.ntmps28 (by kernel_rfl) rfl (by simp) (by simp) (by simp) fun σ N hp hpn hk hkn hfree => ?_
    have hcs := And.intro c1 True.intro
    exact WL
  · rw [if_neg h1]
    have e0 : e = 0 := by omega
    subst e0
    clear h1
    by_cases h2 : 1024 < n
    · rw [if_pos h2]
      have g1 : (1024 : Int) < (n : Int) := by omega
      clear h2
      refine ACall.of_body mixed Try.func28 rfl (by kernel_rfl) Try.ntmps28 (by kernel_rfl) rfl (by simp) (by simp) (by simp) fun σ N hp hpn hk hkn hfree => ?_
      have hcs := And.intro c1 True.intro
      exact WL
    · rw [if_neg h2]
      have g1 : ¬ (1024 : Int) < (n : Int) := by omega
      by_cases h3 : b.length - u < n
      · rw [if_pos h3]
        have g2 : (b.length : Int) - (u : Int) < (n : Int) := by omega
        clear h3 h2
        refine ACall.of_body mixed Try.func28 rfl (by kernel_rfl) Try.ntmps28 (by kernel_rfl) rfl (by simp) (by simp) (by simp) fun σ N hp hpn hk hkn hfree => ?_
        have hcs := And.intro c1 True.intro
        exact WL
      · rw [if_neg h3]
        have g2 : ¬ (b.length : Int) - (u : Int) < (n : Int) := by omega
        have g3 : ((u : Int) + (n : Int)).toNat = u + n := by omega
        have g4 : u + n ≤ b.length := by omega
        have htd := take_drop_bytes b u n
        have hl : ((b.drop u).take n).length = n := by rw [List.length_take, List.length_drop]; omega
        generalize (b.drop u).take n = y at *
        clear h3 h2
        refine ACall.of_body mixed Try.func28 rfl (by kernel_rfl) Try.ntmps28 (by kernel_rfl) rfl (by simp) (by simp) (by simp) fun σ N hp hpn hk hkn hfree => ?_
        have hcs := And.intro c1 True.intro
        exact WL
end Go.Proofs.Ytmhehlfocfhpkaa

/- Fields: Join, few, the example of the chapter. -/
namespace Go.Proofs.Ytmhehlfocfhpkaa
open Go.Ab
attribute [local irreducible] Go.Ab.tyAV Go.Ab.aw Go.Ab.aops Go.Ab.kReg Go.Ab.aThen Go.Ab.aBlk Go.Ab.acond Go.Ab.aguard Go.Ab.astep Go.Ab.AStepX Go.Ab.aRet

def joinB (L : List (List UInt8)) : List UInt8 := L.flatMap fieldB
def joinOk (L : List (List UInt8)) : Prop := ∀ x ∈ L, x.length ≤ 1024
instance (L : List (List UInt8)) : Decidable (joinOk L) := by unfold joinOk; infer_instance
def joinS (L : List (List UInt8)) : List UInt8 × Nat := if joinOk L then (joinB L, 0) else ([], 2)
theorem joinB_nil : joinB [] = [] := rfl
theorem joinOk_nil : joinOk [] := fun x hx => by cases hx
attribute [simp] joinB_nil joinOk_nil
theorem joinB_snoc (L : List (List UInt8)) (x : List UInt8) : joinB (L ++ [x]) = joinB L ++ fieldB x := by simp [joinB]
theorem fieldB_len (x : List UInt8) (hx : x.length ≤ 1024) : (fieldB x).length ≤ 1027 := by
  have := leb_len x.length 2 (by omega)
  simp [fieldB]; omega
theorem joinB_len (L : List (List UInt8)) (h : joinOk L) : (joinB L).length ≤ 1027 * L.length := by
  induction L with
  | nil => simp [joinB]
  | cons x L ih =>
    have h1 := fieldB_len x (h x (List.mem_cons_self ..))
    have h2 := ih fun y hy => h y (List.mem_cons_of_mem _ hy)
    simp only [joinB, List.flatMap_cons, List.length_append, List.length_cons] at *
    omega
theorem joinOk_take {L : List (List UInt8)} {u : Nat} (hu : u < L.length) (h : joinOk (L.take u)) (hx : L[u].length ≤ 1024) : joinOk (L.take (u + 1)) := by
  rw [List.take_succ_eq_append_getElem hu]
  intro y hy
  rcases List.mem_append.1 hy with hy | hy
  · exact h y hy
  · rw [List.mem_singleton.1 hy]; exact hx

set_option maxHeartbeats 1000000 in
theorem Join_spec (L : List (List UInt8)) (hl : L.length ≤ 9000) (k : Nat) : ACall Try.prog 30 [.slice none (L.map bAV)] k [] (.tup [.slice none ((joinS L).1.map byteAV), .lit (.int .i64 ((joinS L).2 : Nat))]) [] := by
  have hall : L.take L.length = L := List.take_length
  generalize hR : joinS L = R
  obtain ⟨R1, R2⟩ := R
  simp only
  refine ACall.of_body mixed Try.func30 rfl (by kernel_rfl) Try.ntmps30 (by kernel_rfl) rfl (by simp) (by simp) (by simp) fun σ N hp hpn hk hkn hfree => ?_
  refine Wk ?_
  refine go_less (x := .nils) (y := .slice none (([] : List UInt8).map byteAV)) 4 (by simp (disch := omega) [go_sem, *, -List.reduceReplicate]) AV.le_nils0 ?_
  refine go_loopF mixed (by kernel_rfl) [2, 3, 4, 6, 7, 8, 11, 12, 13, 14, 15, 16, 17, 18, 19, 20, 21, 22, 23, 24, 25] [] (fun m_ s_ σ_ n_ => ∃ (u : Nat) (acc : List UInt8), m_ = L.length - u ∧ s_ 11 = .lit (.int .i64 u) ∧ s_ 4 = .slice none (acc.map byteAV) ∧ (u ≤ L.length) ∧ (joinOk (L.take u)) ∧ (joinB (L.take u) = acc)) ⟨_, 0, [], rfl, WF, WF, WC, WC, WC⟩ ?_
  intro m_1 s_1 σ_1 n_1 hs_1 hf_1 hn_1 hI_1
  obtain ⟨u, acc, hm_1, h1_11, h1_4, hu, hok, hacc⟩ := hI_1
  have h1_9 := (hs_1.at 9 (by decide)).trans WE
  have h1_10 := (hs_1.at 10 (by decide)).trans WE
  have hlow : ∀ id, id < N → σ_1 id = σ id := fun id hid => (hf_1.at id (by omega) WQ).trans WH
  by_cases hul : u = L.length
  · subst hul
    rw [hall] at hok hacc
    unfold joinS at hR
    rw [if_pos hok, hacc] at hR
    simp only [Prod.mk.injEq] at hR
    obtain ⟨rfl, rfl⟩ := hR
    clear hacc hok hall
    exact W0
  · have hu1 : u < L.length := by omega
    have hal := joinB_len _ hok
    rw [hacc, List.length_take] at hal
    obtain ⟨z, hz⟩ : ∃ z, L[u] = z := ⟨_, rfl⟩
    have hzb := bAV_def z
    by_cases hx : z.length ≤ 1024
    · have c1 := field_ok_f acc z (by omega) hx
      have hok2 := joinOk_take hu1 hok (by rw [hz]; exact hx)
      have hacc2 : joinB (L.take (u + 1)) = acc ++ fieldB z := by rw [List.take_succ_eq_append_getElem hu1, joinB_snoc, hz, hacc]
      have hcs := And.intro c1 True.intro
      clear c1 hR hacc hok hall
      refine Wk ?_
      exact ⟨WS, WG, WN, _, (show L.length - (u + 1) < m_1 by omega), u + 1, acc ++ fieldB z, rfl, WF, WF, WC, WC, WC⟩
    · have c1 := field_bad acc z (by omega)
      have hno : ¬ joinOk L := fun h => hx (hz ▸ h _ (List.getElem_mem hu1))
      unfold joinS at hR
      rw [if_neg hno] at hR
      simp only [Prod.mk.injEq] at hR
      obtain ⟨rfl, rfl⟩ := hR
      have hcs := And.intro c1 True.intro
      clear c1 hacc hok hall hno
      exact WL

set_option maxHeartbeats 1000000 in
theorem refJoin_spec (L : List (List UInt8)) (hl : L.length ≤ 9000) (k : Nat) : ACall Try.prog 31 [.slice none (L.map bAV)] k [] (.tup [.slice none ((joinS L).1.map byteAV), .lit (.int .i64 ((joinS L).2 : Nat))]) [] := by
  have hall : L.take L.length = L := List.take_length
  generalize hR : joinS L = R
  obtain ⟨R1, R2⟩ := R
  simp only
  refine ACall.of_body mixed Try.func31 rfl (by kernel_rfl) Try.ntmps31 (by kernel_rfl) rfl (by simp) (by simp) (by simp) fun σ N hp hpn hk hkn hfree => ?_
  refine Wk ?_
  refine ALoop.nilrow 4 5 1 (by simp (disch := omega) [go_sem, *, -List.reduceReplicate]) ?_
  refine go_loopB (N) mixed (by kernel_rfl) [2, 3, 4, 5, 6, 7, 8, 9, 10, 11, 12, 13, 14, 15, 16, 17, 18, 19, 20, 21, 22, 23, 24] [] (fun m_ s_ σ_ n_ => ∃ (u : Nat) (r : Nat) (acc : List UInt8), m_ = L.length - u ∧ s_ 5 = .lit (.int .i64 u) ∧ s_ 4 = .slice (some r) (acc.map byteAV) ∧ σ_ (r) = .row 5 1 acc.length ∧ (N ≤ r) ∧ (r < n_) ∧ (u ≤ L.length) ∧ (joinOk (L.take u)) ∧ (joinB (L.take u) = acc)) ⟨_, 0, _, [], rfl, WF, WF, WF, WC, WC, WC, WC, WC⟩ ?_
  intro m_2 s_2 σ_2 n_2 hs_2 hf_2 hn_2 hI_2
  obtain ⟨u, r, acc, hm_2, h2_5, h2_4, e2_0, hNr, hrn, hu, hok, hacc⟩ := hI_2
  have h2_0 := (hs_2.at 0 (by decide)).trans WE
  have hlow : ∀ id, id < N → σ_2 id = σ id := fun id hid => (hf_2.at id (by omega) WQ).trans (by first | exact hlow id hid | exact WH)
  by_cases hul : u = L.length
  · subst hul
    rw [hall] at hok hacc
    unfold joinS at hR
    rw [if_pos hok, hacc] at hR
    simp only [Prod.mk.injEq] at hR
    obtain ⟨rfl, rfl⟩ := hR
    clear hacc hok hall
    exact WL
  · have hu1 : u < L.length := by omega
    have hal := joinB_len _ hok
    rw [hacc, List.length_take] at hal
    obtain ⟨z, hz⟩ : ∃ z, L[u] = z := ⟨_, rfl⟩
    have hzb := bAV_def z
    by_cases hx : z.length ≤ 1024
    · have c1 := Field_spec_f z (by omega)
      have hfl := fieldB_len z hx
      have hok2 := joinOk_take hu1 hok (by rw [hz]; exact hx)
      have hacc2 : joinB (L.take (u + 1)) = acc ++ fieldB z := by rw [List.take_succ_eq_append_getElem hu1, joinB_snoc, hz, hacc]
      have hxi : ¬ (1024 : Int) < (z.length : Int) := by omega
      have hal2 : acc.length ≤ 10000000 := by omega
      obtain ⟨acc', ha'⟩ : ∃ a, acc ++ fieldB z = a := ⟨_, rfl⟩
      have ham : acc.map byteAV ++ (fieldB z).map byteAV = acc'.map byteAV := by rw [← List.map_append, ha']
      have haln : acc.length + (fieldB z).length = acc'.length := by rw [← List.length_append, ha']
      rw [ha'] at hacc2
      have hcs := And.intro c1 True.intro
      clear c1 hR hacc hok hall hal ha'
      refine Wk ?_
      exact ⟨WS, WG, WN, _, (show L.length - (u + 1) < m_2 by omega), u + 1, r, acc', rfl, WF, WF, WF, WC, WC, WC, WC, WC⟩
    · have hno : ¬ joinOk L := fun h => hx (hz ▸ h _ (List.getElem_mem hu1))
      unfold joinS at hR
      rw [if_neg hno] at hR
      simp only [Prod.mk.injEq] at hR
      obtain ⟨rfl, rfl⟩ := hR
      have hxi : (1024 : Int) < (z.length : Int) := by omega
      clear hacc hok hall hno
      exact WL

def fewS (L : List (List UInt8)) : List (List UInt8) := (L.take 20).map (·.take 200)
theorem fewS_len (L : List (List UInt8)) : (fewS L).length ≤ 20 := by simp [fewS]; omega
theorem fewS_ok (L : List (List UInt8)) : ∀ x ∈ fewS L, x.length ≤ 200 := by
  intro x hx
  obtain ⟨y, _, rfl⟩ := List.mem_map.1 hx
  rw [List.length_take]; omega
set_option maxHeartbeats 1000000 in
theorem few_spec (L : List (List UInt8)) (hl : L.length ≤ 9223372036854775807) (k : Nat) : ACall Try.prog 29 [.slice none (L.map bAV)] k [] (.slice none ((fewS L).map bAV)) [] := by
  generalize hR : fewS L = R
  refine ACall.of_body mixed Try.func29 rfl (by kernel_rfl) Try.ntmps29 (by kernel_rfl) rfl (by simp) (by simp) (by simp) fun σ N hp hpn hk hkn hfree => ?_
  refine Wk ?_
  refine ALoop.nilrow 3 22 1 (by simp (disch := omega) [go_sem, *, -List.reduceReplicate]) ?_
  refine go_loopB (N) mixed (by kernel_rfl) [3, 4, 5, 6, 7, 8, 9, 10, 11, 12, 13, 14, 15, 16, 17, 18, 19, 20, 21, 22, 23, 24, 25, 26, 27, 28] [] (fun m_ s_ σ_ n_ => ∃ (u : Nat) (r : Nat) (acc : List (List UInt8)), m_ = L.length - u ∧ s_ 4 = .lit (.int .i64 u) ∧ s_ 3 = .slice (some r) (acc.map bAV) ∧ σ_ (r) = .row 22 1 acc.length ∧ (N ≤ r) ∧ (r < n_) ∧ (u ≤ L.length) ∧ (u ≤ 20) ∧ ((L.take u).map (·.take 200) = acc)) ⟨_, 0, _, [], rfl, WF, WF, WF, WC, WC, WC, WC, WC⟩ ?_
  intro m_3 s_3 σ_3 n_3 hs_3 hf_3 hn_3 hI_3
  obtain ⟨u, r, acc, hm_3, h3_4, h3_3, e3_0, hNr, hrn, hu, hu2, hacc⟩ := hI_3
  have h3_0 := (hs_3.at 0 (by decide)).trans WE
  have h3_2 := (hs_3.at 2 (by decide)).trans WE
  have hlow : ∀ id, id < N → σ_3 id = σ id := fun id hid => (hf_3.at id (by omega) WQ).trans (by first | exact hlow id hid | exact WH)
  have hal : acc.length = u := by rw [← hacc, List.length_map, List.length_take]; omega
  by_cases hul : u = L.length
  · have hR2 : acc = R := by rw [← hacc, ← hR, fewS, hul, List.take_length, List.take_of_length_le (by omega)]
    subst hR2
    have hul2 : (u : Int) = L.length := by omega
    clear hacc hR hal
    subst hul
    exact WM
  · have hu1 : u < L.length := by omega
    by_cases hu20 : u = 20
    · have hR2 : acc = R := by rw [← hacc, ← hR, fewS, hu20]
      subst hR2
      clear hacc hR hal
      subst hu20
      exact WM
    · have hu20i : (u : Int) < 20 := by omega
      obtain ⟨z, hz⟩ : ∃ z, L[u] = z := ⟨_, rfl⟩
      have hzb := bAV_def z
      obtain ⟨p1, p2⟩ := cutB 200 z
      have p1 : (if (200 : Int) < (z.length : Int) then (200 : Int) else (z.length : Int)) = ((min 200 z.length : Nat) : Int) := p1
      have hm1 : min 200 z.length ≤ z.length := Nat.min_le_right ..
      obtain ⟨t, ht⟩ : ∃ t, z.take 200 = t := ⟨_, rfl⟩
      rw [ht] at p2
      generalize min 200 z.length = m at *
      have hacc2 : (L.take (u + 1)).map (·.take 200) = acc ++ [t] := by rw [List.take_succ_eq_append_getElem hu1, List.map_append, hacc, hz]; simp [ht]
      have htb := (bAV_def t).symm
      obtain ⟨acc', ha'⟩ : ∃ a, acc ++ [t] = a := ⟨_, rfl⟩
      have ham : acc.map bAV ++ [bAV t] = acc'.map bAV := by rw [← ha', List.map_append]; rfl
      have haln : acc'.length = u + 1 := by rw [← ha', List.length_append, hal]; rfl
      rw [ha'] at hacc2
      clear hacc hR ha'
      refine Wk ?_
      exact ⟨WS, WG, WN, _, (show L.length - (u + 1) < m_3 by omega), u + 1, r, acc', rfl, WF, WF, WF, WC, WC, WC, WC, WC⟩

theorem awake04_spec (k : Nat) : ACall Try.prog 16 [] k [] (.lit (.bool true)) [] := by
  have c1 := Join_spec [[97, 98], []] (by simp)
  have hj : joinS [[97, 98], []] = ([2, 97, 98, 0], 0) := by
    unfold joinS
    rw [if_pos (by intro x hx; simp at hx; rcases hx with rfl | rfl <;> simp)]
    simp [joinB, fieldB, leb_small, u8]
  rw [hj] at c1
  simp only [List.map_cons, List.map_nil, bAV] at c1
  have c2 := Same_spec [2, 97, 98, 0] [2, 97, 98, 0] (by simp)
  rw [decide_eq_true rfl] at c2
  simp only [List.map_cons, List.map_nil] at c2
  have b0 : byteAV 0 = .lit (.int .u8 0) := rfl
  have b2 : byteAV 2 = .lit (.int .u8 2) := rfl
  have b97 : byteAV 97 = .lit (.int .u8 97) := rfl
  have b98 : byteAV 98 = .lit (.int .u8 98) := rfl
  simp only [b0, b2, b97, b98] at c1 c2
  clear b0 b2 b97 b98
  clear hj
  refine ACall.of_body mixed Try.func16 rfl (by kernel_rfl) Try.ntmps16 (by kernel_rfl) rfl (by simp) (by simp) (by simp) fun σ N hp hpn hk hkn hfree => ?_
  have c3 := fun k => (c1 k).weaken (args := [.slice (some (N + 1 + 2)) [.slice (some (N + 1)) [.lit (.int .u8 97), .lit (.int .u8 98)], .slice (some (N + 1 + 1)) []]])
    (.cons (fun g v h => AV.le_own _ _ g v (AV.le_sliceS _ (.cons (AV.le_own _ _) (.cons (AV.le_own _ _) .nil)) g v h)) .nil)
  have hcs := And.intro c3 (And.intro c2 True.intro)
  clear c1 c2 c3
  exact W0
end Go.Proofs.Ytmhehlfocfhpkaa
