/- Loops: what a round does not assign stays. -/
import Derived.Test.YtaelnglalpiemaaDoorC6
namespace Go.Ab
open Go.RowKit

/-- The slots outside of 'L' are as they were. -/
def SKeep (L : List Nat) (s s' : Slots) : Prop := ∀ t, t ∉ L → s' t = s t
/-- The entities below 'n' outside of 'L' are as they were. -/
def EKeep (n : Nat) (L : List Nat) (σ σ' : Nat → Ent) : Prop := ∀ id, id < n → id ∉ L → σ' id = σ id
theorem SKeep.refl (L : List Nat) (s : Slots) : SKeep L s s := fun _ _ => rfl
theorem EKeep.refl (n : Nat) (L : List Nat) (σ : Nat → Ent) : EKeep n L σ σ := fun _ _ _ => rfl
theorem SKeep.at {L : List Nat} {s s' : Slots} (h : SKeep L s s') (t : Nat) (ht : L.contains t = false) : s' t = s t := h t (by simpa using ht)
theorem EKeep.at {n : Nat} {L : List Nat} {σ σ' : Nat → Ent} (h : EKeep n L σ σ') (id : Nat) (hid : id < n) (ht : id ∉ L) : σ' id = σ id := h id hid ht
theorem SKeep.upd {L : List Nat} {s s' : Slots} {k : Nat} {v : AV} (hk : L.contains k = true) (h : SKeep L s s') : SKeep L s (upd s' k v) := fun t ht => by
  have hne : t ≠ k := fun e => ht (by subst e; simpa using hk)
  rw [upd_ne _ _ _ _ hne]; exact h t ht
theorem EKeep.updN {n : Nat} {L : List Nat} {σ σ' : Nat → Ent} {k : Nat} {E : Ent} (hk : n ≤ k) (h : EKeep n L σ σ') : EKeep n L σ (upd σ' k E) := fun id hid ht => by
  rw [upd_ne _ _ _ _ (show id ≠ k by omega)]; exact h id hid ht
theorem EKeep.updL {n : Nat} {L : List Nat} {σ σ' : Nat → Ent} {k : Nat} {E : Ent} (hk : k ∈ L) (h : EKeep n L σ σ') : EKeep n L σ (upd σ' k E) := fun id hid ht => by
  have hne : id ≠ k := fun e => ht (by rw [e]; exact hk)
  rw [upd_ne _ _ _ _ hne]; exact h id hid ht
theorem EKeep.wrnil {n : Nat} {L : List Nat} {σ σ' : Nat → Ent} (h : EKeep n L σ σ') : EKeep n L σ (wr σ' []) := h
theorem EKeep.wrcons {n : Nat} {L : List Nat} {σ σ' : Nat → Ent} {p : Nat × Ent} {r : Foot} (h : EKeep n L σ (wr (Go.Ab.upd σ' p.1 p.2) r)) : EKeep n L σ (wr σ' (p :: r)) := h

/-- Behind a loop within: what it kept, and what was kept ahead of it. -/
theorem SKeep.step {L L' : List Nat} {s s' s'' : Slots} (h : SKeep L' s' s'') (hsub : L'.all (fun x => L.contains x) = true) (h0 : SKeep L s s') : SKeep L s s'' := fun t ht => by
  rw [h t (fun hm => ht (by have := List.all_eq_true.1 hsub t hm; simpa using this))]; exact h0 t ht
theorem EKeep.step {n n' : Nat} {L L' : List Nat} {σ σ' σ'' : Nat → Ent} (h : EKeep n' L' σ' σ'') (hn : n ≤ n') (hsub : ∀ x ∈ L', n ≤ x ∨ x ∈ L) (h0 : EKeep n L σ σ') : EKeep n L σ σ'' := fun id hid ht => by
  rw [h id (by omega) (fun hm => by rcases hsub id hm with h1 | h1; · omega
                                    · exact ht h1)]; exact h0 id hid ht

theorem go_loopB {P : Program} {N : Nat} {b : Code} {Q : AExit → Cfg → Prop} {s : Slots} {σ : Nat → Ent} {n : Nat} (bnd : Nat) (hmix : P.follows .mixedOrders = true) (hok : codeOK N b = true) (mods ents : List Nat) (I : Nat → Slots → (Nat → Ent) → Nat → Prop)
    (h0 : ∃ m, I m s σ n)
    (round : ∀ m s' σ' n', SKeep mods s s' → EKeep bnd ents σ σ' → n ≤ n' → I m s' σ' n' → aw P N b (aThen (fun c' => SKeep mods s c'.s ∧ EKeep bnd ents σ c'.σ ∧ n ≤ c'.n ∧ ∃ m', m' < m ∧ I m' c'.s c'.σ c'.n) Q) ⟨s', σ', n'⟩) : aw P N (.loop b) Q ⟨s, σ, n⟩ := by
  obtain ⟨m0, h0⟩ := h0
  intro hok' hmix' W0 g a w hS
  refine wp_loop_ghost (X := Cfg × Nat) (fun x a w => ∃ g', g.le g' ∧ SimA W0 g' N x.1 a w ∧ SKeep mods s x.1.s ∧ EKeep bnd ents σ x.1.σ ∧ n ≤ x.1.n ∧ I x.2 x.1.s x.1.σ x.1.n) (fun x => x.2) (⟨s, σ, n⟩, m0) ⟨g, g.le_refl, hS, SKeep.refl _ _, EKeep.refl _ _ _, Nat.le_refl _, h0⟩ fun x a w ⟨g', hle, hS', k1, k2, k3, hI⟩ => ?_
  obtain ⟨⟨s', σ', n'⟩, m⟩ := x
  refine wp_mono (round m s' σ' n' k1 k2 k3 hI hok hmix W0 g' a w hS') fun e a' w' ⟨c', g'', hle', hS'', hq⟩ => ?_
  cases e with
  | normal =>
    obtain ⟨q1, q2, q3, m', q4, q5⟩ := hq
    exact ⟨(c', m'), ⟨g'', hle.trans hle', hS'', q1, q2, q3, q5⟩, q4⟩
  | exit id => exact ⟨c', g'', hle.trans hle', hS'', hq⟩
  | ret => exact ⟨c', g'', hle.trans hle', hS'', hq⟩
  | goto => exact hq.elim
  | panic => exact hq.elim
  | outgrown => exact hq.elim
theorem go_loopF {P : Program} {N : Nat} {b : Code} {Q : AExit → Cfg → Prop} {s : Slots} {σ : Nat → Ent} {n : Nat} (hmix : P.follows .mixedOrders = true) (hok : codeOK N b = true) (mods ents : List Nat) (I : Nat → Slots → (Nat → Ent) → Nat → Prop)
    (h0 : ∃ m, I m s σ n)
    (round : ∀ m s' σ' n', SKeep mods s s' → EKeep n ents σ σ' → n ≤ n' → I m s' σ' n' → aw P N b (aThen (fun c' => SKeep mods s c'.s ∧ EKeep n ents σ c'.σ ∧ n ≤ c'.n ∧ ∃ m', m' < m ∧ I m' c'.s c'.σ c'.n) Q) ⟨s', σ', n'⟩) : aw P N (.loop b) Q ⟨s, σ, n⟩ :=
  go_loopB n hmix hok mods ents I h0 round

/-! ### A slice of bytes turned into its own type: its row is marked, and is written no more -/
theorem freeze_heap {w : World} {b : Nat} {cur : Array Value} {e : TypeId} {fz : Nat × Nat} (hb : w.heap[b]? = some (.cells cur e fz)) (hz : noFz fz cur.size) :
    ∃ fz', (w.freeze ⟨b, cur.size, none⟩ 1).heap[b]? = some (.cells cur e fz') ∧ noFz fz' cur.size ∧ (∀ j, j ≠ b → (w.freeze ⟨b, cur.size, none⟩ 1).heap[j]? = w.heap[j]?) ∧ (w.freeze ⟨b, cur.size, none⟩ 1).heap.size = w.heap.size := by
  obtain ⟨lo, hi⟩ := fz
  refine ⟨if lo == hi then (cur.size, cur.size + 1) else (min lo cur.size, max hi (cur.size + 1)), ?_, ?_, fun j hj => ?_, ?_⟩
  · simp only [World.freeze, if_neg (show ¬ (1 = 0) by decide)]
    rw [Array.getElem?_modify, if_pos rfl, hb]
    rfl
  · split
    · exact .inr (Nat.le_refl _)
    · rename_i hne
      rcases hz with h | h
      · simp only at h; simp [h] at hne
      · simp only at h; exact .inr (by simp only; omega)
  · simp only [World.freeze, if_neg (show ¬ (1 = 0) by decide)]
    rw [Array.getElem?_modify, if_neg (Ne.symm hj)]
  · simp only [World.freeze, if_neg (show ¬ (1 = 0) by decide), Array.size_modify]

theorem holds_convM {P : Program} {o : Oper} {s : Slots} {id : Nat} {t e e' : TypeId} {r ver size : Nat} {x : Operand} {xs : List AV} (ho : o.op = .convert t t x) (ht : sliceTy P t = some e') (he : byteTy P e' = true) (hx : aeval s x = .ms r ver size 0 xs.length) (hpos : 0 < xs.length) :
    OpHolds P o s id [(r, .mrow ver e size xs)] (.slice (some r) xs) [(r, .row e size xs.length)] := by
  refine ⟨fun p hp => by simp at hp; subst hp; simp, fun q hq => .inr ⟨(r, .mrow ver e size xs), by simp, by simp at hq; subst hq; rfl⟩, fun W0 g σ n w a hS hr _ _ hp => ?_⟩
  have h1 := hr x (by simp [ho, Op.operands])
  rw [hx] at h1
  have hp' : σ r = .mrow ver e size xs := hp (r, .mrow ver e size xs) (by simp)
  have heu : P.underlying e' = some (.int .u8) := by
    unfold byteTy at he
    split at he
    · assumption
    · cases he
  obtain ⟨u, vs, hmr, hlen, hvl, hvr, hvs, hown⟩ := hS.mrowAt hp'
  generalize hv : a.eval x = v at h1
  have h1' := h1
  cases h1 with
  | ms _ _ _ _ _ ver' u' Ax cx hm' hv' hlx hcx h =>
    rw [hmr] at hm'; cases hm'
    obtain ⟨A0, n0, c0, rfl, j1, j2, j3⟩ := h rfl
    obtain ⟨b, hA0, hAx⟩ := j3 hpos
    obtain ⟨e1, e2⟩ := j2 rfl
    subst e1 e2
    simp only [slen] at hlen
    subst hlen
    subst hA0
    have hown0 := hown
    rcases hown.2 with ⟨h0, h00⟩ | ⟨b', cap, cur, fz, hb1, hb2, hb3, hb4, hb5, hb6, hb7, hb8⟩
    · simp at h0
    · simp at hb1
      obtain ⟨rfl, rfl⟩ := hb1
      obtain ⟨fz', f1, f2, f3, f4⟩ := freeze_heap hb3 hb4
      have hown' : ownsR (w.freeze ⟨b, cur.size, none⟩ 1) W0.heap.size e size (.slice (some ⟨b, 0, none⟩) xs.length cx) xs.length (flat vs) := ⟨hown.1, .inr ⟨b, cx, cur, fz', rfl, hb2, f1, f2, hb5, hb6, hb7, hb8⟩⟩
      obtain ⟨g1, k1, k2, k3, k4⟩ := hS.turnM (ver' := ver) (w' := w.freeze ⟨b, cur.size, none⟩ 1) hp' hmr (.inl ⟨rfl, rfl⟩) hown' rfl hvl hvr hvs (by simp [World.freeze]) (by simp [World.freeze]) (by simp [World.freeze]) (by rw [f4]; exact Nat.le_refl _) (.inl rfl)
        (fun j hj _ => f3 j (fun e => hj (by subst e; rfl)))
      obtain ⟨g2, l1, l2, u2, vs2, l3, l4, l5, l6, l7, l8, l9, l10⟩ := k2.freezeM (id := r) (ver := ver) (e := e) (size := size) (xs := xs) (by simp [upd_same])
      have hrep : Rep g2 (.slice (some r) xs) (.slice (some ⟨b, 0, none⟩) xs.length cx) := (h1'.mono k1).msFrozen l1 l3 l5 l4 l6 l7 l8 l10
      have hsh : w.shape? b = some (e, cur.size) := by simp [World.shape?, hb3]
      unfold runsTo
      have hexec : (execOp a.eval o).run P w = .ok (.value (.slice (some ⟨b, 0, none⟩) xs.length cx)) (w.freeze ⟨b, cur.size, none⟩ 1) := by
        simp [execOp, ho, hv, convert, run_underlying (sliceTy_sound ht), run_underlying heu, markStringish, hsh]
      rw [hexec]
      refine ⟨g2, k1.trans l1, ?_, hrep⟩
      have : upd (upd σ r (.mrow ver e size xs)) r (.row e size xs.length) = wr σ [(r, .row e size xs.length)] := by simp [wr, upd_twice]
      rw [← this]; exact l2

def evConvM (P : Program) (σ : Nat → Ent) (src dst : TypeId) (u : AV) : Option Step :=
  match u with
  | .ms r ver size 0 len => match σ r, sliceTy P dst with
    | .mrow ver' e size' xs, some e' => if src = dst ∧ ver' = ver ∧ size' = size ∧ len = xs.length ∧ 0 < len ∧ byteTy P e' = true then some ⟨[(r, .mrow ver e size xs)], .slice (some r) xs, [(r, .row e size xs.length)]⟩ else none
    | _, _ => none
  | _ => none
theorem evConvM_sound {P : Program} {s : Slots} {σ : Nat → Ent} {id : Nat} {o : Oper} {st : Step} {src dst : TypeId} {x : Operand} (ho : o.op = .convert src dst x) (h : evConvM P σ src dst (aeval s x) = some st) : Gives P o s σ id st := by
  unfold evConvM at h
  split at h
  · rename_i r ver size len hx
    split at h
    · rename_i ver' e size' xs e' hr hd
      split at h
      · rename_i hc
        obtain ⟨rfl, rfl, rfl, rfl, h5, h6⟩ := hc
        cases h
        exact ⟨holds_convM ho hd h6 hx h5, fun p hp => by simp at hp; subst hp; exact hr⟩
      · cases h
    · cases h
  · cases h
attribute [go_sem] evConvM
section
variable {P : Program} {ops : Array Oper} {m i n : Nat} {T : Trace} {k : Cfg → Trace → Prop} {op : Op} {ty : TypeId} {pos : String} {after : Array Edge} {r : List Oper} {s : Slots} {σ : Nat → Ent}
theorem go_conv {t : Tmp} {src dst : TypeId} {x : Operand} {v : AV} {p q : Nat × Ent} (he : evConvM P σ src dst (aeval s x) = some ⟨[p], v, [q]⟩) (h : aops P ops m r (i + 1) ((i, [p], [q]) :: T) k ⟨upd s t v, upd σ q.1 q.2, n⟩) : aops P ops m (⟨some t, .convert src dst x, ty, pos, after, none⟩ :: r) i T k ⟨s, σ, n⟩ :=
  go_own (st := ⟨[p], v, [q]⟩) (fun o ho => evConvM_sound ho he) h
end

/-! ### s[l:h:m] of a row that is written: what is asked of the bounds alone -/
theorem run_bounds4 {P : Program} {s : Slots} {a : Act} {g : Ghost} {len cap l h m : Nat} {lo hi mx : Option Operand} (hl : bnd s 0 lo = some l) (hh : bnd s len hi = some h) (hm : bnd s cap mx = some m) (hx : mx.isSome = true) (hy : hi.isSome = true) (hr : ∀ x, lo = some x → Rep g (aeval s x) (a.eval x)) (hr' : ∀ x, hi = some x → Rep g (aeval s x) (a.eval x)) (hr'' : ∀ x, mx = some x → Rep g (aeval s x) (a.eval x))
    (h1 : l ≤ h) (h2 : h ≤ m) (h3 : m ≤ cap) (isSlice : Bool) (w : World) : (Instr.sliceBounds isSlice len cap (lo.map a.eval) (hi.map a.eval) (mx.map a.eval)).run P w = .ok (l, h, m) w := by
  rcases run_bnd hm hr'' with ⟨rfl, rfl⟩ | ⟨x2, k2, n2, rfl, he2, h02, rfl⟩
  · simp at hx
  · rcases run_bnd hh hr' with ⟨rfl, rfl⟩ | ⟨x, k, n, rfl, he, h0, hn⟩
    · simp at hy
    · rcases run_bnd hl hr with ⟨rfl, rfl⟩ | ⟨x', k', n', rfl, he', h0', rfl⟩
      · simp [Instr.sliceBounds, he, he2, run_sliceBound w k2 n2 cap _ h02 (by omega), hn, run_sliceBound w k n n2.toNat _ h0 (by omega)]
      · simp [Instr.sliceBounds, he, he', he2, run_sliceBound w k2 n2 cap _ h02 (by omega), hn, run_sliceBound w k n n2.toNat _ h0 (by omega), run_sliceBound w k' n' h _ h0' (by omega)]

theorem holds_slice3_ms {P : Program} {o : Oper} {s : Slots} {id : Nat} {t e : TypeId} {x mx : Operand} {lo hi : Option Operand} {r ver size size' l0 len l h m : Nat} (ho : o.op = .slice t x lo hi (some mx)) (ht : sliceTy P t = some e) (hs : sizeIs P e size' = true) (hx : aeval s x = .ms r ver size l0 len)
    (hl : bnd s 0 lo = some l) (hh : bnd s 0 hi = some h) (hm : bnd s 0 (some mx) = some m) (hy : hi.isSome = true) (h1 : l ≤ h) (h2 : h ≤ m) (h3 : m ≤ len) : OpHolds P o s id [] .any [] :=
  holds_pure fun g w a hr => by
    have h4 := hr x (by simp [ho, Op.operands])
    rw [hx] at h4
    have hlo : ∀ x, lo = some x → Rep g (aeval s x) (a.eval x) := fun x hx => hr x (by simp [ho, Op.operands, hx])
    have hhi : ∀ x, hi = some x → Rep g (aeval s x) (a.eval x) := fun x hx => hr x (by simp [ho, Op.operands, hx])
    have hmx : ∀ x, some mx = some x → Rep g (aeval s x) (a.eval x) := fun x hx => hr x (by simp [ho, Op.operands]; simp at hx; simp [hx])
    generalize hv : a.eval x = v at h4
    obtain ⟨ie, hie, hsi⟩ := sizeIs_sound hs
    cases h4 with
    | ms _ _ _ _ _ ver' u A c hmr hv' hlx hcx hsub =>
      have hhi' : hi = some (hi.get hy) := by simp
      have e0 : bnd s len hi = some h := by rw [hhi'] at hh ⊢; exact hh
      have e1 : bnd s c (some mx) = some m := hm
      have hb := run_bounds4 (P := P) hl e0 e1 rfl hy hlo hhi hmx h1 h2 (by omega : m ≤ c) true w
      simp only [Option.map_some] at hb
      refine ⟨.slice (if m = l then A else A.map (·.add (l * size'))) (h - l) (m - l), ?_, .any _ rfl⟩
      · simp only [execOp, ho, Sem.run_bind, Instr.sliceAt, run_underlying (sliceTy_sound ht), Result.andThen_ok, hv, Instr.slice, Option.map_some, hb, sizeOf, typeInfo, run_program, hie, Sem.run_pure, hsi]

def evSlice3 (P : Program) (s : Slots) (t : TypeId) (u : AV) (lo hi : Option Operand) (mx : Operand) : Option Step :=
  match u with
  | .ms _ _ _ _ len => match sliceInfo P t, bnd s 0 lo, bnd s 0 hi, bnd s 0 (some mx) with
    | some _, some l, some h, some m => if hi.isSome = true ∧ l ≤ h ∧ h ≤ m ∧ m ≤ len then some ⟨[], .any, []⟩ else none
    | _, _, _, _ => none
  | _ => none
theorem evSlice3_sound {P : Program} {s : Slots} {σ : Nat → Ent} {id : Nat} {o : Oper} {st : Step} {t : TypeId} {x mx : Operand} {lo hi : Option Operand} (ho : o.op = .slice t x lo hi (some mx)) (h : evSlice3 P s t (aeval s x) lo hi mx = some st) : Gives P o s σ id st := by
  unfold evSlice3 at h
  split at h
  · rename_i hx
    split at h
    · rename_i hs hl hh hm
      split at h
      · rename_i hc
        cases h
        obtain ⟨k1, k2, k3, k4, k5, k6⟩ := sliceInfo_sound hs
        exact .mk0 (holds_slice3_ms ho k1 k2 hx hl hh hm hc.1 hc.2.1 hc.2.2.1 hc.2.2.2)
      · cases h
    · cases h
  · cases h
attribute [go_sem] evSlice3
section
variable {P : Program} {ops : Array Oper} {m i n : Nat} {T : Trace} {k : Cfg → Trace → Prop} {op : Op} {ty : TypeId} {pos : String} {after : Array Edge} {r : List Oper} {s : Slots} {σ : Nat → Ent}
theorem go_slice3 {t : Tmp} {t' : TypeId} {x mx : Operand} {lo hi : Option Operand} {v : AV} (he : evSlice3 P s t' (aeval s x) lo hi mx = some ⟨[], v, []⟩) (h : aops P ops m r (i + 1) T k ⟨upd s t v, σ, n⟩) : aops P ops m (⟨some t, .slice t' x lo hi (some mx), ty, pos, after, none⟩ :: r) i T k ⟨s, σ, n⟩ :=
  go_own (st := ⟨[], v, []⟩) (fun o ho => evSlice3_sound ho he) h
end

/-- In a box: a part of a row that is written no more. -/
theorem go_freezeInSub {P : Program} {N : Nat} {b : Code} {Q : AExit → Cfg → Prop} {s : Slots} {σ : Nat → Ent} {n : Nat} (id : Nat) (path : List Nat) {r ver size lo k : Nat} {e bt : TypeId} {c : AV} {xs : List AV} (hσ : σ id = .box bt c) (hr : σ r = .mrow ver e size xs) (hc : c.get path = some (.ms r ver size lo k)) (hk : lo + k ≤ xs.length)
    (h : aw P N b Q ⟨s, upd (upd σ r (.row e size xs.length)) id (.box bt (c.put path (.slice none ((xs.drop lo).take k)))), n⟩) : aw P N b Q ⟨s, σ, n⟩ := by
  refine go_ghost (fun W0 g a w hS => ?_) h
  have hne : id ≠ r := by rintro rfl; rw [hσ] at hr; cases hr
  obtain ⟨g2, hle2, hS2, u2, vs, k1, k2, k3, k4, k5, k6, k7, k8⟩ := hS.sim.freezeM hr
  exact ⟨g2, hle2, hS.turnIn hle2 hS2 (Nat.le_refl _) hσ (by rw [upd_ne _ _ _ _ hne]; exact hσ) hc (fun u hu => hu.msFrozenSub hle2 k1 hk k4 k5 k6 k8) rfl rfl⟩

/-! ### append of a part of a row to a first part of the same row (slices.Delete), and what lies behind a slice -/
theorem holds_append_self {P : Program} {o : Oper} {s : Slots} {id : Nat} {t e : TypeId} {size r ver k lo m : Nat} {x y : Operand} {xs : List AV} (ho : o.op = .call { callee := .builtin .append, args := #[x, y], argTypes := #[t, t] }) (ht : sliceTy P t = some e) (hs : sizeIs P e size = true)
    (hx : aeval s x = .ms r ver size 0 k) (hy : aeval s y = .ms r ver size lo m) (hlo : lo + m ≤ xs.length) (hkm : k + m ≤ xs.length) (hcell : xs.all (fun x => x.cell) = true) :
    OpHolds P o s id [(r, .mrow ver e size xs)] (.ms r ver size 0 (k + m)) [(r, .mrow ver e size (xs.take k ++ (xs.drop lo).take m ++ xs.drop (k + m)))] := by
  refine ⟨fun p hp => by simp at hp; subst hp; simp, fun q hq => .inr ⟨(r, .mrow ver e size xs), by simp, by simp at hq; subst hq; rfl⟩, fun W0 g σ n w a hS hr _ _ hp => ?_⟩
  have h1 := hr x (by simp [ho, Op.operands, Call.operands])
  have h2 := hr y (by simp [ho, Op.operands, Call.operands])
  rw [hx] at h1
  rw [hy] at h2
  have hp' : σ r = .mrow ver e size xs := hp (r, .mrow ver e size xs) (by simp)
  obtain ⟨cs, he⟩ := execOp_builtin (P := P) (a := a) ho w
  obtain ⟨u, vs, hmr, hsl, hvl, hvr, hvs, hown⟩ := hS.mrowAt hp'
  obtain ⟨ie, hie, hsi⟩ := sizeIs_sound hs
  have hdr : ∀ v ∈ vs.drop lo, v.cells.size = size := fun v hv => hvs v (List.mem_of_mem_drop hv)
  obtain ⟨s1, s2, s3, s4, s5⟩ := spliced (ys := xs.drop lo) (us := vs.drop lo) (lo := k) (m := m) hvl (by simp [hvl]) hvr (fun i x v hx hv => by rw [List.getElem?_drop] at hx hv; exact hvr _ x v hx hv) hvs hdr hkm (by simp; omega)
  generalize hv : a.eval x = v at h1
  generalize hw : a.eval y = yv at h2
  have hnews : flat ((vs.drop lo).take m) = ((flat vs).drop (lo * size)).take (m * size) := by rw [flat_take _ size hdr, flat_drop _ size hvs]
  have hfl : (flat ((vs.drop lo).take m)).length = m * size := by
    rw [flat_length _ size (fun v hv => hdr v (List.mem_of_mem_take hv)), List.length_take, List.length_drop, hvl, Nat.min_eq_left (by omega)]
  have hone : ∀ q ∈ flat ((vs.drop lo).take m), q.oneCell' = true := by
    intro q hq
    obtain ⟨v, hv, hq⟩ := mem_flat.1 hq
    have hvm : v ∈ vs := List.mem_of_mem_drop (List.mem_of_mem_take hv)
    obtain ⟨j, hj⟩ := List.getElem?_of_mem hvm
    have hlt : j < xs.length := by rw [← hvl]; exact (List.getElem?_eq_some_iff.1 hj).1
    have hc := List.all_eq_true.1 hcell xs[j] (List.getElem_mem hlt)
    exact (hvr j _ v (List.getElem?_eq_getElem hlt) hj).cell_ok hc q hq
  cases h1 with
  | ms _ _ _ _ _ ver' u' A c hm' hv' hl hc h =>
    rw [hmr] at hm'; cases hm'
    cases h2 with
    | ms _ _ _ _ _ ver' u' B d hm' hv' hl2 hc2 h2 =>
      rw [hmr] at hm'; cases hm'
      obtain ⟨A0, n0, c0, rfl, j1, j2, j3⟩ := h rfl
      obtain ⟨rfl, rfl⟩ := j2 rfl
      obtain ⟨A1, n1, c1, hu1, j4, j5, j6⟩ := h2 rfl
      simp only [Value.slice.injEq] at hu1
      obtain ⟨rfl, rfl, rfl⟩ := hu1
      simp only [slen] at hsl
      subst hsl
      have hnc : xs.length ≤ c := by
        rcases hown.2 with ⟨h0, h00⟩ | ⟨b', cap, cur, fz, hb1, hb2, hb3, hb4, hb5, hb6, hb7, hb8⟩
        · omega
        · simp at hb1; obtain ⟨_, rfl⟩ := hb1; exact hb5
      unfold runsTo
      by_cases hm0 : m = 0
      · subst hm0
        have hrun := run_append_none' (P := P) (w := w) (t := t) (ty := o.type) (sliceTy_sound ht) hie (B := A) (n := k) (cap := c) hl (A := B) (c := d)
        have hexec : (execOp a.eval o).run P w = .ok (.value (.slice A k c)) w := by
          rw [he]
          simp [builtin, hv, hw, hrun]
        rw [hexec]
        have e1 : xs.take k ++ (xs.drop lo).take 0 ++ xs.drop (k + 0) = xs := by simp
        have e2 : upd σ r (.mrow ver e size xs) = σ := by
          funext i
          by_cases hi : i = r
          · subst hi; rw [upd_same, hp']
          · rw [upd_ne _ _ _ _ hi]
        refine ⟨g, g.le_refl, ?_, .ms r ver size 0 k ver _ _ c hmr hv' hl hc fun _ => ⟨_, _, _, rfl, j1, fun _ => ⟨rfl, rfl⟩, j3⟩⟩
        show Sim W0 g (upd σ r _) n w
        rw [e1, e2]; exact hS
      · obtain ⟨b, rfl, rfl⟩ := j6 (by omega)
        obtain ⟨w', hst, l1, l2, l3, l4, l5, l6⟩ := row_written (P := P) (off := k * size) (news := flat ((vs.drop lo).take m)) hown (by
          rw [hfl, hown.1, ← Nat.add_mul]; exact Nat.mul_le_mul_right _ (by omega)) hone
        rw [← s5] at l1
        obtain ⟨g', hle, hS', hm2, _⟩ := hS.turnM (ver' := ver) (vs' := vs.take k ++ (vs.drop lo).take m ++ vs.drop (k + m)) hp' hmr (.inl ⟨rfl, rfl⟩) (by rw [s2]; exact l1) (by simp only [slen]; rw [s2]) s1 s3 s4 l2 l3 l4 l5 (.inl rfl) (fun j hj _ => l6 j (fun e => hj (by rw [e]; rfl)))
        have hcells : ∀ (j : Nat) (u : Value), (flat ((vs.drop lo).take m))[j]? = some u → w.cell? ((⟨b, lo * size, none⟩ : Addr).add j) = some u := fun j u hu => by
          rw [Addr.add_lit]
          rw [hnews, List.getElem?_take, List.getElem?_drop] at hu
          split at hu
          · exact hown.cells (g := b) rfl _ u hu
          · cases hu
        rcases hown.2 with ⟨h0, h00⟩ | ⟨b', cap, cur, fz, hb1, hb2, hb3, hb4, hb5, hb6, hb7, hb8⟩
        · simp at h0
        · simp at hb1
          obtain ⟨rfl, rfl⟩ := hb1
          have hrow := run_append_roomF (P := P) w t o.type e ie (sliceTy_sound ht) hie b k c cur fz hb3 hb4 ⟨b, lo * size, none⟩ m d (flat ((vs.drop lo).take m)) (by rw [hfl, hsi]) hcells hone (by omega) (by rw [hsi, hfl, hb7, ← Nat.add_mul]; exact Nat.mul_le_mul_right _ (by omega))
          have hst2 := run_storeCells_fz (P := P) b (k * size) e fz (flat ((vs.drop lo).take m)) 0 cur w hb3 hb4 (by rw [hfl, hb7, Nat.add_zero, ← Nat.add_mul]; exact Nat.mul_le_mul_right _ (by omega)) hone
          rw [hst2] at hst
          simp only [Nat.add_zero, Result.ok.injEq, true_and] at hst
          rw [hsi, hst] at hrow
          have hexec : (execOp a.eval o).run P w = .ok (.value (.slice (some ⟨b, 0, none⟩) (k + m) c)) w' := by
            rw [he]
            simp [builtin, hv, hw, hrow]
          rw [hexec]
          exact ⟨g', hle, hS', .ms r ver size 0 (k + m) ver _ _ c hm2 (Nat.le_refl _) (by omega) hc fun _ => ⟨_, _, _, rfl, by omega, fun _ => ⟨rfl, rfl⟩, fun _ => ⟨b, rfl, by simp⟩⟩⟩

/-- s[l:h] of a first part of a row, h at most the row's length. -/
theorem holds_slice_beyond {P : Program} {o : Oper} {s : Slots} {id : Nat} {t e : TypeId} {x y : Operand} {lo : Option Operand} {r ver size len l h : Nat} {xs : List AV} (ho : o.op = .slice t x lo (some y) none) (ht : sliceTy P t = some e) (hs : sizeIs P e size = true) (hx : aeval s x = .ms r ver size 0 len)
    (hl : bnd s 0 lo = some l) (hh : bnd s 0 (some y) = some h) (h1 : l ≤ h) (h2 : h ≤ xs.length) : OpHolds P o s id [(r, .mrow ver e size xs)] (.ms r ver size l (h - l)) [] := by
  refine holds_read (fun p hp => by simp at hp; subst hp; simp) fun W0 g σ N w a hS hr hp => ?_
  have h3 := hr x (by simp [ho, Op.operands])
  have hlo : ∀ x, lo = some x → Rep g (aeval s x) (a.eval x) := fun x hx => hr x (by simp [ho, Op.operands, hx])
  have hhi : ∀ x, some y = some x → Rep g (aeval s x) (a.eval x) := fun x hx => hr x (by simp [ho, Op.operands]; simp at hx; simp [hx])
  rw [hx] at h3
  have hp' : σ r = .mrow ver e size xs := hp (r, .mrow ver e size xs) (by simp)
  obtain ⟨u, vs, hmr, hlen, hvl, hvr, hvs, hown⟩ := hS.mrowAt hp'
  obtain ⟨ie, hie, hsi⟩ := sizeIs_sound hs
  generalize hv : a.eval x = v at h3
  cases h3 with
  | ms _ _ _ _ _ ver' u' A c hm' hv' hlc hc hM =>
    rw [hmr] at hm'; cases hm'
    obtain ⟨A0, n0, c0, rfl, j1, j2, j3⟩ := hM rfl
    obtain ⟨rfl, rfl⟩ := j2 rfl
    simp only [slen] at hlen
    subst hlen
    have hnc : xs.length ≤ c := by
      rcases hown.2 with ⟨h0, h00⟩ | ⟨b', cap, cur, fz, hb1, hb2, hb3, hb4, hb5, hb6, hb7, hb8⟩
      · omega
      · simp at hb1; obtain ⟨_, rfl⟩ := hb1; exact hb5
    have hh' : bnd s len (some y) = some h := hh
    have hb := run_bounds (P := P) hl hh' hlo hhi h1 (by omega : h ≤ c) true w
    simp only [Option.map_some] at hb
    refine ⟨.slice (if c = l then A else A.map (·.add (l * size))) (h - l) (c - l), ?_, .ms r ver size l (h - l) ver _ _ (c - l) hmr (Nat.le_refl _) (by omega) (by omega) fun _ => ⟨A, _, c, rfl, by omega, fun hz => ?_, fun hz => ?_⟩⟩
    · simp only [execOp, ho, Sem.run_bind, Instr.sliceAt, run_underlying (sliceTy_sound ht), Result.andThen_ok, hv, Instr.slice, Option.map_none, Option.map_some, hb, sizeOf, typeInfo, run_program, hie, Sem.run_pure, hsi]
    · subst hz
      refine ⟨?_, by omega⟩
      split
      · rfl
      · cases A <;> simp [Addr.add]
    · have hA : ∃ b, A = some ⟨b, 0, none⟩ := by
        rcases hown.2 with ⟨h0, h00⟩ | ⟨b', cap, cur, fz, hb1, hb2, hb3, hb4, hb5, hb6, hb7, hb8⟩
        · omega
        · simp at hb1; obtain ⟨rfl, _⟩ := hb1; exact ⟨_, rfl⟩
      obtain ⟨b, rfl⟩ := hA
      refine ⟨b, rfl, ?_⟩
      rw [if_neg (by omega)]
      simp [Addr.add_lit]

def evAppendSelf (P : Program) (σ : Nat → Ent) (t : TypeId) (u v : AV) : Option Step :=
  match u, v with
  | .ms r ver size 0 k, .ms r' ver' size' lo m => match σ r, sliceInfo P t with
    | .mrow v2 e size2 xs, some (e', size3, _, _) => if r' = r ∧ ver' = ver ∧ size' = size ∧ v2 = ver ∧ size2 = size ∧ e' = e ∧ size3 = size ∧ lo + m ≤ xs.length ∧ k + m ≤ xs.length ∧ xs.all (fun x => x.cell) = true then some ⟨[(r, .mrow ver e size xs)], .ms r ver size 0 (k + m), [(r, .mrow ver e size (xs.take k ++ (xs.drop lo).take m ++ xs.drop (k + m)))]⟩ else none
    | _, _ => none
  | _, _ => none
def evBeyond (P : Program) (s : Slots) (σ : Nat → Ent) (t : TypeId) (u : AV) (lo : Option Operand) (y : Operand) : Option Step :=
  match u with
  | .ms r ver size 0 _ => match σ r, sliceInfo P t, bnd s 0 lo, bnd s 0 (some y) with
    | .mrow v2 e size2 xs, some (e', size3, _, _), some l, some h => if v2 = ver ∧ size2 = size ∧ e' = e ∧ size3 = size ∧ l ≤ h ∧ h ≤ xs.length then some ⟨[(r, .mrow ver e size xs)], .ms r ver size l (h - l), []⟩ else none
    | _, _, _, _ => none
  | _ => none
theorem evAppendSelf_sound {P : Program} {s : Slots} {σ : Nat → Ent} {id : Nat} {o : Oper} {st : Step} {t : TypeId} {x y : Operand} (ho : o.op = .call { callee := .builtin .append, args := #[x, y], argTypes := #[t, t] }) (h : evAppendSelf P σ t (aeval s x) (aeval s y) = some st) : Gives P o s σ id st := by
  unfold evAppendSelf at h
  split at h
  · rename_i hx hy
    split at h
    · rename_i hr hs
      split at h
      · rename_i hc
        obtain ⟨rfl, rfl, rfl, rfl, rfl, rfl, rfl, h8, h9, h10⟩ := hc
        cases h
        obtain ⟨k1, k2, k3, k4, k5, k6⟩ := sliceInfo_sound hs
        exact ⟨holds_append_self ho k1 k2 hx hy h8 h9 h10, fun p hp => by simp at hp; subst hp; exact hr⟩
      · cases h
    · cases h
  · cases h
theorem evBeyond_sound {P : Program} {s : Slots} {σ : Nat → Ent} {id : Nat} {o : Oper} {st : Step} {t : TypeId} {x y : Operand} {lo : Option Operand} (ho : o.op = .slice t x lo (some y) none) (h : evBeyond P s σ t (aeval s x) lo y = some st) : Gives P o s σ id st := by
  unfold evBeyond at h
  split at h
  · rename_i hx
    split at h
    · rename_i hr hs hl hh
      split at h
      · rename_i hc
        obtain ⟨rfl, rfl, rfl, rfl, h5, h6⟩ := hc
        cases h
        obtain ⟨k1, k2, k3, k4, k5, k6⟩ := sliceInfo_sound hs
        exact ⟨holds_slice_beyond ho k1 k2 hx hl hh h5 h6, fun p hp => by simp at hp; subst hp; exact hr⟩
      · cases h
    · cases h
  · cases h
attribute [go_sem] evAppendSelf evBeyond
section
variable {P : Program} {ops : Array Oper} {m i n : Nat} {T : Trace} {k : Cfg → Trace → Prop} {op : Op} {ty : TypeId} {pos : String} {after : Array Edge} {r : List Oper} {s : Slots} {σ : Nat → Ent}
theorem go_appself {t : Tmp} {x y : Operand} {t' : TypeId} {v : AV} {p q : Nat × Ent} (he : evAppendSelf P σ t' (aeval s x) (aeval s y) = some ⟨[p], v, [q]⟩) (h : aops P ops m r (i + 1) ((i, [p], [q]) :: T) k ⟨upd s t v, upd σ q.1 q.2, n⟩) :
    aops P ops m (⟨some t, .call { callee := .builtin .append, args := #[x, y], argTypes := #[t', t'] }, ty, pos, after, none⟩ :: r) i T k ⟨s, σ, n⟩ :=
  go_own (st := ⟨[p], v, [q]⟩) (fun o ho => evAppendSelf_sound ho he) h
theorem go_beyond {t : Tmp} {x y : Operand} {lo : Option Operand} {t' : TypeId} {v : AV} {p : Nat × Ent} (he : evBeyond P s σ t' (aeval s x) lo y = some ⟨[p], v, []⟩) (h : aops P ops m r (i + 1) ((i, [p], []) :: T) k ⟨upd s t v, σ, n⟩) :
    aops P ops m (⟨some t, .slice t' x lo (some y) none, ty, pos, after, none⟩ :: r) i T k ⟨s, σ, n⟩ :=
  go_own (st := ⟨[p], v, []⟩) (fun o ho => evBeyond_sound ho he) h
end

/-! ### A package-level array that is only read -/
/-- The entity 'd' is what the package-level variable 'h' reads as. -/
inductive GlobAt (d h : Nat) : Prop where
  | mk
theorem holds_indexAddr_glob {P : Program} {o : Oper} {s : Slots} {id : Nat} {t e : TypeId} {x i : Operand} {len size d h : Nat} {xs : List AV} {y : AV} {k : IntKind} {n : Int} (ho : o.op = .indexAddr t x i) (ht : arrTy P t = some (len, e)) (hs : sizeIs P e size = true) (hx : aeval s x = .lit (.pointer (some ⟨h, 0, none⟩)))
    (hi : aeval s i = .lit (.int k n)) (hn : 0 ≤ n) (hlt : n.toNat < len) (hy : xs[n.toNat]? = some y) (hk : AV.szl (xs.take n.toNat) = n.toNat * size) : OpHolds P o s id [(d, .glob h (.agg xs))] (.view y) [] := by
  refine holds_read (fun p hp => by simp at hp; subst hp; simp) fun W0 g σ N w a hS hr hp => ?_
  have h1 := hr x (by simp [ho, Op.operands])
  have h2 := hr i (by simp [ho, Op.operands])
  rw [hx] at h1
  rw [hi] at h2
  have e1 := rep_lit_inv h1
  have e2 := rep_lit_inv h2
  have hE := hS.ents d
  have hp' : σ d = .glob h (.agg xs) := hp (d, .glob h (.agg xs)) (by simp)
  rw [hp'] at hE
  obtain ⟨_, _, _, _, hv⟩ := hE
  obtain ⟨ie, hie, hsz⟩ := sizeIs_sound hs
  generalize hpv : (Value.pointer (some ⟨h, 0, none⟩)) = pv at hv
  cases hv with
  | view _ v b off hvr hc =>
    simp only [Value.pointer.injEq, Option.some.injEq, Addr.mk.injEq, and_true] at hpv
    obtain ⟨rfl, rfl⟩ := hpv
    obtain ⟨u, hu, _, hcu⟩ := hvr.get (path := [n.toNat]) (y := y) (by simp [AV.get, hy])
    have : n < (len : Int) := by omega
    refine ⟨.pointer (some ⟨h, 0 + n.toNat * size, none⟩), ?_, .view y u h _ hu fun j x hx => ?_⟩
    · simp [execOp, ho, e1, e2, Instr.indexAt, asIntOf, run_underlying (arrTy_sound ht), Instr.sureAddr, sizeOf, typeInfo, hie, hsz, Addr.add_lit, hn, this]
    · have := hc _ _ (hcu j x hx)
      simp only [AV.offs, hy, Nat.add_zero, hk] at this
      rw [← this]; congr 1; omega

def evGlobIdx (P : Program) (σ : Nat → Ent) (d h : Nat) (t : TypeId) (u v : AV) : Option Step :=
  match u, v, σ d with
  | .lit (.pointer (some ⟨h1, 0, none⟩)), .lit (.int _ n), .glob h2 (.agg xs) => match arrInfo P t, xs[n.toNat]? with
    | some (len, _, size), some y => if h1 = h ∧ h2 = h ∧ 0 ≤ n ∧ n.toNat < len ∧ AV.szl (xs.take n.toNat) = n.toNat * size then some ⟨[(d, .glob h (.agg xs))], .view y, []⟩ else none
    | _, _ => none
  | _, _, _ => none
theorem evGlobIdx_sound {P : Program} {s : Slots} {σ : Nat → Ent} {id : Nat} {o : Oper} {st : Step} {t : TypeId} {x i : Operand} {d h : Nat} (ho : o.op = .indexAddr t x i) (he : evGlobIdx P σ d h t (aeval s x) (aeval s i) = some st) : Gives P o s σ id st := by
  unfold evGlobIdx at he
  split at he
  · rename_i hx hi hd
    split at he
    · rename_i ha hy
      split at he
      · rename_i hc
        obtain ⟨rfl, rfl, h3, h4, h5⟩ := hc
        cases he
        obtain ⟨k1, k2⟩ := arrInfo_sound ha
        exact ⟨holds_indexAddr_glob ho k1 k2 hx hi h3 h4 hy h5, fun p hp => by simp at hp; subst hp; exact hd⟩
      · cases he
    · cases he
  · cases he
attribute [go_sem] evGlobIdx
section
variable {P : Program} {ops : Array Oper} {m i n : Nat} {T : Trace} {k : Cfg → Trace → Prop} {op : Op} {ty : TypeId} {pos : String} {after : Array Edge} {r : List Oper} {s : Slots} {σ : Nat → Ent}
theorem go_glob {t : Tmp} {x y : Operand} {t' : TypeId} {v : AV} {p : Nat × Ent} {d h : Nat} (_hG : GlobAt d h) (he : evGlobIdx P σ d h t' (aeval s x) (aeval s y) = some ⟨[p], v, []⟩) (h : aops P ops m r (i + 1) ((i, [p], []) :: T) k ⟨upd s t v, σ, n⟩) :
    aops P ops m (⟨some t, .indexAddr t' x y, ty, pos, after, none⟩ :: r) i T k ⟨s, σ, n⟩ :=
  go_own (st := ⟨[p], v, []⟩) (fun o ho => evGlobIdx_sound ho he) h
end
end Go.Ab
