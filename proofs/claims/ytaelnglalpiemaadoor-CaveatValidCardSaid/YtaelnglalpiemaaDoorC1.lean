/- What a loop may begin with: a nil slice is a row of one's own; a reading may say less. A call whose arguments say more than its contract asks. -/
import Derived.Test.YtaelnglalpiemaaDoorB3
import Derived.Laws.BitsLemmas
namespace Go.Ab
open Go.RowKit

theorem SimA.at_eq {W0 : World} {g : Ghost} {N : Nat} {s : Slots} {σ : Nat → Ent} {n : Nat} {a : Act} {w : World} (h : SimA W0 g N ⟨s, σ, n⟩ a w) {t : Tmp} {x : AV} (ht : s t = x) : Rep g x (a.tmps.getD t undef) := by
  have := h.slots t
  simp only at this
  rw [ht] at this; exact this

/-- Another reading of one slot. -/
theorem SimA.turnSlot {W0 : World} {g g' : Ghost} {N : Nat} {s : Slots} {σ σ' : Nat → Ent} {n n' : Nat} {a : Act} {w : World} (h : SimA W0 g N ⟨s, σ, n⟩ a w) (hle : g.le g') (hS : Sim W0 g' σ' n' w) {t : Tmp} {y : AV} (hy : Rep g' y (a.tmps.getD t undef)) : SimA W0 g' N ⟨upd s t y, σ', n'⟩ a w := by
  refine ⟨hS, h.size, h.defers, fun t' => ?_⟩
  by_cases htt : t' = t
  · subst htt; simp only [upd_same]; exact hy
  · simp only [upd_ne _ _ _ _ htt]; exact (h.slots t').mono hle

theorem ALoop.nilrow {P : Program} {N : Nat} {b : Code} {Q : AExit → Cfg → Prop} {s : Slots} {σ : Nat → Ent} {n : Nat} (t : Tmp) (e : TypeId) (size : Nat) (ht : s t = .nils)
    (h : aw P N b Q ⟨upd s t (.slice (some n) []), upd σ n (.row e size 0), n + 1⟩) : aw P N b Q ⟨s, σ, n⟩ := by
  refine go_ghost (fun W0 g a w hS => ?_) h
  have hf : σ n = .none := hS.sim.bound n (Nat.le_refl _)
  obtain ⟨g1, hle1, hS1, hrow1, _⟩ := (hS.sim.more (n' := n + 1) (Nat.le_succ n)).addRow (k := n) (e := e) (size := size) (m := 0) (u := .slice none 0 0) (cells := []) hf (Nat.lt_succ_self n) (ownsR_nil w _ e size) rfl (fun b hb => by simp [Value.ownBlock] at hb) (fun b hb => by simp [Value.ownBlock] at hb)
  refine ⟨g1, hle1, hS.turnSlot hle1 hS1 ?_⟩
  have hr := hS.at_eq ht
  generalize a.tmps.getD t undef = v at hr
  cases hr
  exact .slice (some n) [] [] none 0 0 rfl (Nat.le_refl _) (by unfold maxLen; omega) (fun i x v h _ => by simp at h) (fun v hv => by simp at hv) (.inl rfl) (fun id hid => by cases hid; exact ⟨_, hrow1, Nat.le_refl _, fun _ => rfl⟩)

/-- Nil, as a row that may be written. -/
theorem go_nilM {P : Program} {N : Nat} {b : Code} {Q : AExit → Cfg → Prop} {s : Slots} {σ : Nat → Ent} {n : Nat} (t : Tmp) (e : TypeId) (size : Nat) (ht : s t = .nils)
    (h : aw P N b Q ⟨upd s t (.ms n 0 size 0 0), upd σ n (.mrow 0 e size []), n + 1⟩) : aw P N b Q ⟨s, σ, n⟩ := by
  refine go_ghost (fun W0 g a w hS => ?_) h
  have hf : σ n = .none := hS.sim.bound n (Nat.le_refl _)
  obtain ⟨hle1, hS1⟩ := (hS.sim.more (n' := n + 1) (Nat.le_succ n)).addM (k := n) (e := e) (size := size) (u := .slice none 0 0) (xs := []) (vs := []) hf (Nat.lt_succ_self n) (ownsR_nil w _ e size) rfl rfl (fun i x v h _ => by simp at h) (fun v hv => by simp at hv) (fun b hb => by simp [Value.ownBlock] at hb) (fun b hb => by simp [Value.ownBlock] at hb)
  refine ⟨_, hle1, hS.turnSlot hle1 hS1 ?_⟩
  have hr := hS.at_eq ht
  generalize a.tmps.getD t undef = v at hr
  cases hr
  exact .ms n 0 size 0 0 0 _ none 0 (by simp [upd_same]; rfl) (Nat.le_refl _) (Nat.le_refl _) (by unfold maxLen; omega) fun _ => ⟨_, _, _, rfl, by omega, fun _ => ⟨rfl, rfl⟩, fun h => absurd h (by omega)⟩

/-- A row that is written no more: its slice in a slot is read as what it holds. -/
theorem go_freeze {P : Program} {N : Nat} {b : Code} {Q : AExit → Cfg → Prop} {s : Slots} {σ : Nat → Ent} {n : Nat} (t : Tmp) {id ver size : Nat} {e : TypeId} {xs : List AV} {k : Nat} (hσ : σ id = .mrow ver e size xs) (ht : s t = .ms id ver size 0 k) (hk : k = xs.length)
    (h : aw P N b Q ⟨upd s t (.slice (some id) xs), upd σ id (.row e size xs.length), n⟩) : aw P N b Q ⟨s, σ, n⟩ := by
  refine go_ghost (fun W0 g a w hS => ?_) h
  subst hk
  obtain ⟨g2, hle2, hS2, u2, vs, k1, k2, k3, k4, k5, k6, k7, k8⟩ := hS.sim.freezeM hσ
  exact ⟨g2, hle2, hS.turnSlot hle2 hS2 ((hS.at_eq ht).msFrozen hle2 k1 k3 k2 k4 k5 k6 k8)⟩
/-- A part of it. -/
theorem go_freezeSub {P : Program} {N : Nat} {b : Code} {Q : AExit → Cfg → Prop} {s : Slots} {σ : Nat → Ent} {n : Nat} (t : Tmp) {id ver size lo len : Nat} {e : TypeId} {xs : List AV} (hσ : σ id = .mrow ver e size xs) (ht : s t = .ms id ver size lo len) (hk : lo + len ≤ xs.length)
    (h : aw P N b Q ⟨upd s t (.slice none ((xs.drop lo).take len)), upd σ id (.row e size xs.length), n⟩) : aw P N b Q ⟨s, σ, n⟩ := by
  refine go_ghost (fun W0 g a w hS => ?_) h
  obtain ⟨g2, hle2, hS2, u2, vs, k1, k2, k3, k4, k5, k6, k7, k8⟩ := hS.sim.freezeM hσ
  exact ⟨g2, hle2, hS.turnSlot hle2 hS2 ((hS.at_eq ht).msFrozenSub hle2 k1 hk k4 k5 k6 k8)⟩

/-- A slot says less. -/
theorem go_less {P : Program} {N : Nat} {b : Code} {Q : AExit → Cfg → Prop} {s : Slots} {σ : Nat → Ent} {n : Nat} (t : Tmp) {x y : AV} (ht : s t = x) (hxy : AV.le x y) (h : aw P N b Q ⟨upd s t y, σ, n⟩) : aw P N b Q ⟨s, σ, n⟩ :=
  go_ghost (fun W0 g a w hS => ⟨g, g.le_refl, hS.turnSlot g.le_refl hS.sim (hxy _ _ (hS.at_eq ht))⟩) h

/-- A slice without spare places, as a row of one's own. -/
theorem go_cliprow {P : Program} {N : Nat} {b : Code} {Q : AExit → Cfg → Prop} {s : Slots} {σ : Nat → Ent} {n : Nat} (t : Tmp) (e : TypeId) (size : Nat) {xs : List AV} (ht : s t = .clip xs) (hsx : xs.all (fun x => x.sz == size) = true)
    (h : aw P N b Q ⟨upd s t (.slice (some n) xs), upd σ n (.row e size xs.length), n + 1⟩) : aw P N b Q ⟨s, σ, n⟩ := by
  refine go_ghost (fun W0 g a w hS => ?_) h
  have hf : σ n = .none := hS.sim.bound n (Nat.le_refl _)
  have hr := hS.at_eq ht
  have key : ∀ v, Rep g (.clip xs) v → ∃ g', g.le g' ∧ Sim W0 g' (upd σ n (.row e size xs.length)) (n + 1) w ∧ Rep g' (.slice (some n) xs) v := by
    intro v hv
    cases hv with
    | clip _ A m hc =>
      obtain ⟨g', h1, h2, h3, h4⟩ := (hS.sim.more (n' := n + 1) (Nat.le_succ n)).ofClip (k := n) (e := e) (size := size) hf (Nat.lt_succ_self n) hc hsx
      exact ⟨g', h1, h2, h4⟩
  obtain ⟨g', h1, h2, h3⟩ := key _ hr
  exact ⟨g', h1, hS.turnSlot h1 h2 h3⟩

/-- A box that is written no more: its address is that of a thing that lies still. -/
theorem go_view {P : Program} {N : Nat} {b : Code} {Q : AExit → Cfg → Prop} {s : Slots} {σ : Nat → Ent} {n : Nat} (t : Tmp) {id : Nat} {bt : TypeId} {x : AV} (hσ : σ id = .box bt x) (ht : s t = .ptr id [] 0)
    (h : aw P N b Q ⟨upd s t (.view x), upd σ id (.fbox bt x), n⟩) : aw P N b Q ⟨s, σ, n⟩ := by
  refine go_ghost (fun W0 g a w hS => ?_) h
  have hr := hS.at_eq ht
  have key : ∀ v, Rep g (.ptr id [] 0) v → ∃ g', g.le g' ∧ Sim W0 g' (upd σ id (.fbox bt x)) n w ∧ Rep g' (.view x) v := by
    intro v hv
    cases hv with
    | ptr _ _ _ b0 hb =>
      obtain ⟨g', h1, h2, v', h3, h4⟩ := hS.sim.freeze hσ hb
      exact ⟨g', h1, h2, .view x v' b0 0 h3 fun j u hu => by rw [Nat.zero_add, h4, ← Array.getElem?_toList]; exact hu⟩
  obtain ⟨g', h1, h2, h3⟩ := key _ hr
  exact ⟨g', h1, hS.turnSlot h1 h2 h3⟩

/-- In a box: a slice without spare places, or nil, as a row of one's own. -/
theorem go_cliprowIn {P : Program} {N : Nat} {b : Code} {Q : AExit → Cfg → Prop} {s : Slots} {σ : Nat → Ent} {n : Nat} (id : Nat) (path : List Nat) (e : TypeId) (size : Nat) {bt : TypeId} {c : AV} {xs : List AV} (hσ : σ id = .box bt c) (hc : c.get path = some (.clip xs)) (hsx : xs.all (fun x => x.sz == size) = true)
    (h : aw P N b Q ⟨s, upd (upd σ n (.row e size xs.length)) id (.box bt (c.put path (.slice (some n) xs))), n + 1⟩) : aw P N b Q ⟨s, σ, n⟩ := by
  refine go_ghost (fun W0 g a w hS => ?_) h
  have hf : σ n = .none := hS.sim.bound n (Nat.le_refl _)
  have hidn : id ≠ n := by rintro rfl; rw [hf] at hσ; cases hσ
  obtain ⟨b0, v, hb0, _, hrep, hheap, hG⟩ := hS.sim.box id bt c hσ
  obtain ⟨u, hu, hub, huc⟩ := hrep.get hc
  cases hu with
  | clip _ A m hcl =>
    obtain ⟨g', h1, h2, h3, h4⟩ := (hS.sim.more (n' := n + 1) (Nat.le_succ n)).ofClip (k := n) (e := e) (size := size) hf (Nat.lt_succ_self n) hcl hsx
    obtain ⟨v', hv', hvc⟩ := (hrep.mono h1).put hc h4 rfl
    have hcells : v'.cells = v.cells := by
      have hU : (Value.slice A m m).cells.toList = [Value.slice A m m] := rfl
      have hUs : (Value.slice A m m).cells.size = 1 := rfl
      apply Array.ext'
      rw [hvc, hU, hUs]
      have hk := huc 0 (Value.slice A m m) (by rw [hU]; rfl)
      rw [Nat.add_zero] at hk
      have hlt : c.offs path < v.cells.toList.length := (List.getElem?_eq_some_iff.1 hk).1
      have l1 : (v.cells.toList.take (c.offs path)).length = c.offs path := by rw [List.length_take]; omega
      have l2 : (v.cells.toList.take (c.offs path) ++ [Value.slice A m m]).length = c.offs path + 1 := by rw [List.length_append, l1]; rfl
      apply List.ext_getElem?
      intro j
      by_cases h1' : j < c.offs path
      · rw [List.getElem?_append_left (by omega), List.getElem?_append_left (by omega), List.getElem?_take, if_pos h1']
      · by_cases h2' : j = c.offs path
        · subst h2'
          rw [List.getElem?_append_left (by omega), List.getElem?_append_right (by omega), l1, Nat.sub_self, hk]
          rfl
        · rw [List.getElem?_append_right (by omega), l2, List.getElem?_drop]
          congr 1
          omega
    have hE : EntOK W0 g' w id (upd σ n (.row e size xs.length) id) := h2.ents id
    rw [upd_ne _ _ _ _ hidn, hσ] at hE
    obtain ⟨e1, e2, e3, b1, v1, e4, e5, e6, e7⟩ := hE
    have hb1 : b1 = b0 := by
      have := h1.loc id b0 hb0
      rw [e4] at this; injection this
    subst hb1
    refine ⟨g', h1, ⟨?_, hS.size, hS.defers, fun t => (hS.slots t).mono h1⟩⟩
    have hlt : id < n + 1 := by
      rcases Nat.lt_or_ge id n with h' | h'
      · omega
      · have := hS.sim.bound id h'; simp only at this; rw [hσ] at this; cases this
    refine h2.change hlt g'.le_refl h2.below h2.imm (fun _ _ => ⟨rfl, rfl, rfl, rfl⟩) (fun i hi b' hb' => ⟨⟨rfl, fun _ => rfl⟩, fun e => hi (h2.sep i id b' hb' e)⟩) ⟨e1, e2, e3, b1, v', e4, hv', by rw [hcells]; exact hheap, e7⟩ (fun b' hb' => h2.fresh id b' hb') (Nat.le_refl _)

theorem ALoop.less {P : Program} {N : Nat} {b : Code} {Q : AExit → Cfg → Prop} {s : Slots} {σ : Nat → Ent} {n : Nat} (t : Tmp) {x y : AV} (ht : s t = x) (hxy : AV.le x y) (h : aw P N b Q ⟨upd s t y, σ, n⟩) : aw P N b Q ⟨s, σ, n⟩ := go_less t ht hxy h

/-- What holds behind a block, or behind the first of two pieces: the rest is walked once, from there. -/
theorem go_after {P : Program} {N : Nat} {b : Code} {Q : AExit → Cfg → Prop} {next : Cfg → Prop} {c : Cfg} {id : Nat} (I : Cfg → Prop) (h1 : aw P N b (aBlk id (aThen I Q)) c) (h2 : ∀ c, I c → next c) : aw P N b (aBlk id (aThen next Q)) c := by
  refine go_mid h1 fun e c' hq => ?_
  cases e with
  | normal => exact h2 _ hq
  | ret => exact hq
  | exit id' =>
    simp only [aBlk] at hq ⊢
    split at hq
    · rename_i h; rw [if_pos h]; exact h2 _ hq
    · rename_i h; rw [if_neg h]; exact hq
theorem go_after0 {P : Program} {N : Nat} {b : Code} {Q : AExit → Cfg → Prop} {next : Cfg → Prop} {c : Cfg} (I : Cfg → Prop) (h1 : aw P N b (aThen I Q) c) (h2 : ∀ c, I c → next c) : aw P N b (aThen next Q) c := by
  refine go_mid h1 fun e c' hq => ?_
  cases e with
  | normal => exact h2 _ hq
  | ret => exact hq
  | exit id' => exact hq

section
variable {P : Program} {ops : Array Oper} {m i n : Nat} {T : Trace} {k : Cfg → Trace → Prop} {op : Op} {ty : TypeId} {pos : String} {after : Array Edge} {r : List Oper} {s : Slots} {σ : Nat → Ent} {gd : Option (Nat × Bool)} {d : Option Tmp}
theorem go_cut {N : Nat} {c : Code} {Q : AExit → Cfg → Prop} (ts : List Nat) (h : ∀ s', (∀ t ∈ ts, s' t = s t) → aw P N c Q ⟨s', σ, n⟩) : aw P N c Q ⟨s, σ, n⟩ := h s fun _ _ => rfl
theorem go_guard_off {j g : Nat} {want : Bool} {t : Tmp} (hd : (ops[j]?).bind (·.dst) = some g) (hs : s g = .lit (.bool (!want))) (h2 : aops P ops m r (i + 1) T k ⟨upd s t (.tup []), σ, n⟩) :
    aops P ops m (⟨some t, op, ty, pos, after, some (j, want)⟩ :: r) i T k ⟨s, σ, n⟩ := go_guard_out hd hs rfl h2
theorem AV.le_slice {xs ys : List AV} (o : Option Nat) (h : ALe xs ys) : AV.le (.slice o xs) (.slice none ys) := fun g v hr => by
  obtain ⟨h1, h2⟩ := h.at
  cases hr with
  | slice own _ vs A c size hvl hc hm hr hs hcell hown =>
    rw [h1] at hvl hc hcell ⊢
    exact .slice none ys vs A c size hvl hc hm (fun i y v hy hv => by obtain ⟨x, hx, hxy⟩ := h2 i y hy; exact hxy g v (hr i x v hx hv)) hs hcell (fun id hid => by cases hid)
theorem go_callw {t : Tmp} {x : Operand} {args : Array Operand} {ts : Array TypeId} {f : FuncId} {caps : List AV} {pre post : Foot} {v : AV} {as : List AV} (hc : ACall P f as (m + i) pre v post) (hx : aeval s x = .fn f caps) (hle : ALe (args.toList.map (aeval s) ++ caps) as) (hp : ∀ p ∈ pre, σ p.1 = p.2)
    (h : aops P ops m r (i + 1) (addT i ⟨pre, v, post⟩ T) k ⟨upd s t v, wr σ post, n⟩) : aops P ops m (⟨some t, .call { callee := .value x, args := args, argTypes := ts }, ty, pos, after, none⟩ :: r) i T k ⟨s, σ, n⟩ :=
  go_call hx (hc.weaken hle) hp h
end

@[go_sem] theorem getz (a : AV) (l : List AV) : (a :: l)[0]? = some a := rfl
@[go_sem] theorem byteAV_agg0 (b : UInt8) : (byteAV b).isAgg = false := rfl
theorem i64_and127 (x : Int) (h0 : 0 ≤ x) (h1 : x ≤ 9223372036854775807) : bits .and .i64 x 127 = x % 128 :=
  bits_mask .i64 63 (by decide) (fun n a b => wrap_i64 (by omega) (by omega)) 7 (by decide) x h0 (by omega)
theorem i64_or128 (x : Int) (h0 : 0 ≤ x) (h1 : x < 128) : bits .or .i64 x 128 = x + 128 := by
  have h : bits .or .i64 128 x = 128 + x := bits_join .i64 63 (by decide) (fun n a b => wrap_i64 (by omega) (by omega)) 7 128 x (by decide) (by decide) (by decide) h0 (by omega) (by omega)
  have c : bits .or .i64 x 128 = bits .or .i64 128 x := by simp [bits, BitVec.or_comm]
  rw [c, h]; omega
theorem u8_and127 (x : Int) (h0 : 0 ≤ x) (h1 : x < 256) : bits .and .u8 x 127 = x % 128 := bits_mask .u8 8 (by decide) wraps_u8 7 (by decide) x h0 h1

/-! ### What is made to be written -/
/-- The operation with this number makes something that is written later. -/
inductive Mut (id : Nat) : Prop where
  | mk

def evMut (P : Program) (s : Slots) (id : Nat) : Op → Option Step
  | .buildSlice t len parts => match sliceInfo P t with
    | some (e, size, _, z) => match fillA (fun i => some (i * size, size)) (List.replicate len z) (parts.toList.map fun p => (p.1, aeval s p.2)) with
      | some ys => if len * size ≤ 16777216 ∧ ys.length = len ∧ ys.all (fun x => x.sz == size) = true then some ⟨[], .ms id 0 size 0 len, [(id, .mrow 0 e size ys)]⟩ else none
      | none => none
    | none => none
  | .makeSlice t x y => match sliceInfo P t, aeval s x, aeval s y with
    | some (e, size, bytes, z), .lit (.int _ n), .lit (.int _ c) => if 0 ≤ n ∧ n ≤ c ∧ c ≤ 140737488355328 ∧ bytes * c ≤ 140737488355328 then some ⟨[], .ms id 0 size 0 n.toNat, [(id, .mrow 0 e size (List.replicate n.toNat z))]⟩ else none
    | _, _, _ => none
  | .convert src dst x => match aeval s x, sliceTy P dst with
    | .lit (.string b), some e => if strTy P src = true ∧ byteTy P e = true ∧ sizeIs P e 1 = true ∧ b.size ≤ 9223372036854775807 then some ⟨[], .ms id 0 1 0 b.size, [(id, .mrow 0 e 1 (b.data.toList.map byteAV))]⟩ else none
    | _, _ => none
  | .slice t x lo hi none => match aeval s x, ptrArr P t with
    | .ptr i p q, some (n, _, size) => match bnd s 0 lo, bnd s n hi with
      | some l, some h => if l ≤ h ∧ h ≤ n ∧ (l = 0 ∨ l < n) ∧ n ≤ 9223372036854775807 then some ⟨[], .bs i p l (q + l * size) (h - l), []⟩ else none
      | _, _ => none
    | _, _ => none
  | _ => none

theorem evMut_sound {P : Program} {s : Slots} {σ : Nat → Ent} {id : Nat} {o : Oper} {st : Step} (h : evMut P s id o.op = some st) : Gives P o s σ id st := by
  cases ho : o.op <;> rw [ho] at h <;> simp only [evMut] at h <;> try (cases h; done)
  case buildSlice t len parts =>
    split at h
    · rename_i ht
      split at h
      · rename_i hf
        split at h
        · rename_i hc
          cases h
          obtain ⟨k1, k2, k3, k4, k5, k6⟩ := sliceInfo_sound ht
          exact .mk0 (holds_buildSliceM ho k1 k2 k4 k6 k5 hc.1 hf hc.2.1 hc.2.2)
        · cases h
      · cases h
    · cases h
  case makeSlice t x y =>
    split at h
    · rename_i ht hx hy
      split at h
      · rename_i hc
        cases h
        obtain ⟨k1, k2, k3, k4, k5, k6⟩ := sliceInfo_sound ht
        exact .mk0 (holds_makeSliceM ho k1 k2 k3 k4 k5 k6 hx hy hc.1 hc.2.1 hc.2.2.1 hc.2.2.2)
      · cases h
    · cases h
  case convert src dst x =>
    split at h
    · rename_i hx hd
      split at h
      · rename_i hc
        cases h
        exact .mk0 (holds_convert_str_bytes ho hc.1 hd hc.2.1 hc.2.2.1 hx (by unfold maxLen; omega))
      · cases h
    · cases h
  case slice t x lo hi mx =>
    cases mx with
    | some m => cases h
    | none =>
      simp only at h
      split at h
      · rename_i hx ht
        split at h
        · rename_i hl hh
          split at h
          · rename_i hc
            cases h
            exact .mk0 (holds_slice_box ho ht hx hl hh hc.1 hc.2.1 hc.2.2.1 (by unfold maxLen; omega))
          · cases h
        · cases h
      · cases h
attribute [go_sem] evMut

section
variable {P : Program} {ops : Array Oper} {m i n : Nat} {T : Trace} {k : Cfg → Trace → Prop} {op : Op} {ty : TypeId} {pos : String} {after : Array Edge} {r : List Oper} {s : Slots} {σ : Nat → Ent}
theorem go_mut {t : Tmp} {v : AV} {q : Nat × Ent} (_hM : Mut (m + i)) (he : evMut P s (m + i) op = some ⟨[], v, [q]⟩) (h : aops P ops m r (i + 1) ((i, [], [q]) :: T) k ⟨upd s t v, upd σ q.1 q.2, n⟩) : aops P ops m (⟨some t, op, ty, pos, after, none⟩ :: r) i T k ⟨s, σ, n⟩ :=
  go_own (st := ⟨[], v, [q]⟩) (fun o ho => evMut_sound (by rw [ho]; exact he)) h
theorem go_mutP {t : Tmp} {v : AV} (_hM : Mut (m + i)) (he : evMut P s (m + i) op = some ⟨[], v, []⟩) (h : aops P ops m r (i + 1) T k ⟨upd s t v, σ, n⟩) : aops P ops m (⟨some t, op, ty, pos, after, none⟩ :: r) i T k ⟨s, σ, n⟩ :=
  go_own (st := ⟨[], v, []⟩) (fun o ho => evMut_sound (by rw [ho]; exact he)) h
end

/-- The end of a walk: its result read as saying less. -/
theorem go_resultI {P : Program} {rs : List ResultVar} {k : Nat} {σ0 : Nat → Ent} {n0 : Nat} {pre : Foot} {r r0 : AV} {c : Cfg} (h1 : aresults P c rs = some r0) (hle : AV.le r0 r) (h2 : r.ren (rn n0 k none) = r) (h3 : ∀ id, id < n0 → c.σ id = σ0 id) : aRet P rs k σ0 n0 pre r [] .ret c :=
  go_resultL h1 hle h2 h3
/-- Boxes of the caller's are left as 'ws' says, and the result is read as saying less. -/
theorem go_resultWI {P : Program} {rs : List ResultVar} {k : Nat} {σ0 : Nat → Ent} {n0 : Nat} {pre post : Foot} {r r0 : AV} {c : Cfg} (ws : Foot) (h1 : aresults P c rs = some r0) (hle : AV.le r0 r) (h2 : r.ren (rn n0 k none) = r) (h3 : ∀ id, id < n0 → c.σ id = wr σ0 ws id)
    (h4 : ∀ q ∈ ws, ∃ p ∈ pre, p.1 = q.1) (h5 : renF (rn n0 k none) ws = post) : aRet P rs k σ0 n0 pre r post .ret c :=
  ⟨r0, r, ws, none, h1, hle, h2.symm, h3, h4, h5.symm⟩
/-- A row or a box of the callee's own is handed back, and boxes of the caller's are left as 'ws' says. -/
theorem go_result1W {P : Program} {rs : List ResultVar} {k r0 : Nat} {σ0 : Nat → Ent} {n0 : Nat} {pre post : Foot} {r r' : AV} {E E' : Ent} {c : Cfg} (ws : Foot) (h1 : aresults P c rs = some r') (h0 : n0 ≤ r0) (h2 : r'.ren (rn n0 k (some r0)) = r) (h3 : ∀ id, id < n0 → c.σ id = wr σ0 ws id)
    (h6 : ∀ q ∈ ws, ∃ p ∈ pre, p.1 = q.1) (h4 : c.σ r0 = E') (h5 : renF (rn n0 k (some r0)) ws ++ [(k, E'.ren (rn n0 k (some r0)))] = post) : aRet P rs k σ0 n0 pre r post .ret c :=
  ⟨r', r', ws, some r0, h1, AV.le_refl _, h2.symm, h3, h6, h0, by rw [h4, h5]⟩
theorem AV.le_slices {o : Option Nat} {xs ys : List AV} (h : xs = ys) : AV.le (.slice o xs) (.slice none ys) := by subst h; exact AV.le_own _ _
theorem AV.le_nilsE {ys : List AV} (h : ys = []) : AV.le .nils (.slice none ys) := by subst h; exact AV.le_nils0
theorem AV.le_clipE {xs ys : List AV} (h : xs = ys) : AV.le (.clip xs) (.slice none ys) := by subst h; exact AV.le_clip _

/-! ### Rows of bytes -/
@[go_sem] theorem szl_bytes (bs : List UInt8) : AV.szl (bs.map byteAV) = bs.length := by
  rw [AV.szl_uniform _ 1 fun x hx => by obtain ⟨b, _, rfl⟩ := List.mem_map.1 hx; rfl]; simp
@[go_sem] theorem szl_take_bytes (bs : List UInt8) (i : Nat) : AV.szl ((bs.map byteAV).take i) = min i bs.length := by rw [← List.map_take, szl_bytes, List.length_take]
attribute [go_sem] AV.szl_append
@[go_sem] theorem take_len_map {α β : Type} (f : α → β) (l : List α) : (l.map f).take l.length = l.map f := List.take_of_length_le (by simp)
theorem set_bytes (bs : List UInt8) (i : Nat) (b : UInt8) : (bs.map byteAV).set i (byteAV b) = (bs.set i b).map byteAV := by rw [List.map_set]
theorem replicate_zero_bytes (n : Nat) : List.replicate n (AV.lit (.int .u8 0)) = (List.replicate n (0 : UInt8)).map byteAV := by rw [List.map_replicate]; rfl
theorem append_bytes (a b : List UInt8) : a.map byteAV ++ b.map byteAV = (a ++ b).map byteAV := by rw [List.map_append]

/-- A byte that is any integer of its kind. -/
theorem byte_of_wf {a : Int} (h : (Lit.int .u8 a).wf = true) : ∃ b : UInt8, AV.lit (.int .u8 a) = byteAV b ∧ a = (b.toNat : Int) := by
  have hw : IntKind.u8.min ≤ a ∧ a ≤ IntKind.u8.max := by simpa [Lit.wf] using h
  have e1 : IntKind.u8.min = 0 := by decide
  have e2 : IntKind.u8.max = 255 := by decide
  obtain ⟨n, rfl⟩ := Int.eq_ofNat_of_zero_le (show 0 ≤ a by omega)
  refine ⟨UInt8.ofNat n, ?_, ?_⟩
  · simp only [byteAV]
    rw [UInt8.toNat_ofNat', Nat.mod_eq_of_lt (by omega)]
  · rw [UInt8.toNat_ofNat', Nat.mod_eq_of_lt (by omega)]
theorem byte_of_range {a : Int} (h0 : 0 ≤ a) (h1 : a < 256) : ∃ b : UInt8, a = (b.toNat : Int) := by
  obtain ⟨n, rfl⟩ := Int.eq_ofNat_of_zero_le h0
  exact ⟨UInt8.ofNat n, by rw [UInt8.toNat_ofNat', Nat.mod_eq_of_lt (by omega)]⟩
theorem u8_bits_range (op : BinOp) (a b : Int) : 0 ≤ bits op .u8 a b ∧ bits op .u8 a b < 256 := by
  have hw : ∀ x : Int, 0 ≤ IntKind.u8.wrap x ∧ IntKind.u8.wrap x < 256 := fun x => by rw [IntKind.wrap_u8]; omega
  unfold bits
  split <;> exact hw _
theorem u8_wrap_range (x : Int) : 0 ≤ IntKind.u8.wrap x ∧ IntKind.u8.wrap x < 256 := by rw [IntKind.wrap_u8]; omega
end Go.Ab
