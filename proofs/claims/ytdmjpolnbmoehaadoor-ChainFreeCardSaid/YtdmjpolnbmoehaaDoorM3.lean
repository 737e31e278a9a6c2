/- Texts C1, C2, C3, C4, C5, C6, C7, C11, C9, F, H1, H2, joined. -/
import Derived.Test.YtdmjpolnbmoehaaDoorM2
import Derived.Laws.BitsLemmas
import Derived.ChangeArms
import Derived.OpenShut
import Derived.SizedLaws
import Derived.Test.YtdmjpolnbmoehaaDoorRows
import Derived.KernelRfl

namespace Go.Ab
open Go.RowKit
theorem SimA.at_eq {W0 : World} {g : Ghost} {N : Nat} {s : Slots} {σ : Nat → Ent} {n : Nat} {a : Act} {w : World} (h : SimA W0 g N ⟨s, σ, n⟩ a w) {t : Tmp} {x : AV} (ht : s t = x) : Rep g x (a.tmps.getD t undef) := by
 have := h.slots t
 simp only at this
 rw [ht] at this; exact this
theorem SimA.turnSlot {W0 : World} {g g' : Ghost} {N : Nat} {s : Slots} {σ σ' : Nat → Ent} {n n' : Nat} {a : Act} {w : World} (h : SimA W0 g N ⟨s, σ, n⟩ a w) (hle : g.le g') (hS : Sim W0 g' σ' n' w) {t : Tmp} {y : AV} (hy : Rep g' y (a.tmps.getD t undef)) : SimA W0 g' N ⟨upd s t y, σ', n'⟩ a w := by
 refine ⟨hS, h.size, fun t' => ?_⟩
 by_cases htt : t' = t
 ·subst htt; simp only [upd_same]; exact hy
 ·simp only [upd_ne _ _ _ _ htt]; exact (h.slots t').mono hle
theorem ALoop.nilrow {P : Program} {N : Nat} {b : Code} {Q : AExit → Cfg → Prop} {s : Slots} {σ : Nat → Ent} {n : Nat} (t : Tmp) (e : TypeId) (size : Nat) (ht : s t = .nils)
  (h : aw P N b Q ⟨upd s t (.slice (some n) []), upd σ n (.row e size 0), n + 1⟩) : aw P N b Q ⟨s, σ, n⟩ := by
 refine go_ghost (fun W0 g a w hS => ?_) h
 have hf : σ n = .none := hS.sim.bound n (Nat.le_refl _)
 obtain ⟨g1, hle1, hS1, hrow1, _⟩ := (hS.sim.more (n' := n + 1) (Nat.le_succ n)).addRow (k := n) (e := e) (size := size) (m := 0) (u := .slice none 0 0) (cells := []) hf (Nat.lt_succ_self n) (ownsR_nil w _ e size) rfl (fun b hb => by simp [Value.ownBlock] at hb) (fun b hb => by simp [Value.ownBlock] at hb)
 refine ⟨g1, hle1, hS.turnSlot hle1 hS1 ?_⟩
 have hr := hS.at_eq ht
 generalize a.tmps.getD t undef = v at hr
 cases hr
 exact .slice (some n) [] [] none 0 0 rfl (Nat.le_refl _) (by unfold maxLen; omega) (fun i x v h _ => by simp at h) (fun v hv => by simp at hv) (.inl rfl) (fun id hid => by cases hid; exact ⟨_, hrow1, Nat.le_refl _, fun _ => rfl⟩)
theorem go_freeze {P : Program} {N : Nat} {b : Code} {Q : AExit → Cfg → Prop} {s : Slots} {σ : Nat → Ent} {n : Nat} (t : Tmp) {id ver size : Nat} {e : TypeId} {xs : List AV} {k : Nat} (hσ : σ id = .mrow ver e size xs) (ht : s t = .ms id ver size 0 k) (hk : k = xs.length)
  (h : aw P N b Q ⟨upd s t (.slice (some id) xs), upd σ id (.row e size xs.length), n⟩) : aw P N b Q ⟨s, σ, n⟩ := by
 refine go_ghost (fun W0 g a w hS => ?_) h
 subst hk
 obtain ⟨g2, hle2, hS2, u2, vs, k1, k2, k3, k4, k5, k6, k7, k8⟩ := hS.sim.freezeM hσ
 exact ⟨g2, hle2, hS.turnSlot hle2 hS2 ((hS.at_eq ht).msFrozen hle2 k1 k3 k2 k4 k5 k6 k8)⟩
theorem go_less {P : Program} {N : Nat} {b : Code} {Q : AExit → Cfg → Prop} {s : Slots} {σ : Nat → Ent} {n : Nat} (t : Tmp) {x y : AV} (ht : s t = x) (hxy : AV.le x y) (h : aw P N b Q ⟨upd s t y, σ, n⟩) : aw P N b Q ⟨s, σ, n⟩ :=
 go_ghost (fun _W0 g _a _w hS => ⟨g, g.le_refl, hS.turnSlot g.le_refl hS.sim (hxy _ _ (hS.at_eq ht))⟩) h
theorem go_view {P : Program} {N : Nat} {b : Code} {Q : AExit → Cfg → Prop} {s : Slots} {σ : Nat → Ent} {n : Nat} (t : Tmp) {id : Nat} {bt : TypeId} {x : AV} (hσ : σ id = .box bt x) (ht : s t = .ptr id [] 0)
  (h : aw P N b Q ⟨upd s t (.view x), upd σ id (.fbox bt x), n⟩) : aw P N b Q ⟨s, σ, n⟩ := by
 refine go_ghost (fun W0 g a w hS => ?_) h
 have hr := hS.at_eq ht
 have key : ∀ v, Rep g (.ptr id [] 0) v → ∃ g', g.le g' ∧ Sim W0 g' (upd σ id (.fbox bt x)) n w ∧ Rep g' (.view x) v := by
  intro v hv
  cases hv with
  | ptr _ _ _ b0 hb =>
   obtain ⟨g', h1, h2, v', h3, h4⟩ := hS.sim.freeze hσ hb
   exact ⟨g', h1, h2, .view x v' b0 0 h3 fun j u hu => by rw [Nat.zero_add, h4, ← Array.getElem?_toList]; exact hu⟩
 obtain ⟨g', h1, h2, h3⟩ := key _ hr
 exact ⟨g', h1, hS.turnSlot h1 h2 h3⟩
theorem go_cliprowIn {P : Program} {N : Nat} {b : Code} {Q : AExit → Cfg → Prop} {s : Slots} {σ : Nat → Ent} {n : Nat} (id : Nat) (path : List Nat) (e : TypeId) (size : Nat) {bt : TypeId} {c : AV} {xs : List AV} (hσ : σ id = .box bt c) (hc : c.get path = some (.clip xs)) (hsx : xs.all (fun x => x.sz == size) = true)
  (h : aw P N b Q ⟨s, upd (upd σ n (.row e size xs.length)) id (.box bt (c.put path (.slice (some n) xs))), n + 1⟩) : aw P N b Q ⟨s, σ, n⟩ := by
 refine go_ghost (fun W0 g a w hS => ?_) h
 have hf : σ n = .none := hS.sim.bound n (Nat.le_refl _)
 have hidn : id ≠ n := by rintro rfl; rw [hf] at hσ; cases hσ
 obtain ⟨b0, v, hb0, _, hrep, hheap, hG⟩ := hS.sim.box id bt c hσ
 obtain ⟨u, hu, hub, huc⟩ := hrep.get hc
 cases hu with
 | clip _ A m hcl =>
  obtain ⟨g', h1, h2, h3, h4⟩ := (hS.sim.more (n' := n + 1) (Nat.le_succ n)).ofClip (k := n) (e := e) (size := size) hf (Nat.lt_succ_self n) hcl hsx
  obtain ⟨v', hv', hvc⟩ := (hrep.mono h1).put hc h4 rfl
  have hcells : v'.cells = v.cells := by
   have hU : (Value.slice A m m).cells.toList = [Value.slice A m m] := rfl
   have hUs : (Value.slice A m m).cells.size = 1 := rfl
   apply Array.ext'
   rw [hvc, hU, hUs]
   have hk := huc 0 (Value.slice A m m) (by rw [hU]; rfl)
   rw [Nat.add_zero] at hk
   have hlt : c.offs path < v.cells.toList.length := (List.getElem?_eq_some_iff.1 hk).1
   have l1 : (v.cells.toList.take (c.offs path)).length = c.offs path := by rw [List.length_take]; omega
   have l2 : (v.cells.toList.take (c.offs path) ++ [Value.slice A m m]).length = c.offs path + 1 := by rw [List.length_append, l1]; rfl
   apply List.ext_getElem?
   intro j
   by_cases h1' : j < c.offs path
   ·rw [List.getElem?_append_left (by omega), List.getElem?_append_left (by omega), List.getElem?_take, if_pos h1']
   ·by_cases h2' : j = c.offs path
    ·subst h2'
     rw [List.getElem?_append_left (by omega), List.getElem?_append_right (by omega), l1, Nat.sub_self, hk]
     rfl
    ·rw [List.getElem?_append_right (by omega), l2, List.getElem?_drop]
     congr 1
     omega
  have hE : EntOK W0 g' w id (upd σ n (.row e size xs.length) id) := h2.ents id
  rw [upd_ne _ _ _ _ hidn, hσ] at hE
  obtain ⟨e1, e2, e3, b1, v1, e4, e5, e6, e7⟩ := hE
  have hb1 : b1 = b0 := by
   have := h1.loc id b0 hb0
   rw [e4] at this; injection this
  subst hb1
  refine ⟨g', h1, ⟨?_, hS.size, fun t => (hS.slots t).mono h1⟩⟩
  have hlt : id < n + 1 := by
   rcases Nat.lt_or_ge id n with h' | h'
   ·omega
   ·have := hS.sim.bound id h'; simp only at this; rw [hσ] at this; cases this
  refine h2.change hlt g'.le_refl h2.below h2.imm (fun _ _ => ⟨rfl, rfl, rfl, rfl⟩) (fun i hi b' hb' => ⟨⟨rfl, fun _ => rfl⟩, fun e => hi (h2.sep i id b' hb' e)⟩) ⟨e1, e2, e3, b1, v', e4, hv', by rw [hcells]; exact hheap, e7⟩ (fun b' hb' => h2.fresh id b' hb') (Nat.le_refl _)
theorem ALoop.less {P : Program} {N : Nat} {b : Code} {Q : AExit → Cfg → Prop} {s : Slots} {σ : Nat → Ent} {n : Nat} (t : Tmp) {x y : AV} (ht : s t = x) (hxy : AV.le x y) (h : aw P N b Q ⟨upd s t y, σ, n⟩) : aw P N b Q ⟨s, σ, n⟩ := go_less t ht hxy h
theorem go_after {P : Program} {N : Nat} {b : Code} {Q : AExit → Cfg → Prop} {next : Cfg → Prop} {c : Cfg} {id : Nat} (I : Cfg → Prop) (h1 : aw P N b (aBlk id (aThen I Q)) c) (h2 : ∀ c, I c → next c) : aw P N b (aBlk id (aThen next Q)) c := by
 refine go_mid h1 fun e c' hq => ?_
 cases e with
 | normal => exact h2 _ hq
 | ret => exact hq
 | exit id' =>
  simp only [aBlk] at hq ⊢
  split at hq
  ·rename_i h; rw [if_pos h]; exact h2 _ hq
  ·rename_i h; rw [if_neg h]; exact hq
theorem go_after0 {P : Program} {N : Nat} {b : Code} {Q : AExit → Cfg → Prop} {next : Cfg → Prop} {c : Cfg} (I : Cfg → Prop) (h1 : aw P N b (aThen I Q) c) (h2 : ∀ c, I c → next c) : aw P N b (aThen next Q) c := by
 refine go_mid h1 fun e c' hq => ?_
 cases e with
 | normal => exact h2 _ hq
 | ret => exact hq
 | exit id' => exact hq
section
variable {P : Program} {ops : Array Oper} {m i n : Nat} {T : Trace} {k : Cfg → Trace → Prop} {op : Op} {ty : TypeId} {pos : String} {after : Array Edge} {r : List Oper} {s : Slots} {σ : Nat → Ent} {gd : Option (Nat × Bool)} {d : Option Tmp}
theorem go_cut {N : Nat} {c : Code} {Q : AExit → Cfg → Prop} (ts : List Nat) (h : ∀ s', (∀ t ∈ ts, s' t = s t) → aw P N c Q ⟨s', σ, n⟩) : aw P N c Q ⟨s, σ, n⟩ := h s fun _ _ => rfl
theorem go_guard_off {j g : Nat} {want : Bool} {t : Tmp} (hd : (ops[j]?).bind (·.dst) = some g) (hs : s g = .lit (.bool (!want))) (h2 : aops P ops m r (i + 1) T k ⟨upd s t (.tup []), σ, n⟩) :
  aops P ops m (⟨some t, op, ty, pos, after, some (j, want)⟩ :: r) i T k ⟨s, σ, n⟩ := go_guard_out hd hs rfl h2
theorem go_callw {t : Tmp} {x : Operand} {args : Array Operand} {ts : Array TypeId} {f : FuncId} {caps : List AV} {pre post : Foot} {v : AV} {as0 : List AV} (hc : ACall P f as0 (m + i) pre v post) (hx : aeval s x = .fn f caps) (hle : ALe (args.toList.map (aeval s) ++ caps) as0) (hp : ∀ p ∈ pre, σ p.1 = p.2)
  (h : aops P ops m r (i + 1) (addT i ⟨pre, v, post⟩ T) k ⟨upd s t v, wr σ post, n⟩) : aops P ops m (⟨some t, .call { callee := .value x, args := args, argTypes := ts }, ty, pos, after, none⟩ :: r) i T k ⟨s, σ, n⟩ :=
 go_call hx (hc.weaken hle) hp h
end
@[go_sem] theorem getz (a : AV) (l : List AV) : (a :: l)[0]? = some a := rfl
@[go_sem] theorem byteAV_agg0 (b : UInt8) : (byteAV b).isAgg = false := rfl
theorem i64_and127 (x : Int) (h0 : 0 ≤ x) (h1 : x ≤ 9223372036854775807) : bits .and .i64 x 127 = x % 128 :=
 bits_mask .i64 63 (by decide) (fun n a b => wrap_i64 (by omega) (by omega)) 7 (by decide) x h0 (by omega)
theorem i64_or128 (x : Int) (h0 : 0 ≤ x) (h1 : x < 128) : bits .or .i64 x 128 = x + 128 := by
 have h : bits .or .i64 128 x = 128 + x := bits_join .i64 63 (by decide) (fun n a b => wrap_i64 (by omega) (by omega)) 7 128 x (by decide) (by decide) (by decide) h0 (by omega) (by omega)
 have c : bits .or .i64 x 128 = bits .or .i64 128 x := by simp [bits, BitVec.or_comm]
 rw [c, h]; omega
theorem u8_and127 (x : Int) (h0 : 0 ≤ x) (h1 : x < 256) : bits .and .u8 x 127 = x % 128 := bits_mask .u8 8 (by decide) wraps_u8 7 (by decide) x h0 h1
inductive Mut (id : Nat) : Prop where
 | mk
def evMut (P : Program) (s : Slots) (id : Nat) : Op → Option Step
 | .buildSlice t len parts => match sliceInfo P t with
  | some (e, size, _, z) => match fillA (fun i => some (i * size, size)) (List.replicate len z) (parts.toList.map fun p => (p.1, aeval s p.2)) with
   | some ys => if len * size ≤ 16777216 ∧ ys.length = len ∧ ys.all (fun x => x.sz == size) = true then some ⟨[], .ms id 0 size 0 len, [(id, .mrow 0 e size ys)]⟩ else none
   | none => none
  | none => none
 | .makeSlice t x y => match sliceInfo P t, aeval s x, aeval s y with
  | some (e, size, bytes, z), .lit (.int _ n), .lit (.int _ c) => if 0 ≤ n ∧ n ≤ c ∧ c ≤ 140737488355328 ∧ bytes * c ≤ 140737488355328 then some ⟨[], .ms id 0 size 0 n.toNat, [(id, .mrow 0 e size (List.replicate n.toNat z))]⟩ else none
  | _, _, _ => none
 | .convert src dst x => match aeval s x, sliceTy P dst with
  | .lit (.string b), some e => if strTy P src = true ∧ byteTy P e = true ∧ sizeIs P e 1 = true ∧ b.size ≤ 9223372036854775807 then some ⟨[], .ms id 0 1 0 b.size, [(id, .mrow 0 e 1 (b.data.toList.map byteAV))]⟩ else none
  | _, _ => none
 | .slice t x lo hi none => match aeval s x, ptrArr P t with
  | .ptr i p q, some (n, _, size) => match bnd s 0 lo, bnd s n hi with
   | some l, some h => if l ≤ h ∧ h ≤ n ∧ (l = 0 ∨ l < n) ∧ n ≤ 9223372036854775807 then some ⟨[], .bs i p l (q + l * size) (h - l), []⟩ else none
   | _, _ => none
  | _, _ => none
 | _ => none
theorem evMut_sound {P : Program} {s : Slots} {σ : Nat → Ent} {id : Nat} {o : Oper} {st : Step} (h : evMut P s id o.op = some st) : Gives P o s σ id st := by
 cases ho : o.op <;> rw [ho] at h <;> simp only [evMut] at h <;> try (cases h; done)
 case buildSlice t len parts =>
  split at h
  ·rename_i ht
   split at h
   ·rename_i hf
    split at h
    ·rename_i hc
     cases h
     obtain ⟨k1, k2, k3, k4, k5, k6⟩ := sliceInfo_sound ht
     exact .mk0 (holds_buildSliceM ho k1 k2 k4 k6 k5 hc.1 hf hc.2.1 hc.2.2)
    ·cases h
   ·cases h
  ·cases h
 case makeSlice t x y =>
  split at h
  ·rename_i ht hx hy
   split at h
   ·rename_i hc
    cases h
    obtain ⟨k1, k2, k3, k4, k5, k6⟩ := sliceInfo_sound ht
    exact .mk0 (holds_makeSliceM ho k1 k2 k3 k4 k5 k6 hx hy hc.1 hc.2.1 hc.2.2.1 hc.2.2.2)
   ·cases h
  ·cases h
 case convert src dst x =>
  split at h
  ·rename_i hx hd
   split at h
   ·rename_i hc
    cases h
    exact .mk0 (holds_convert_str_bytes ho hc.1 hd hc.2.1 hc.2.2.1 hx (by unfold maxLen; omega))
   ·cases h
  ·cases h
 case slice t x lo hi mx =>
  cases mx with
  | some m => cases h
  | none =>
   simp only at h
   split at h
   ·rename_i hx ht
    split at h
    ·rename_i hl hh
     split at h
     ·rename_i hc
      cases h
      exact .mk0 (holds_slice_box ho ht hx hl hh hc.1 hc.2.1 hc.2.2.1 (by unfold maxLen; omega))
     ·cases h
    ·cases h
   ·cases h
attribute [go_sem] evMut
section
variable {P : Program} {ops : Array Oper} {m i n : Nat} {T : Trace} {k : Cfg → Trace → Prop} {op : Op} {ty : TypeId} {pos : String} {after : Array Edge} {r : List Oper} {s : Slots} {σ : Nat → Ent}
theorem go_mut {t : Tmp} {v : AV} {q : Nat × Ent} (_hM : Mut (m + i)) (he : evMut P s (m + i) op = some ⟨[], v, [q]⟩) (h : aops P ops m r (i + 1) ((i, [], [q]) :: T) k ⟨upd s t v, upd σ q.1 q.2, n⟩) : aops P ops m (⟨some t, op, ty, pos, after, none⟩ :: r) i T k ⟨s, σ, n⟩ :=
 go_own (st := ⟨[], v, [q]⟩) (fun o ho => evMut_sound (by rw [ho]; exact he)) h
theorem go_mutP {t : Tmp} {v : AV} (_hM : Mut (m + i)) (he : evMut P s (m + i) op = some ⟨[], v, []⟩) (h : aops P ops m r (i + 1) T k ⟨upd s t v, σ, n⟩) : aops P ops m (⟨some t, op, ty, pos, after, none⟩ :: r) i T k ⟨s, σ, n⟩ :=
 go_own (st := ⟨[], v, []⟩) (fun o ho => evMut_sound (by rw [ho]; exact he)) h
end
theorem go_resultI {P : Program} {rs : List ResultVar} {k : Nat} {σ0 : Nat → Ent} {n0 : Nat} {pre : Foot} {r r0 : AV} {c : Cfg} (h1 : aresults P c rs = some r0) (hle : AV.le r0 r) (h2 : r.ren (rn n0 k none) = r) (h3 : ∀ id, id < n0 → c.σ id = σ0 id) : aRet P rs k σ0 n0 pre r [] .ret c :=
 go_resultL h1 hle h2 h3
theorem go_resultWI {P : Program} {rs : List ResultVar} {k : Nat} {σ0 : Nat → Ent} {n0 : Nat} {pre post : Foot} {r r0 : AV} {c : Cfg} (ws : Foot) (h1 : aresults P c rs = some r0) (hle : AV.le r0 r) (h2 : r.ren (rn n0 k none) = r) (h3 : ∀ id, id < n0 → c.σ id = wr σ0 ws id)
  (h4 : ∀ q ∈ ws, ∃ p ∈ pre, p.1 = q.1) (h5 : renF (rn n0 k none) ws = post) : aRet P rs k σ0 n0 pre r post .ret c :=
 ⟨r0, r, ws, none, h1, hle, h2.symm, h3, h4, h5.symm⟩
theorem go_result1W {P : Program} {rs : List ResultVar} {k r0 : Nat} {σ0 : Nat → Ent} {n0 : Nat} {pre post : Foot} {r r' : AV} {_E E' : Ent} {c : Cfg} (ws : Foot) (h1 : aresults P c rs = some r') (h0 : n0 ≤ r0) (h2 : r'.ren (rn n0 k (some r0)) = r) (h3 : ∀ id, id < n0 → c.σ id = wr σ0 ws id)
  (h6 : ∀ q ∈ ws, ∃ p ∈ pre, p.1 = q.1) (h4 : c.σ r0 = E') (h5 : renF (rn n0 k (some r0)) ws ++ [(k, E'.ren (rn n0 k (some r0)))] = post) (h7 : E'.plain = true := by rfl) : aRet P rs k σ0 n0 pre r post .ret c :=
 ⟨r', r', ws, some r0, h1, AV.le_refl _, h2.symm, h3, h6, h0, by rw [h4, h5], by rw [h4]; exact h7⟩
theorem AV.le_slices {o : Option Nat} {xs ys : List AV} (h : xs = ys) : AV.le (.slice o xs) (.slice none ys) := by subst h; exact AV.le_own _ _
theorem AV.le_nilsE {ys : List AV} (h : ys = []) : AV.le .nils (.slice none ys) := by subst h; exact AV.le_nils0
theorem AV.le_clipE {xs ys : List AV} (h : xs = ys) : AV.le (.clip xs) (.slice none ys) := by subst h; exact AV.le_clip _
@[go_sem] theorem szl_bytes (bs : List UInt8) : AV.szl (bs.map byteAV) = bs.length := by
 rw [AV.szl_uniform _ 1 fun x hx => by obtain ⟨b, _, rfl⟩ := List.mem_map.1 hx; rfl]; simp
@[go_sem] theorem szl_take_bytes (bs : List UInt8) (i : Nat) : AV.szl ((bs.map byteAV).take i) = min i bs.length := by rw [← List.map_take, szl_bytes, List.length_take]
attribute [go_sem] AV.szl_append
@[go_sem] theorem take_len_map {α β : Type} (f : α → β) (l : List α) : (l.map f).take l.length = l.map f := List.take_of_length_le (by simp)
theorem set_bytes (bs : List UInt8) (i : Nat) (b : UInt8) : (bs.map byteAV).set i (byteAV b) = (bs.set i b).map byteAV := by rw [List.map_set]
theorem byte_of_wf {a : Int} (h : (Lit.int .u8 a).wf = true) : ∃ b : UInt8, AV.lit (.int .u8 a) = byteAV b ∧ a = (b.toNat : Int) := by
 have hw : IntKind.u8.min ≤ a ∧ a ≤ IntKind.u8.max := by simpa [Lit.wf] using h
 have e1 : IntKind.u8.min = 0 := by decide
 have e2 : IntKind.u8.max = 255 := by decide
 obtain ⟨n, rfl⟩ := Int.eq_ofNat_of_zero_le (show 0 ≤ a by omega)
 refine ⟨UInt8.ofNat n, ?_, ?_⟩
 ·simp only [byteAV]
  rw [UInt8.toNat_ofNat', Nat.mod_eq_of_lt (by omega)]
 ·rw [UInt8.toNat_ofNat', Nat.mod_eq_of_lt (by omega)]

def g0 (w : World) : Ghost := { G := fun b o => if b < w.heap.size then w.cell? ⟨b, o, none⟩ else none, loc := fun _ => none, row := fun _ => none, own := fun _ => none, mr := fun _ => none }
theorem sim0 (w : World) : Sim w (g0 w) (fun _ => .none) 1 w where
 below := Below.refl _ _
 imm := fun b o v h => by
  simp only [g0] at h
  split at h
  ·exact h
  ·cases h
 bound := fun _ _ => rfl
 ents := fun _ => ⟨rfl, rfl, rfl, rfl⟩
 sep := fun i j b h _ => by simp [g0, Ghost.blk] at h
 fresh := fun i b h => by simp [g0, Ghost.blk] at h
theorem ACall.walk {P : Program} {f : FuncId} {args : List AV} {v : Value} (h : ACall P f args 0 [] (.lit v) []) (w : World) (vals : List Value) (hl : vals.length = args.length)
  (hr : ∀ (i : Nat) (x : AV) (u : Value), args[i]? = some x → vals[i]? = some u → Rep (g0 w) x u) : Calls P f vals.toArray w fun e w' => e = .returned v ∧ Below w.heap.size w w' := by
 refine (h.2.2.2 w (g0 w) _ 1 w vals (sim0 w) hl hr rfl (by omega) (fun p hp => by cases hp)).mono ?_
 rintro e w' ⟨u, rfl, g', _, hS, hu⟩
 rw [rep_lit_inv hu]
 exact ⟨rfl, hS.below⟩
inductive Reps (g : Ghost) : List AV → List Value → Prop where
 | nil : Reps g [] []
 | cons {x : AV} {v : Value} {xs : List AV} {vs : List Value} : Rep g x v → Reps g xs vs → Reps g (x :: xs) (v :: vs)
theorem Reps.at {g : Ghost} {xs : List AV} {vs : List Value} (h : Reps g xs vs) : vs.length = xs.length ∧ ∀ (i : Nat) (x : AV) (u : Value), xs[i]? = some x → vs[i]? = some u → Rep g x u := by
 induction h with
 | nil => exact ⟨rfl, fun i x u h _ => by simp at h⟩
 | cons h _ ih =>
  refine ⟨by simp [ih.1], fun i x u hx hu => ?_⟩
  cases i with
  | zero => simp at hx hu; subst hx; subst hu; exact h
  | succ i => exact ih.2 i x u (by simpa using hx) (by simpa using hu)
theorem rep_ints {w : World} {k : IntKind} {a : Option Addr} {len cap : Nat} {zs : List Int} (h : (a = none ∧ len = 0 ∧ cap = 0 ∧ zs = []) ∨ ∃ x, a = some x ∧ len ≤ cap ∧ cap ≤ maxLen ∧ zs.length = cap ∧ ∀ i, i < zs.length → w.cell? (x.add i) = some (.int k (zs.getD i 0))) :
  Rep (g0 w) (.slice none ((zs.take len).map fun z => .lit (.int k z))) (.slice a len cap) := by
 rcases h with ⟨rfl, rfl, rfl, rfl⟩ | ⟨x, rfl, h1, h2, h3, h4⟩
 ·exact .slice none [] [] none 0 1 rfl (by simp) (by unfold maxLen; omega) (fun i x v h _ => by simp at h) (fun v hv => by simp at hv) (.inl rfl) (fun id hid => by cases hid)
 ·have hlen : ((zs.take len).map fun z => AV.lit (.int k z)).length = len := by simp; omega
  have := Rep.slice (g := g0 w) none ((zs.take len).map fun z => AV.lit (.int k z)) ((zs.take len).map fun z => Value.int k z) (some x) cap 1 (by simp) (by rw [hlen]; exact h1) h2
   (fun i y v hy hv => by
    rw [List.getElem?_map] at hy hv
    cases hz : (zs.take len)[i]? with
    | none => rw [hz] at hy; cases hy
    | some z => rw [hz] at hy hv; cases hy; cases hv; exact .lit _ rfl) (fun v hv => by obtain ⟨z, _, rfl⟩ := List.mem_map.1 hv; rfl)
   (by
    by_cases h0 : len = 0
    ·exact .inl (by rw [hlen, h0])
    ·right
     obtain ⟨b, off, spot⟩ := x
     have hc := h4 0 (by omega)
     have hspot : spot = none := by simpa [Addr.add] using World.cell?_spot hc
     subst hspot
     have hb : b < w.heap.size := by
      have hc0 : w.cell? ⟨b, off, none⟩ = some (.int k (zs.getD 0 0)) := by simpa [Addr.add] using hc
      rcases Nat.lt_or_ge b w.heap.size with h | h
      ·exact h
      ·exfalso
       simp [World.cell?, Array.getElem?_eq_none h] at hc0
     refine ⟨b, off, rfl, fun j u hu => ?_⟩
     have hfl : flat ((zs.take len).map fun z => Value.int k z) = (zs.take len).map fun z => Value.int k z := by
      generalize zs.take len = l
      induction l with
      | nil => rfl
      | cons z r ih => rw [List.map_cons, flat_cons, ih]; rfl
     rw [hfl, List.getElem?_map] at hu
     cases hz : (zs.take len)[j]? with
     | none => rw [hz] at hu; cases hu
     | some z =>
      rw [hz] at hu; cases hu
      have hj : j < zs.length := by
       have := (List.getElem?_eq_some_iff.1 hz).1
       simp at this; omega
      have hzz : zs.getD j 0 = z := by
       rw [List.getElem?_take] at hz
       split at hz
       ·simp [List.getD, hz]
       ·cases hz
      simp only [g0, if_pos hb]
      have := h4 j hj
      rw [hzz] at this
      rw [Addr.add_lit] at this
      exact this) (fun id hid => by cases hid)
  rw [hlen] at this
  exact this
theorem rep_len {w : World} {k : IntKind} {a : Option Addr} {len cap : Nat} {zs : List Int} (h : (a = none ∧ len = 0 ∧ cap = 0 ∧ zs = []) ∨ ∃ x, a = some x ∧ len ≤ cap ∧ cap ≤ maxLen ∧ zs.length = cap ∧ ∀ i, i < zs.length → w.cell? (x.add i) = some (.int k (zs.getD i 0))) :
  (zs.take len).length ≤ 9223372036854775807 := by
 rcases h with ⟨_, _, _, rfl⟩ | ⟨x, _, h1, h2, h3, _⟩
 ·simp
 ·unfold maxLen at h2
  rw [List.length_take]; omega
theorem bytes_of_ints (zs : List Int) (h : ∀ n ∈ zs, (Lit.int .u8 n).wf = true) : ∃ bs : List UInt8, bs.length = zs.length ∧ zs.map (fun z => AV.lit (.int .u8 z)) = bs.map byteAV := by
 refine ⟨zs.map fun z => UInt8.ofNat z.toNat, by simp, ?_⟩
 rw [List.map_map]
 refine List.map_congr_left fun z hz => ?_
 have := h z hz
 simp only [Lit.wf, Function.comp, byteAV] at this ⊢
 congr 2
 rw [UInt8.toNat_ofNat']
 have hw : IntKind.u8.min ≤ z ∧ z ≤ IntKind.u8.max := by simpa using this
 have e1 : IntKind.u8.min = 0 := by decide
 have e2 : IntKind.u8.max = 255 := by decide
 omega
end Go.Ab

namespace Go.Ab
open Go.RowKit Go.ChangeShapes
def layB (P : Program) : List Field → Nat → Nat → Bool
 | [], off, tot => off == tot
 | f :: fs, off, tot => f.offset == off && layB P fs (off + P.cellsOf f.type) tot
def dataTy (P : Program) : Nat → TypeId → Bool
 | 0, _ => false
 | m + 1, t => match P.underlying t with
  | some .bool => P.cellsOf t == 1
  | some (.int _) => P.cellsOf t == 1
  | some .string => P.cellsOf t == 1
  | some (.slice e) => dataTy P m e && decide (0 < P.cellsOf e) && P.cellsOf t == 1
  | some (.array n e) => dataTy P m e && P.cellsOf t == n * P.cellsOf e
  | some (.struct fs) => (fs.toList.all fun f => dataTy P m f.type) && layB P fs.toList 0 (P.cellsOf t)
  | _ => false
def tyAV (P : Program) : Nat → TypeId → AV → Prop
 | 0, _, _ => False
 | m + 1, t, x => match P.underlying t with
  | some .bool => ∃ b, x = .lit (.bool b)
  | some (.int k) => ∃ n, x = .lit (.int k n) ∧ (Lit.int k n).wf = true
  | some .string => ∃ l : List UInt8, x = .lit (.string ⟨l.toArray⟩) ∧ l.length ≤ 9223372036854775807
  | some (.slice e) => ∃ xs, x = .slice none xs ∧ xs.length ≤ 9223372036854775807 ∧ (∀ y ∈ xs, tyAV P m e y) ∧ xs.length * P.bytesOf e ≤ 140737488351232
  | some (.array n e) => ∃ xs, x = .agg xs ∧ xs.length = n ∧ ∀ y ∈ xs, tyAV P m e y
  | some (.struct fs) => ∃ xs, x = .agg xs ∧ xs.length = fs.size ∧ ∀ (i : Nat) (f : Field) (y : AV), fs[i]? = some f → xs[i]? = some y → tyAV P m f.type y
  | _ => False
def aggT (P : Program) (t : TypeId) : Bool :=
 match P.underlying t with
 | some (.array _ _) | some (.struct _) => true
 | _ => false
theorem range_mapM_cells {w : World} {a : Addr} {n : Nat} {cs : List Value} (h : (List.range n).mapM (fun i => w.cell? (a.add i)) = some cs) : cs.length = n ∧ ∀ (i : Nat) (v : Value), cs[i]? = some v → w.cell? (a.add i) = some v := by
 have hl := mapM_some_length h
 refine ⟨by simpa using hl, fun i v hv => ?_⟩
 have hi : i < n := by have := (List.getElem?_eq_some_iff.1 hv).1; simp at hl; omega
 have := mapM_some_get h i i (by simp [hi])
 rw [this]; exact hv
theorem flat_pieces {cs : List Value} {size : Nat} : ∀ (vs : List Value), cs.length = vs.length * size → (∀ (i : Nat) (v : Value), vs[i]? = some v → v.cells.toList = (cs.drop (i * size)).take size) → flat vs = cs
 | [], hl, _ => by
  simp at hl
  subst hl; rfl
 | v :: vs, hl, h => by
  have h0 := h 0 v rfl
  simp only [Nat.zero_mul, List.drop_zero] at h0
  rw [flat_cons, h0]
  simp only [List.length_cons, Nat.add_mul, Nat.one_mul] at hl
  have ih := flat_pieces (cs := cs.drop size) (size := size) vs (by rw [List.length_drop]; omega) fun i u hu => by
   have := h (i + 1) u (by simpa using hu)
   rw [this, List.drop_drop]
   congr 2
   rw [Nat.add_mul]; omega
  rw [ih, List.take_append_drop]
theorem flat_fields {P : Program} {cs : List Value} : ∀ (fs : List Field) (vs : List Value) (off : Nat), layB P fs off cs.length = true → vs.length = fs.length → off ≤ cs.length → (∀ (i : Nat) (f : Field) (v : Value), fs[i]? = some f → vs[i]? = some v → v.cells.toList = (cs.drop f.offset).take (P.cellsOf f.type) ∧ v.cells.size = P.cellsOf f.type) → flat vs = cs.drop off
 | [], vs, off, hl, hv, hle, _ => by
  cases vs with
  | nil =>
   simp only [layB, beq_iff_eq] at hl
   rw [hl, List.drop_length]; rfl
  | cons => simp at hv
 | f :: fs, vs, off, hl, hv, hle, h => by
  cases vs with
  | nil => simp at hv
  | cons v vs =>
   simp only [layB, Bool.and_eq_true, beq_iff_eq] at hl
   obtain ⟨h1, h2⟩ := h 0 f v rfl rfl
   have hsz : ((cs.drop off).take (P.cellsOf f.type)).length = P.cellsOf f.type := by rw [← hl.1, ← h1, Array.length_toList, h2]
   rw [List.length_take, List.length_drop] at hsz
   have ih := flat_fields (P := P) (cs := cs) fs vs (off + P.cellsOf f.type) hl.2 (by simpa using hv) (by omega) fun i g u hg hu => h (i + 1) g u (by simpa using hg) (by simpa using hu)
   rw [flat_cons, h1, hl.1, ih, ← List.drop_drop, List.take_append_drop]
theorem list_of {α : Type} {Q : Nat → α → Prop} : ∀ n, (∀ i, i < n → ∃ p, Q i p) → ∃ l : List α, l.length = n ∧ ∀ (i : Nat) (p : α), l[i]? = some p → Q i p
 | 0, _ => ⟨[], rfl, fun i p h => by simp at h⟩
 | n + 1, h => by
  obtain ⟨l, hl, hq⟩ := list_of n fun i hi => h i (by omega)
  obtain ⟨p, hp⟩ := h n (by omega)
  refine ⟨l ++ [p], by simp [hl], fun i q hq' => ?_⟩
  by_cases hi : i < l.length
  ·rw [List.getElem?_append_left hi] at hq'; exact hq i q hq'
  ·rw [List.getElem?_append_right (by omega)] at hq'
   have : i - l.length = 0 := by
    have := (List.getElem?_eq_some_iff.1 hq').1
    simp at this; omega
   rw [this] at hq'
   simp at hq'
   subst hq'
   have : i = n := by omega
   rw [this]; exact hp
theorem weightsAll_mem {H : Type} {P : Program} {e : TypeId} : ∀ {ds : List (DataW H)} {i : Nat} {d : DataW H}, ds[i]? = some d → ∀ n ∈ d.weights P e, n ∈ DataW.weightsAll P e ds
 | d0 :: r, 0, d, h, n, hn => by
  simp only [List.getElem?_cons_zero, Option.some.injEq] at h
  subst h
  simp only [DataW.weightsAll, List.mem_append]
  exact .inl hn
 | d0 :: r, i + 1, d, h, n, hn => by
  simp only [List.getElem?_cons_succ] at h
  simp only [DataW.weightsAll, List.mem_append]
  exact .inr (weightsAll_mem h n hn)
 | [], _, _, h, _, _ => by simp at h
section
variable {H : Type} {enc : TypeId × Value → H} {P : Program} {w : World} {base : Nat} {spare : Nat → Bool} {held : Bool}
theorem trod_rep : ∀ (m : Nat) (t : TypeId), dataTy P m t = true → ∀ (fuel : Nat) (cs : List Value) (x : DataW H × List MemPlace), DataW.trod enc P w base spare held fuel t cs = some x → (∀ n ∈ x.1.weights P t, n ≤ 140737488351232) →
  ∃ (p : AV × Value), p.2.cells.toList = cs ∧ Rep (g0 w) p.1 p.2 ∧ tyAV P m t p.1 ∧ p.2.cells.size = P.cellsOf t ∧ valAgg p.2 = aggT P t ∧ valTup p.2 = false
 | 0, _, h => by simp [dataTy] at h
 | m + 1, t, h => by
  intro fuel cs x hx hw0
  unfold dataTy at h
  unfold tyAV aggT
  split at h
  ·rename_i ht
   obtain ⟨b, rfl, rfl⟩ := DataW.trod_bool ht hx
   simp only [ht]
   exact ⟨(.lit (.bool b), .bool b), rfl, .lit _ rfl, ⟨b, rfl⟩, by simpa [Value.cells] using (beq_iff_eq.1 h).symm, rfl, rfl⟩
  ·rename_i k ht
   obtain ⟨n, rfl, rfl, hw⟩ := DataW.trod_int ht hx
   simp only [ht]
   exact ⟨(.lit (.int k n), .int k n), rfl, .lit _ rfl, ⟨n, rfl, hw⟩, by simpa [Value.cells] using (beq_iff_eq.1 h).symm, rfl, rfl⟩
  ·rename_i ht
   obtain ⟨s, rfl, rfl, hw⟩ := DataW.trod_string ht hx
   simp only [ht]
   refine ⟨(.lit (.string s), .string s), rfl, .lit _ rfl, ⟨s.data.toList, by simp, ?_⟩, by simpa [Value.cells] using (beq_iff_eq.1 h).symm, rfl, rfl⟩
   unfold maxLen at hw
   have : s.data.toList.length = s.size := by simp
   omega
  ·rename_i e ht
   simp only [Bool.and_eq_true, decide_eq_true_eq, beq_iff_eq] at h
   obtain ⟨⟨h1, h2⟩, h3⟩ := h
   simp only [ht]
   rcases DataW.trod_slice ht hx with ⟨rfl, rfl⟩ | ⟨a, len, cap, elems, rest, n, _, rfl, rfl, hba, hlc, hcm, hel, hcell, _⟩
   ·exact ⟨(.slice none [], .slice none 0 0), rfl, AV.le_nils0 _ _ .nils, ⟨[], rfl, by simp, (fun y hy => by cases hy), by simp⟩, by simp [Value.cells, h3], rfl, rfl⟩
   ·have hwu : (DataW.slice (elems.map (·.1)) (rest.map (·.1))).weights P t = ((elems.map (·.1)).length + (rest.map (·.1)).length) * P.bytesOf e :: (DataW.weightsAll P e (elems.map (·.1)) ++ DataW.weightsAll P e (rest.map (·.1))) := by simp only [DataW.weights, ht]
    simp only [hwu] at hw0
    have hwl : len * P.bytesOf e ≤ 140737488351232 := Nat.le_trans (Nat.mul_le_mul_right _ (by rw [List.length_map, hel]; omega)) (hw0 _ (List.mem_cons_self ..))
    have hwe : ∀ (i : Nat) (z : DataW H × List MemPlace), elems[i]? = some z → ∀ n ∈ z.1.weights P e, n ≤ 140737488351232 := fun i z hz n hn =>
     hw0 n (List.mem_cons_of_mem _ (List.mem_append_left _ (weightsAll_mem (i := i) (by rw [List.getElem?_map, hz]; rfl) n hn)))
    obtain ⟨l, hl, hq⟩ := list_of (Q := fun i (p : AV × Value) => Rep (g0 w) p.1 p.2 ∧ tyAV P m e p.1 ∧ p.2.cells.size = P.cellsOf e ∧ ∀ (j : Nat) (v : Value), p.2.cells.toList[j]? = some v → w.cell? ((a.add (i * P.cellsOf e)).add j) = some v) len fun i hi => by
     have hc := hcell i hi
     have hei : elems[i]? = some elems[i] := List.getElem?_eq_getElem (by omega)
     rw [hei] at hc
     simp only [Option.bind_eq_some_iff] at hc
     obtain ⟨cs, hcs, hd⟩ := hc
     unfold World.cells? at hcs
     split at hcs
     ·obtain ⟨hcl, hcc⟩ := range_mapM_cells hcs
      obtain ⟨p, p1, p2, p3, p4, p5, p6⟩ := trod_rep m e h1 n cs _ hd (hwe i _ hei)
      exact ⟨p, p2, p3, p4, by rw [p1]; exact hcc⟩
     ·cases hcs
    have hlen : (l.map (·.1)).length = len := by simp [hl]
    have hsz : ∀ v ∈ l.map (·.2), v.cells.size = P.cellsOf e := fun v hv => by
     obtain ⟨p, hp, rfl⟩ := List.mem_map.1 hv
     obtain ⟨i, hi⟩ := List.getElem?_of_mem hp
     exact (hq i p hi).2.2.1
    have hrep := Rep.slice (g := g0 w) none (l.map (·.1)) (l.map (·.2)) (some a) cap (P.cellsOf e) (by simp) (by rw [hlen]; exact hlc) hcm
     (fun i x v hx hv => by
      rw [List.getElem?_map] at hx hv
      cases hli : l[i]? with
      | none => rw [hli] at hx; cases hx
      | some p => rw [hli] at hx hv; cases hx; cases hv; exact (hq i p hli).1) hsz
     (by
      rw [hlen]
      by_cases h0 : len = 0
      ·exact .inl h0
      ·right
       have hl0 : l[0]? = some l[0] := List.getElem?_eq_getElem (by omega)
       obtain ⟨_, _, q3, q4⟩ := hq 0 _ hl0
       have hc0 : 0 < (l[0]).2.cells.toList.length := by rw [Array.length_toList, q3]; exact h2
       have hcell0 := q4 0 _ (List.getElem?_eq_getElem hc0)
       have hspot : a.spot = none := by
        have := World.cell?_spot hcell0
        simpa [Addr.add] using this
       obtain ⟨b, off, sp⟩ := a
       simp only at hspot
       subst hspot
       have hb : b < w.heap.size := by
        rw [Addr.add_lit, Addr.add_lit] at hcell0
        rcases Nat.lt_or_ge b w.heap.size with h | h
        ·exact h
        ·exfalso
         simp [World.cell?, Array.getElem?_eq_none h] at hcell0
       refine ⟨b, off, rfl, fun j u hu => ?_⟩
       simp only [g0, if_pos hb]
       have hflen : (flat (l.map (·.2))).length = len * P.cellsOf e := by rw [flat_length _ _ hsz, List.length_map, hl]
       have hj : j < len * P.cellsOf e := by rw [← hflen]; exact (List.getElem?_eq_some_iff.1 hu).1
       have hi : j / P.cellsOf e < len := by rw [Nat.div_lt_iff_lt_mul h2]; exact hj
       have hli : l[j / P.cellsOf e]? = some l[j / P.cellsOf e] := List.getElem?_eq_getElem (by omega)
       obtain ⟨_, _, r3, r4⟩ := hq _ _ hli
       have hjm : j % P.cellsOf e < (l[j / P.cellsOf e]).2.cells.toList.length := by rw [Array.length_toList, r3]; exact Nat.mod_lt _ h2
       have hat := flat_at (l.map (·.2)) (P.cellsOf e) hsz (j / P.cellsOf e) (l[j / P.cellsOf e]).2 (by rw [List.getElem?_map, hli]; rfl) (j % P.cellsOf e) _ (List.getElem?_eq_getElem hjm)
       have hsplit : j / P.cellsOf e * P.cellsOf e + j % P.cellsOf e = j := by rw [Nat.mul_comm]; exact Nat.div_add_mod j (P.cellsOf e)
       rw [hsplit, hu] at hat
       have hcl := r4 (j % P.cellsOf e) u (by rw [List.getElem?_eq_getElem hjm]; exact hat.symm)
       rw [Addr.add_lit, Addr.add_lit] at hcl
       rw [← hcl]
       congr 2
       omega) (fun id hid => by cases hid)
    rw [hlen] at hrep
    refine ⟨(.slice none (l.map (·.1)), .slice (some a) len cap), rfl, hrep, ⟨_, rfl, by rw [hlen]; unfold maxLen at hcm; omega, fun y hy => ?_, by rw [hlen]; exact hwl⟩, by simp [Value.cells, h3], rfl, rfl⟩
    obtain ⟨p, hp, rfl⟩ := List.mem_map.1 hy
    obtain ⟨i, hi⟩ := List.getElem?_of_mem hp
    exact (hq i p hi).2.1
  ·rename_i n e ht
   simp only [Bool.and_eq_true, beq_iff_eq] at h
   obtain ⟨h1, h2⟩ := h
   obtain ⟨xs, q, _, rfl, hl, hxl, hf⟩ := DataW.trod_array ht hx
   have hwu : (DataW.agg (xs.map (·.1))).weights P t = DataW.weightsAll P e (xs.map (·.1)) := by simp only [DataW.weights, ht]
   simp only [hwu] at hw0
   have hwe : ∀ (i : Nat) (z : DataW H × List MemPlace), xs[i]? = some z → ∀ n ∈ z.1.weights P e, n ≤ 140737488351232 := fun i z hz n hn =>
    hw0 n (weightsAll_mem (i := i) (by rw [List.getElem?_map, hz]; rfl) n hn)
   simp only [ht]
   obtain ⟨l, hll, hq⟩ := list_of (Q := fun i (p : AV × Value) => Rep (g0 w) p.1 p.2 ∧ tyAV P m e p.1 ∧ p.2.cells.size = P.cellsOf e ∧ p.2.cells.toList = (cs.drop (i * P.cellsOf e)).take (P.cellsOf e)) n fun i hi => by
    have hd := hf i hi
    have hxi : xs[i]? = some (xs[i]'(by omega)) := List.getElem?_eq_getElem (by omega)
    rw [hxi] at hd
    obtain ⟨p, p1, p2, p3, p4, p5, p6⟩ := trod_rep m e h1 q _ _ hd (hwe i _ hxi)
    exact ⟨p, p2, p3, p4, p1⟩
   have hfl : flat (l.map (·.2)) = cs := flat_pieces (size := P.cellsOf e) _ (by rw [hl, h2, List.length_map, hll]) fun i v hv => by
    rw [List.getElem?_map] at hv
    cases hli : l[i]? with
    | none => rw [hli] at hv; cases hv
    | some p => rw [hli] at hv; cases hv; exact (hq i p hli).2.2.2
   refine ⟨(.agg (l.map (·.1)), .agg (flat (l.map (·.2))).toArray), by rw [hfl]; rfl, .agg _ _ (by simp) (fun i x v hx hv => ?_), ⟨_, rfl, by simp [hll], fun y hy => ?_⟩, by simp [Value.cells, hfl, hl], rfl, rfl⟩
   ·rw [List.getElem?_map] at hx hv
    cases hli : l[i]? with
    | none => rw [hli] at hx; cases hx
    | some p => rw [hli] at hx hv; cases hx; cases hv; exact (hq i p hli).1
   ·obtain ⟨p, hp, rfl⟩ := List.mem_map.1 hy
    obtain ⟨i, hi⟩ := List.getElem?_of_mem hp
    exact (hq i p hi).2.1
  ·rename_i fs ht
   simp only [Bool.and_eq_true, List.all_eq_true] at h
   obtain ⟨h1, h2⟩ := h
   obtain ⟨xs, q, _, rfl, hl, hxl, hf⟩ := DataW.trod_struct ht hx
   have hwu : (DataW.agg (xs.map (·.1))).weights P t = DataW.weightsEach P (fs.toList.map (·.type)) (xs.map (·.1)) := by simp only [DataW.weights, ht]
   simp only [hwu] at hw0
   have hwe : ∀ (i : Nat) (f : Field) (z : DataW H × List MemPlace), fs[i]? = some f → xs[i]? = some z → ∀ n ∈ z.1.weights P f.type, n ≤ 140737488351232 := fun i f z hf hz n hn =>
    hw0 n (DataW.weights_mem_each (j := i) (t := f.type) (by rw [List.getElem?_map, Array.getElem?_toList, hf]; rfl) (by rw [List.getElem?_map, hz]; rfl) n hn)
   simp only [ht]
   obtain ⟨l, hll, hq⟩ := list_of (Q := fun i (p : AV × Value) => ∀ f, fs[i]? = some f → Rep (g0 w) p.1 p.2 ∧ tyAV P m f.type p.1 ∧ p.2.cells.size = P.cellsOf f.type ∧ p.2.cells.toList = (cs.drop f.offset).take (P.cellsOf f.type)) fs.size fun i hi => by
    have hfi : fs[i]? = some fs[i] := by simp [hi]
    have hd := hf i _ hfi
    have hxi : xs[i]? = some (xs[i]'(by omega)) := List.getElem?_eq_getElem (by omega)
    rw [hxi] at hd
    obtain ⟨p, p1, p2, p3, p4, p5, p6⟩ := trod_rep m (fs[i]).type (h1 _ (Array.getElem_mem_toList hi)) q _ _ hd (hwe i _ _ hfi hxi)
    exact ⟨p, fun f hf' => by rw [hfi] at hf'; cases hf'; exact ⟨p2, p3, p4, p1⟩⟩
   have hfl : flat (l.map (·.2)) = cs := by
    have := flat_fields (P := P) (cs := cs) fs.toList (l.map (·.2)) 0 (by rw [hl]; exact h2) (by simp [hll]) (Nat.zero_le _) fun i f v hf' hv => by
     rw [List.getElem?_map] at hv
     cases hli : l[i]? with
     | none => rw [hli] at hv; cases hv
     | some p =>
      rw [hli] at hv; cases hv
      obtain ⟨_, _, q3, q4⟩ := hq i p hli f (by simpa using hf')
      exact ⟨q4, q3⟩
    simpa using this
   have hat : ∀ (i : Nat) (p : AV × Value), l[i]? = some p → ∃ f, fs[i]? = some f := fun i p hp => by
    have : i < fs.size := by have := (List.getElem?_eq_some_iff.1 hp).1; omega
    exact ⟨fs[i], by simp [this]⟩
   refine ⟨(.agg (l.map (·.1)), .agg (flat (l.map (·.2))).toArray), by rw [hfl]; rfl, .agg _ _ (by simp) (fun i x v hx hv => ?_), ⟨_, rfl, by simp [hll], fun i f y hf' hy => ?_⟩, by simp [Value.cells, hfl, hl], rfl, rfl⟩
   ·rw [List.getElem?_map] at hx hv
    cases hli : l[i]? with
    | none => rw [hli] at hx; cases hx
    | some p =>
     rw [hli] at hx hv; cases hx; cases hv
     obtain ⟨f, hf'⟩ := hat i p hli
     exact (hq i p hli f hf').1
   ·rw [List.getElem?_map] at hy
    cases hli : l[i]? with
    | none => rw [hli] at hy; cases hy
    | some p => rw [hli] at hy; cases hy; exact (hq i p hli f hf').2.1
  ·cases h
theorem open_any {m : Nat} {t : TypeId} {v : Value} {d : DataW H} {ps : List MemPlace} {r : Reach} {b0 : Nat} (ht : dataTy P m t = true) (hval : Value.okWide P w r b0 t v) (hd : DataW.Trod enc P w base spare held t v d ps) (hw : ∀ n ∈ d.weights P t, n ≤ 140737488351232) : ∃ x, Rep (g0 w) x v ∧ tyAV P m t x := by
 obtain ⟨fuel, hf⟩ := hd
 obtain ⟨p, p1, p2, p3, p4, p5, p6⟩ := trod_rep m t ht fuel _ _ hf hw
 have hv : p.2 = v := by
  unfold Value.okWide at hval
  cases ha : aggT P t with
  | true =>
   have hag : ∃ cs, v = .agg cs := by
    unfold aggT at ha
    split at ha
    ·rename_i h; rw [h] at hval; exact ⟨_, hval.choose_spec.1⟩
    ·rename_i h; rw [h] at hval; exact ⟨_, hval.choose_spec.1⟩
    ·cases ha
   obtain ⟨cs, rfl⟩ := hag
   rw [ha] at p5
   cases hp : p.2 <;> rw [hp] at p5 <;> simp [valAgg] at p5
   rename_i cs'
   rw [hp] at p1
   simp only [Value.cells] at p1
   congr 1
   exact Array.ext' p1
  | false =>
   rw [ha] at p5
   have hna : valAgg v = false := by
    cases v <;> try rfl
    rename_i cs
    exfalso
    obtain ⟨m', rfl⟩ : ∃ k, m = k + 1 := by cases m with
     | zero => simp [dataTy] at ht
     | succ k => exact ⟨k, rfl⟩
    unfold dataTy at ht
    unfold aggT at ha
    split at ht <;> first | (cases ht; done) | (rename_i h; rw [h] at ha hval; simp [Cell.okWide, Cell.ok] at ha hval; done)
   have c1 : ∀ u : Value, valAgg u = false → u.cells = #[u] := fun u hu => by cases u <;> simp_all [valAgg, Value.cells]
   rw [c1 _ p5, c1 _ hna] at p1
   simpa using p1
 subst hv
 exact ⟨p.1, p2, p3⟩
end
end Go.Ab

namespace Go.Ab
open Go.RowKit
theorem list_map_of {α : Type} {R : α → Prop} {f : α → AV} : ∀ {xs : List AV}, (∀ y ∈ xs, ∃ d, R d ∧ y = f d) → ∃ ds : List α, (∀ d ∈ ds, R d) ∧ xs = ds.map f ∧ ds.length = xs.length
 | [], _ => ⟨[], fun d h => (by cases h), rfl, rfl⟩
 | x :: xs, h => by
  obtain ⟨d, h1, h2⟩ := h x (List.mem_cons_self ..)
  obtain ⟨ds, h3, h4, h5⟩ := list_map_of (xs := xs) fun y hy => h y (List.mem_cons_of_mem _ hy)
  refine ⟨d :: ds, fun e he => ?_, by simp [h2, ← h4], by simp [h5]⟩
  rcases List.mem_cons.1 he with rfl | he
  ·exact h1
  ·exact h3 e he
theorem ty_int {P : Program} {m : Nat} {t : TypeId} {k : IntKind} {x : AV} (ht : intTy P t = some k) (h : tyAV P (m + 1) t x) : ∃ n, (Lit.int k n).wf = true ∧ x = .lit (.int k n) := by
 unfold tyAV at h
 rw [intTy_sound ht] at h
 obtain ⟨n, h1, h2⟩ := h
 exact ⟨n, h2, h1⟩
theorem ty_byte {P : Program} {m : Nat} {t : TypeId} {x : AV} (ht : byteTy P t = true) (h : tyAV P (m + 1) t x) : ∃ b : UInt8, True ∧ x = byteAV b := by
 have he : P.underlying t = some (.int .u8) := by
  unfold byteTy at ht
  split at ht
  ·assumption
  ·cases ht
 unfold tyAV at h
 rw [he] at h
 obtain ⟨n, rfl, hw⟩ := h
 obtain ⟨b, hb, _⟩ := byte_of_wf hw
 exact ⟨b, trivial, hb⟩
theorem ty_bytearr {P : Program} {m n size : Nat} {t e : TypeId} {x : AV} (ht : arrInfo P t = some (n, e, size)) (he : byteTy P e = true) (h : tyAV P (m + 2) t x) : ∃ bs : List UInt8, bs.length = n ∧ x = .agg (bs.map byteAV) := by
 unfold tyAV at h
 rw [arrTy_sound (arrInfo_sound ht).1] at h
 obtain ⟨xs, rfl, h1, h2⟩ := h
 obtain ⟨bs, _, h3, h4⟩ := list_map_of fun y hy => ty_byte he (h2 y hy)
 exact ⟨bs, by omega, by rw [h3]⟩
theorem ty_struct {P : Program} {m : Nat} {t : TypeId} {fs : Array Field} {x : AV} (ht : P.underlying t = some (.struct fs)) (h : tyAV P (m + 1) t x) : ∃ xs, x = .agg xs ∧ xs.length = fs.size ∧ ∀ (i : Nat) (f : Field) (y : AV), fs[i]? = some f → xs[i]? = some y → tyAV P m f.type y := by
 unfold tyAV at h
 rw [ht] at h
 exact h

abbrev Tg := {b : List UInt8 // b.length = 32}
def tagAV (t : Tg) : AV := .agg (t.1.map byteAV)
@[go_sem] theorem tagAV_sz (t : Tg) : (tagAV t).sz = 32 := by
 rw [tagAV]; simp only [AV.sz, szl_bytes]; exact t.2
@[go_sem] theorem tagAV_isAgg (t : Tg) : (tagAV t).isAgg = true := rfl
theorem celll_bytes (bs : List UInt8) : AV.celll (bs.map byteAV) = true := by
 rw [AV.celll_all, List.all_eq_true]; intro x hx; obtain ⟨b, _, rfl⟩ := List.mem_map.1 hx; rfl
@[go_sem] theorem tagAV_cell (t : Tg) : (tagAV t).cell = true := celll_bytes t.1
@[go_sem] theorem tagAV_ren (f : Nat → Option Nat) (t : Tg) : (tagAV t).ren f = tagAV t := by
 simp only [tagAV, AV.ren, renl_bytes]
@[go_sem] theorem renl_tags (f : Nat → Option Nat) (l : List Tg) : AV.renl f (l.map tagAV) = l.map tagAV := by
 rw [AV.renl_map, List.map_map]; exact List.map_congr_left fun t _ => tagAV_ren f t
@[go_sem] theorem all_tags1 (l : List Tg) : (l.map tagAV).all (fun x => x.sz == 32) = true := by
 rw [List.all_eq_true]; intro x hx; obtain ⟨b, _, rfl⟩ := List.mem_map.1 hx; simp [tagAV_sz]
@[go_sem] theorem all_tags2 (l : List Tg) : (l.map tagAV).all (fun x => x.sz == 32 && x.cell) = true := by
 rw [List.all_eq_true]; intro x hx; obtain ⟨b, _, rfl⟩ := List.mem_map.1 hx; simp [tagAV_sz, tagAV_cell]
@[go_sem] theorem evBin_tag {P : Program} {T : TypeId} (h : eqTop P T = some (.bytes 32)) (a b : Tg) : evBin P .eql T (tagAV a) (tagAV b) = some ⟨[], .lit (.bool (decide (a = b))), []⟩ := by
 have e : (a.1 == b.1) = decide (a = b) := by
  rw [Bool.eq_iff_iff]; simp [Subtype.ext_iff]
 simp only [evBin, tagAV, evEqA, h, eqA, bytesOf0_map, a.2, b.2, and_self, if_true, e]
@[go_sem] theorem evBin_tagN {P : Program} {T : TypeId} (h : eqTop P T = some (.bytes 32)) (a b : Tg) : evBin P .neq T (tagAV a) (tagAV b) = some ⟨[], .lit (.bool (!decide (a = b))), []⟩ := by
 have e : (a.1 == b.1) = decide (a = b) := by
  rw [Bool.eq_iff_iff]; simp [Subtype.ext_iff]
 simp only [evBin, tagAV, evEqA, h, eqA, bytesOf0_map, a.2, b.2, and_self, if_true, e]
def zeroTag : Tg := ⟨List.replicate 32 0, by simp⟩
theorem zeroTag_eq : AV.agg ((List.replicate 32 (0 : UInt8)).map byteAV) = tagAV zeroTag := rfl
def setT (t : Tg) (i : Nat) (b : UInt8) : Tg := ⟨t.1.set i b, by simp [t.2]⟩
@[go_sem] theorem tag_get (t : Tg) (i : Nat) (h : i < 32) : (tagAV t).get [i] = some (byteAV (t.1[i]'(by rw [t.2]; exact h))) := by
 have h2 : i < t.1.length := by rw [t.2]; exact h
 simp [tagAV, AV.get, h2]
@[go_sem] theorem tag_offs (t : Tg) (i : Nat) (h : i < 32) : (tagAV t).offs [i] = i := by
 have h2 : i < t.1.length := by rw [t.2]; exact h
 simp only [tagAV, AV.offs, ← List.map_take, szl_bytes, List.length_take]
 simp [h2]; omega
theorem tag_put (t : Tg) (i : Nat) (b : UInt8) (h : i < 32) : (tagAV t).put [i] (byteAV b) = tagAV (setT t i b) := by
 have h2 : i < t.1.length := by rw [t.2]; exact h
 simp [tagAV, AV.put, h2, setT, List.map_set]
@[go_sem] theorem tag_putn (t : Tg) (i : Nat) (n : Nat) (h : i < 32) (hn : n < 256) : (tagAV t).put [i] (.lit (.int .u8 (n : Int))) = tagAV (setT t i (UInt8.ofNat n)) := by
 have e : AV.lit (.int .u8 (n : Int)) = byteAV (UInt8.ofNat n) := by simp [byteAV, Nat.mod_eq_of_lt hn]
 rw [e, tag_put t i _ h]
@[go_sem] theorem agg_zero : AV.agg (List.replicate 32 (byteAV 0)) = tagAV zeroTag := by rw [← zeroTag_eq, List.map_replicate]
@[go_sem] theorem agg_tag (t : Tg) : AV.agg (t.1.map byteAV) = tagAV t := rfl
@[go_sem high] theorem fillA_tag (t : Tg) (i : Nat) (a : Int) (r : List (Nat × AV)) (hi : i < 32) (h0 : 0 ≤ a) (h1 : a < 256) :
  fillA (fun i => some (i, 1)) (t.1.map byteAV) ((i, .lit (.int .u8 a)) :: r) = fillA (fun i => some (i, 1)) ((setT t i (UInt8.ofNat a.toNat)).1.map byteAV) r := by
 have h2 : i < t.1.length := by rw [t.2]; exact hi
 obtain ⟨n, rfl⟩ := Int.eq_ofNat_of_zero_le h0
 have e : AV.lit (.int .u8 (n : Int)) = byteAV (UInt8.ofNat n) := by simp [byteAV, Nat.mod_eq_of_lt (show n < 256 by omega)]
 have e2 : AV.szl ((t.1.map byteAV).take i) = i := by rw [szl_take_bytes]; omega
 rw [e, fillA_cons, e2]
 simp [h2, AV.sz, byteAV, setT, List.map_set]
@[go_sem high] theorem fillA_tag0 (t : Tg) : fillA (fun i => some (i, 1)) (t.1.map byteAV) [] = some (t.1.map byteAV) := fillA_nil _ _
def intAV (x : Int) : AV := .lit (.int .i64 x)
@[go_sem] theorem intAV_sz (x : Int) : (intAV x).sz = 1 := rfl
@[go_sem] theorem intAV_isAgg (x : Int) : (intAV x).isAgg = false := rfl
@[go_sem] theorem renl_ints (f : Nat → Option Nat) (l : List Int) : AV.renl f (l.map intAV) = l.map intAV := by
 rw [AV.renl_map, List.map_map]; rfl
theorem ty_tag {P : Program} {m size : Nat} {t e : TypeId} {x : AV} (ht : arrInfo P t = some (32, e, size)) (he : byteTy P e = true) (h : tyAV P (m + 2) t x) : ∃ a : Tg, True ∧ x = tagAV a := by
 obtain ⟨bs, h1, rfl⟩ := ty_bytearr ht he h
 exact ⟨⟨bs, h1⟩, trivial, rfl⟩
@[go_sem] theorem bstr_size (l : List UInt8) : (ByteArray.mk l.toArray).size = l.length := by simp [ByteArray.size]
@[go_sem] theorem bstr_toList (l : List UInt8) : (ByteArray.mk l.toArray).toList = l := by rw [ByteArray.toList_eq]
@[go_sem] theorem bstr_append (a b : List UInt8) : ByteArray.mk a.toArray ++ ByteArray.mk b.toArray = ByteArray.mk (a ++ b).toArray := by
 apply ByteArray.ext
 simp
@[go_sem] theorem bstr_extract (l : List UInt8) (i j : Nat) : (ByteArray.mk l.toArray).extract i j = ByteArray.mk ((l.take j).drop i).toArray := by
 apply ByteArray.ext
 simp [List.drop_take]
attribute [go_sem] strV
def strAV (l : List UInt8) : AV := .lit (.string ⟨l.toArray⟩)
@[go_sem] theorem strAV_sz (l : List UInt8) : (strAV l).sz = 1 := rfl
@[go_sem] theorem strAV_isAgg (l : List UInt8) : (strAV l).isAgg = false := rfl
@[go_sem] theorem strAV_cell (l : List UInt8) : (strAV l).cell = true := rfl
@[go_sem] theorem strAV_ren (f : Nat → Option Nat) (l : List UInt8) : (strAV l).ren f = strAV l := rfl
@[go_sem] theorem renl_strs (f : Nat → Option Nat) (l : List (List UInt8)) : AV.renl f (l.map strAV) = l.map strAV := by
 rw [AV.renl_map, List.map_map]; rfl
@[go_sem] theorem all_strs1 (l : List (List UInt8)) : (l.map strAV).all (fun x => x.sz == 1) = true := by
 rw [List.all_eq_true]; intro x hx; obtain ⟨b, _, rfl⟩ := List.mem_map.1 hx; rfl
@[go_sem] theorem all_strs2 (l : List (List UInt8)) : (l.map strAV).all (fun x => x.sz == 1 && x.cell) = true := by
 rw [List.all_eq_true]; intro x hx; obtain ⟨b, _, rfl⟩ := List.mem_map.1 hx; rfl
theorem i64_of_wf {a : Int} (h : (Lit.int .i64 a).wf = true) : -9223372036854775808 ≤ a ∧ a ≤ 9223372036854775807 := by
 have hw : IntKind.i64.min ≤ a ∧ a ≤ IntKind.i64.max := by simpa [Lit.wf] using h
 have e1 : IntKind.i64.min = -9223372036854775808 := by decide
 have e2 : IntKind.i64.max = 9223372036854775807 := by decide
 omega
@[go_sem] theorem bytesOf_nil : bytesOf [] = some [] := rfl
@[go_sem] theorem bytesOf_lit (n : Int) (r : List AV) (h0 : 0 ≤ n) (h1 : n < 256) : bytesOf (.lit (.int .u8 n) :: r) = (bytesOf r).map (UInt8.ofNat n.toNat :: ·) := by
 rw [bytesOf, if_pos ⟨h0, h1⟩]
@[go_sem high] theorem bytesOf_byte (c : UInt8) (r : List AV) : bytesOf (.lit (.int .u8 c.toNat) :: r) = (bytesOf r).map (c :: ·) := by
 have h := c.toNat_lt
 rw [bytesOf_lit _ _ (by omega) (by omega)]
 simp
@[go_sem] theorem bytesOf_byteAV (c : UInt8) (r : List AV) : bytesOf (byteAV c :: r) = (bytesOf r).map (c :: ·) := bytesOf_byte c r
@[go_sem] theorem bytesOf_app (l : List UInt8) (r : List AV) : bytesOf (l.map byteAV ++ r) = (bytesOf r).map (l ++ ·) := by
 induction l with
 | nil => cases h : bytesOf r <;> simp [h]
 | cons b l ih =>
  rw [List.map_cons, List.cons_append, bytesOf_byteAV, ih]
  cases bytesOf r <;> rfl
@[go_sem] theorem bytesOf_mapB (l : List UInt8) : bytesOf (l.map byteAV) = some l := by
 have := bytesOf_app l []
 rw [List.append_nil] at this
 rw [this, bytesOf_nil]; simp
@[go_sem] theorem wrap_u64r {x : Int} (h1 : 0 ≤ x) (h2 : x ≤ 18446744073709551615) : IntKind.u64.wrap x = x := by
 have : IntKind.u64.wrap x = x % 18446744073709551616 := by simp [IntKind.wrap, IntKind.bits, IntKind.signed]
 rw [this]; omega

@[go_sem] theorem szl_replicate (n : Nat) (a : AV) : AV.szl (List.replicate n a) = n * a.sz := by
 rw [AV.szl_uniform _ a.sz (fun x hx => by rw [List.eq_of_mem_replicate hx]), List.length_replicate]
@[go_sem] theorem replicate_two (a : AV) : List.replicate 2 a = [a, a] := rfl
theorem AV.sub_agg {xs ys : List AV} (h : ALe xs ys) : AV.le (.agg xs) (.agg ys) := fun g v hr => by
 cases hr with
 | agg _ vs hvl hvr =>
  obtain ⟨h1, h2⟩ := h.at
  exact .agg ys vs (by rw [hvl, h1]) fun i y v hy hv => by obtain ⟨x, hx, hxy⟩ := h2 i y hy; exact hxy g v (hvr i x v hx hv)
theorem SimA.turnIn {W0 : World} {g g' : Ghost} {N : Nat} {s : Slots} {σ σ' : Nat → Ent} {n n' : Nat} {a : Act} {w : World} (h : SimA W0 g N ⟨s, σ, n⟩ a w) (hle : g.le g') (hS : Sim W0 g' σ' n' w) (hn : n ≤ n') {id : Nat} {path : List Nat} {bt : TypeId} {c y z : AV}
  (hσ : σ id = .box bt c) (hσ' : σ' id = .box bt c) (hc : c.get path = some y) (hz : ∀ u, Rep g y u → Rep g' z u) (hy1 : y.sz = 1) (hz1 : z.sz = 1) : SimA W0 g' N ⟨s, upd σ' id (.box bt (c.put path z)), n'⟩ a w := by
 obtain ⟨b0, v, hb0, _, hrep, hheap, hG⟩ := h.sim.box id bt c hσ
 obtain ⟨u, hu, hub, huc⟩ := hrep.get hc
 obtain ⟨v', hv', hvc⟩ := (hrep.mono hle).put hc (hz u hu) (by rw [hy1, hz1])
 have hus : u.cells.size = 1 := by rw [hu.size, hy1]
 have hcells : v'.cells = v.cells := by
  obtain ⟨q, hq⟩ : ∃ q, u.cells.toList = [q] := by
   have : u.cells.toList.length = 1 := by rw [Array.length_toList, hus]
   match hl : u.cells.toList, this with
   | [q], _ => exact ⟨q, rfl⟩
  apply Array.ext'
  rw [hvc, hq, hus]
  have hk := huc 0 q (by rw [hq]; rfl)
  rw [Nat.add_zero] at hk
  have hlt : c.offs path < v.cells.toList.length := (List.getElem?_eq_some_iff.1 hk).1
  have l1 : (v.cells.toList.take (c.offs path)).length = c.offs path := by rw [List.length_take]; omega
  have l2 : (v.cells.toList.take (c.offs path) ++ [q]).length = c.offs path + 1 := by rw [List.length_append, l1]; rfl
  apply List.ext_getElem?
  intro j
  by_cases h1' : j < c.offs path
  ·rw [List.getElem?_append_left (by omega), List.getElem?_append_left (by omega), List.getElem?_take, if_pos h1']
  ·by_cases h2' : j = c.offs path
   ·subst h2'
    rw [List.getElem?_append_left (by omega), List.getElem?_append_right (by omega), l1, Nat.sub_self, hk]
    rfl
   ·rw [List.getElem?_append_right (by omega), l2, List.getElem?_drop]
    congr 1
    omega
 have hE : EntOK W0 g' w id (σ' id) := hS.ents id
 rw [hσ'] at hE
 obtain ⟨e1, e2, e3, b1, v1, e4, e5, e6, e7⟩ := hE
 have hb1 : b1 = b0 := by
  have := hle.loc id b0 hb0
  rw [e4] at this; injection this
 subst hb1
 refine ⟨?_, h.size, fun t => (h.slots t).mono hle⟩
 have hlt : id < n' := by
  rcases Nat.lt_or_ge id n with h' | h'
  ·omega
  ·have := h.sim.bound id h'; simp only at this; rw [hσ] at this; cases this
 exact hS.change hlt g'.le_refl hS.below hS.imm (fun _ _ => ⟨rfl, rfl, rfl, rfl⟩) (fun i hi b' hb' => ⟨⟨rfl, fun _ => rfl⟩, fun e => hi (hS.sep i id b' hb' e)⟩) ⟨e1, e2, e3, b1, v', e4, hv', by rw [hcells]; exact hheap, e7⟩ (fun b' hb' => hS.fresh id b' hb') (Nat.le_refl _)
theorem go_freezeIn {P : Program} {N : Nat} {b : Code} {Q : AExit → Cfg → Prop} {s : Slots} {σ : Nat → Ent} {n : Nat} (id : Nat) (path : List Nat) {r ver size : Nat} {e bt : TypeId} {c : AV} {xs : List AV} {k : Nat} (hσ : σ id = .box bt c) (hr : σ r = .mrow ver e size xs) (hc : c.get path = some (.ms r ver size 0 k)) (hk : k = xs.length)
  (h : aw P N b Q ⟨s, upd (upd σ r (.row e size xs.length)) id (.box bt (c.put path (.slice none xs))), n⟩) : aw P N b Q ⟨s, σ, n⟩ := by
 refine go_ghost (fun W0 g a w hS => ?_) h
 subst hk
 have hne : id ≠ r := by rintro rfl; rw [hσ] at hr; cases hr
 obtain ⟨g2, hle2, hS2, u2, vs, k1, k2, k3, k4, k5, k6, k7, k8⟩ := hS.sim.freezeM hr
 exact ⟨g2, hle2, hS.turnIn hle2 hS2 (Nat.le_refl _) hσ (by rw [upd_ne _ _ _ _ hne]; exact hσ) hc (fun u hu => AV.le_own _ _ _ _ (hu.msFrozen hle2 k1 k3 k2 k4 k5 k6 k8)) rfl rfl⟩
theorem go_lessIn {P : Program} {N : Nat} {b : Code} {Q : AExit → Cfg → Prop} {s : Slots} {σ : Nat → Ent} {n : Nat} (id : Nat) (path : List Nat) (z : AV) {bt : TypeId} {c y : AV} (hσ : σ id = .box bt c) (hc : c.get path = some y) (hyz : AV.le y z) (hy1 : y.sz = 1) (hz1 : z.sz = 1)
  (h : aw P N b Q ⟨s, upd σ id (.box bt (c.put path z)), n⟩) : aw P N b Q ⟨s, σ, n⟩ :=
 go_ghost (fun _W0 g _a _w hS => ⟨g, g.le_refl, hS.turnIn g.le_refl hS.sim (Nat.le_refl _) hσ hσ hc (fun u hu => hyz g u hu) hy1 hz1⟩) h
theorem upd_twice {α : Type} (s : Nat → α) (k : Nat) (a b : α) : upd (upd s k a) k b = upd s k b := by
 funext i
 by_cases h : i = k
 ·subst h; simp only [upd_same]
 ·simp only [upd_ne _ _ _ _ h]
theorem ACall.nilM {P : Program} {f : FuncId} {args : List AV} {k : Nat} {e : TypeId} {size v2 : Nat} (hv : 0 < v2) (h : ACall P f args k [] .nils []) : ACall P f args k [] (.ms k v2 size 0 0) [(k, .mrow v2 e size [])] := by
 obtain ⟨h1, h2, h3, h4⟩ := h
 refine ⟨h1, h2, fun q hq => by simp at hq; subst hq; exact .inl rfl, fun W0 g σ n w vals hS hvv hr hf hn hpre => (h4 W0 g σ n w vals hS hvv hr hf hn hpre).mono ?_⟩
 rintro e' w' ⟨u, rfl, g', hg, hS', hu⟩
 cases hu
 obtain ⟨hle1, hS1⟩ := hS'.addM (k := k) (e := e) (size := size) (u := .slice none 0 0) (xs := []) (vs := []) hf hn (ownsR_nil w' _ e size) rfl rfl (fun i x v h _ => by simp at h) (fun v hv => by simp at hv) (fun b hb => by simp [Value.ownBlock] at hb) (fun b hb => by simp [Value.ownBlock] at hb)
 obtain ⟨g2, hle2, hS2, hm2, _⟩ := hS1.turnM (id := k) (ver := 0) (ver' := v2) (e := e) (size := size) (xs := []) (u := .slice none 0 0) (u' := .slice none 0 0) (xs' := []) (vs' := []) (w' := w') (by simp only [wr_nil, upd_same]) (by simp only [upd_same]) (.inr hv) (ownsR_nil w' _ e size) rfl rfl (fun i x v h _ => by simp at h) (fun v hv => by simp at hv) rfl rfl rfl (Nat.le_refl _) (.inl rfl) (fun _ _ _ => rfl)
 rw [upd_twice] at hS2
 refine ⟨.slice none 0 0, rfl, g2, (hg.trans hle1).trans hle2, hS2, ?_⟩
 exact .ms k v2 size 0 0 v2 _ none 0 hm2 (Nat.le_refl _) (Nat.le_refl _) (by unfold maxLen; omega) fun _ => ⟨_, _, _, rfl, by omega, fun _ => ⟨rfl, rfl⟩, fun h => absurd h (by omega)⟩

def SKeep (L : List Nat) (s s' : Slots) : Prop := ∀ t, t ∉ L → s' t = s t
def EKeep (n : Nat) (L : List Nat) (σ σ' : Nat → Ent) : Prop := ∀ id, id < n → id ∉ L → σ' id = σ id
theorem SKeep.refl (L : List Nat) (s : Slots) : SKeep L s s := fun _ _ => rfl
theorem EKeep.refl (n : Nat) (L : List Nat) (σ : Nat → Ent) : EKeep n L σ σ := fun _ _ _ => rfl
theorem SKeep.at {L : List Nat} {s s' : Slots} (h : SKeep L s s') (t : Nat) (ht : L.contains t = false) : s' t = s t := h t (by simpa using ht)
theorem EKeep.at {n : Nat} {L : List Nat} {σ σ' : Nat → Ent} (h : EKeep n L σ σ') (id : Nat) (hid : id < n) (ht : id ∉ L) : σ' id = σ id := h id hid ht
theorem SKeep.upd {L : List Nat} {s s' : Slots} {k : Nat} {v : AV} (hk : L.contains k = true) (h : SKeep L s s') : SKeep L s (upd s' k v) := fun t ht => by
 have hne : t ≠ k := fun e => ht (by subst e; simpa using hk)
 rw [upd_ne _ _ _ _ hne]; exact h t ht
theorem EKeep.updN {n : Nat} {L : List Nat} {σ σ' : Nat → Ent} {k : Nat} {E : Ent} (hk : n ≤ k) (h : EKeep n L σ σ') : EKeep n L σ (upd σ' k E) := fun id hid ht => by
 rw [upd_ne _ _ _ _ (show id ≠ k by omega)]; exact h id hid ht
theorem EKeep.updL {n : Nat} {L : List Nat} {σ σ' : Nat → Ent} {k : Nat} {E : Ent} (hk : k ∈ L) (h : EKeep n L σ σ') : EKeep n L σ (upd σ' k E) := fun id hid ht => by
 have hne : id ≠ k := fun e => ht (by rw [e]; exact hk)
 rw [upd_ne _ _ _ _ hne]; exact h id hid ht
theorem SKeep.step {L L' : List Nat} {s s' s'' : Slots} (h : SKeep L' s' s'') (hsub : L'.all (fun x => L.contains x) = true) (h0 : SKeep L s s') : SKeep L s s'' := fun t ht => by
 rw [h t (fun hm => ht (by have := List.all_eq_true.1 hsub t hm; simpa using this))]; exact h0 t ht
theorem EKeep.step {n n' : Nat} {L L' : List Nat} {σ σ' σ'' : Nat → Ent} (h : EKeep n' L' σ' σ'') (hn : n ≤ n') (hsub : ∀ x ∈ L', n ≤ x ∨ x ∈ L) (h0 : EKeep n L σ σ') : EKeep n L σ σ'' := fun id hid ht => by
 rw [h id (by omega) (fun hm => by rcases hsub id hm with h1 | h1; · omega
                                   ·exact ht h1)]; exact h0 id hid ht
theorem go_loopB {P : Program} {N : Nat} {b : Code} {Q : AExit → Cfg → Prop} {s : Slots} {σ : Nat → Ent} {n : Nat} (bnd : Nat) (hmix : P.follows .mixedOrders = true) (hok : codeOK N b = true) (mods ents : List Nat) (I : Nat → Slots → (Nat → Ent) → Nat → Prop)
  (h0 : ∃ m, I m s σ n)
  (round : ∀ m s' σ' n', SKeep mods s s' → EKeep bnd ents σ σ' → n ≤ n' → I m s' σ' n' → aw P N b (aThen (fun c' => SKeep mods s c'.s ∧ EKeep bnd ents σ c'.σ ∧ n ≤ c'.n ∧ ∃ m', m' < m ∧ I m' c'.s c'.σ c'.n) Q) ⟨s', σ', n'⟩) : aw P N (.loop b) Q ⟨s, σ, n⟩ := by
 obtain ⟨m0, h0⟩ := h0
 intro hok' hmix' ro hro W0 g a w hS
 refine wp_loop_ghost (X := Cfg × Nat) (fun x a' w => ∃ g', g.le g' ∧ SimA W0 g' N x.1 a' w ∧ Marks g g' a.defers a'.defers ∧ SKeep mods s x.1.s ∧ EKeep bnd ents σ x.1.σ ∧ n ≤ x.1.n ∧ I x.2 x.1.s x.1.σ x.1.n) (fun x => x.2) (⟨s, σ, n⟩, m0) ⟨g, g.le_refl, hS, .refl _ _ _, SKeep.refl _ _, EKeep.refl _ _ _, Nat.le_refl _, h0⟩ fun x a w ⟨g', hle, hS', hM, k1, k2, k3, hI⟩ => ?_
 obtain ⟨⟨s', σ', n'⟩, m⟩ := x
 refine wpIn_mono (round m s' σ' n' k1 k2 k3 hI hok hmix ro hro.loop W0 g' a w hS') fun e a' w' ⟨c', g'', hle', hS'', hM', hq⟩ => ?_
 cases e with
 | normal =>
  obtain ⟨q1, q2, q3, m', q4, q5⟩ := hq
  exact ⟨(c', m'), ⟨g'', hle.trans hle', hS'', hM.trans hle hle' hM', q1, q2, q3, q5⟩, q4⟩
 | exit id => exact ⟨c', g'', hle.trans hle', hS'', hM.trans hle hle' hM', hq⟩
 | ret => exact ⟨c', g'', hle.trans hle', hS'', hM.trans hle hle' hM', hq⟩
 | goto => exact hq.elim
 | panic => exact hq.elim
 | outgrown => exact hq.elim
theorem go_loopF {P : Program} {N : Nat} {b : Code} {Q : AExit → Cfg → Prop} {s : Slots} {σ : Nat → Ent} {n : Nat} (hmix : P.follows .mixedOrders = true) (hok : codeOK N b = true) (mods ents : List Nat) (I : Nat → Slots → (Nat → Ent) → Nat → Prop)
  (h0 : ∃ m, I m s σ n)
  (round : ∀ m s' σ' n', SKeep mods s s' → EKeep n ents σ σ' → n ≤ n' → I m s' σ' n' → aw P N b (aThen (fun c' => SKeep mods s c'.s ∧ EKeep n ents σ c'.σ ∧ n ≤ c'.n ∧ ∃ m', m' < m ∧ I m' c'.s c'.σ c'.n) Q) ⟨s', σ', n'⟩) : aw P N (.loop b) Q ⟨s, σ, n⟩ :=
 go_loopB n hmix hok mods ents I h0 round
theorem freeze_heap {w : World} {b : Nat} {cur : Array Value} {e : TypeId} {fz : Nat × Nat} (hb : w.heap[b]? = some (.cells cur e fz)) (hz : noFz fz cur.size) :
  ∃ fz', (w.freeze ⟨b, cur.size, none⟩ 1).heap[b]? = some (.cells cur e fz') ∧ noFz fz' cur.size ∧ (∀ j, j ≠ b → (w.freeze ⟨b, cur.size, none⟩ 1).heap[j]? = w.heap[j]?) ∧ (w.freeze ⟨b, cur.size, none⟩ 1).heap.size = w.heap.size := by
 obtain ⟨lo, hi⟩ := fz
 refine ⟨if lo == hi then (cur.size, cur.size + 1) else (min lo cur.size, max hi (cur.size + 1)), ?_, ?_, fun j hj => ?_, ?_⟩
 ·simp only [World.freeze, if_neg (show ¬ (1 = 0) by decide)]
  rw [Array.getElem?_modify, if_pos rfl, hb]
  rfl
 ·split
  ·exact .inr (Nat.le_refl _)
  ·rename_i hne
   rcases hz with h | h
   ·simp only at h; simp [h] at hne
   ·simp only at h; exact .inr (by simp only; omega)
 ·simp only [World.freeze, if_neg (show ¬ (1 = 0) by decide)]
  rw [Array.getElem?_modify, if_neg (Ne.symm hj)]
 ·simp only [World.freeze, if_neg (show ¬ (1 = 0) by decide), Array.size_modify]
theorem holds_convM {P : Program} {o : Oper} {s : Slots} {id : Nat} {t e e' : TypeId} {r ver size : Nat} {x : Operand} {xs : List AV} (ho : o.op = .convert t t x) (ht : sliceTy P t = some e') (he : byteTy P e' = true) (hx : aeval s x = .ms r ver size 0 xs.length) (hpos : 0 < xs.length) :
  OpHolds P o s id [(r, .mrow ver e size xs)] (.slice (some r) xs) [(r, .row e size xs.length)] := by
 refine ⟨fun p hp => by simp at hp; subst hp; simp, fun q hq => .inr ⟨(r, .mrow ver e size xs), by simp, by simp at hq; subst hq; rfl⟩, fun W0 g σ n w a hS hr _ _ hp => ?_⟩
 have h1 := hr x (by simp [ho, Op.operands])
 rw [hx] at h1
 have hp' : σ r = .mrow ver e size xs := hp (r, .mrow ver e size xs) (by simp)
 have heu : P.underlying e' = some (.int .u8) := by
  unfold byteTy at he
  split at he
  ·assumption
  ·cases he
 obtain ⟨u, vs, hmr, hlen, hvl, hvr, hvs, hown⟩ := hS.mrowAt hp'
 generalize hv : a.eval x = v at h1
 have h1' := h1
 cases h1 with
 | ms _ _ _ _ _ ver' u' Ax cx hm' hv' hlx hcx h =>
  rw [hmr] at hm'; cases hm'
  obtain ⟨A0, n0, c0, rfl, j1, j2, j3⟩ := h rfl
  obtain ⟨b, hA0, hAx⟩ := j3 hpos
  obtain ⟨e1, e2⟩ := j2 rfl
  subst e1 e2
  simp only [slen] at hlen
  subst hlen
  subst hA0
  have hown0 := hown
  rcases hown.2 with ⟨h0, h00⟩ | ⟨b', cap, cur, fz, hb1, hb2, hb3, hb4, hb5, hb6, hb7, hb8⟩
  ·simp at h0
  ·simp at hb1
   obtain ⟨rfl, rfl⟩ := hb1
   obtain ⟨fz', f1, f2, f3, f4⟩ := freeze_heap hb3 hb4
   have hown' : ownsR (w.freeze ⟨b, cur.size, none⟩ 1) W0.heap.size e size (.slice (some ⟨b, 0, none⟩) xs.length cx) xs.length (flat vs) := ⟨hown.1, .inr ⟨b, cx, cur, fz', rfl, hb2, f1, f2, hb5, hb6, hb7, hb8⟩⟩
   obtain ⟨g1, k1, k2, k3, k4⟩ := hS.turnM (ver' := ver) (w' := w.freeze ⟨b, cur.size, none⟩ 1) hp' hmr (.inl ⟨rfl, rfl⟩) hown' rfl hvl hvr hvs (by simp [World.freeze]) (by simp [World.freeze]) (by simp [World.freeze]) (by rw [f4]; exact Nat.le_refl _) (.inl rfl)
    (fun j hj _ => f3 j (fun e => hj (by subst e; rfl)))
   obtain ⟨g2, l1, l2, u2, vs2, l3, l4, l5, l6, l7, l8, l9, l10⟩ := k2.freezeM (id := r) (ver := ver) (e := e) (size := size) (xs := xs) (by simp [upd_same])
   have hrep : Rep g2 (.slice (some r) xs) (.slice (some ⟨b, 0, none⟩) xs.length cx) := (h1'.mono k1).msFrozen l1 l3 l5 l4 l6 l7 l8 l10
   have hsh : w.shape? b = some (e, cur.size) := by simp [World.shape?, hb3]
   unfold runsTo
   have hexec : (execOp a.eval o).run P w = .ok (.value (.slice (some ⟨b, 0, none⟩) xs.length cx)) (w.freeze ⟨b, cur.size, none⟩ 1) := by
    simp [execOp, ho, hv, convert, run_underlying (sliceTy_sound ht), run_underlying heu, markStringish, hsh]
   rw [hexec]
   refine ⟨g2, k1.trans l1, ?_, hrep⟩
   have : upd (upd σ r (.mrow ver e size xs)) r (.row e size xs.length) = wr σ [(r, .row e size xs.length)] := by simp [wr, upd_twice]
   rw [← this]; exact l2
def evConvM (P : Program) (σ : Nat → Ent) (src dst : TypeId) (u : AV) : Option Step :=
 match u with
 | .ms r ver size 0 len => match σ r, sliceTy P dst with
  | .mrow ver' e size' xs, some e' => if src = dst ∧ ver' = ver ∧ size' = size ∧ len = xs.length ∧ 0 < len ∧ byteTy P e' = true then some ⟨[(r, .mrow ver e size xs)], .slice (some r) xs, [(r, .row e size xs.length)]⟩ else none
  | _, _ => none
 | _ => none
theorem evConvM_sound {P : Program} {s : Slots} {σ : Nat → Ent} {id : Nat} {o : Oper} {st : Step} {src dst : TypeId} {x : Operand} (ho : o.op = .convert src dst x) (h : evConvM P σ src dst (aeval s x) = some st) : Gives P o s σ id st := by
 unfold evConvM at h
 split at h
 ·rename_i r ver size len hx
  split at h
  ·rename_i ver' e size' xs e' hr hd
   split at h
   ·rename_i hc
    obtain ⟨rfl, rfl, rfl, rfl, h5, h6⟩ := hc
    cases h
    exact ⟨holds_convM ho hd h6 hx h5, fun p hp => by simp at hp; subst hp; exact hr⟩
   ·cases h
  ·cases h
 ·cases h
attribute [go_sem] evConvM
section
variable {P : Program} {ops : Array Oper} {m i n : Nat} {T : Trace} {k : Cfg → Trace → Prop} {op : Op} {ty : TypeId} {pos : String} {after : Array Edge} {r : List Oper} {s : Slots} {σ : Nat → Ent}
theorem go_conv {t : Tmp} {src dst : TypeId} {x : Operand} {v : AV} {p q : Nat × Ent} (he : evConvM P σ src dst (aeval s x) = some ⟨[p], v, [q]⟩) (h : aops P ops m r (i + 1) ((i, [p], [q]) :: T) k ⟨upd s t v, upd σ q.1 q.2, n⟩) : aops P ops m (⟨some t, .convert src dst x, ty, pos, after, none⟩ :: r) i T k ⟨s, σ, n⟩ :=
 go_own (st := ⟨[p], v, [q]⟩) (fun _o ho => evConvM_sound ho he) h
end
theorem run_bounds4 {P : Program} {s : Slots} {a : Act} {g : Ghost} {len cap l h m : Nat} {lo hi mx : Option Operand} (hl : bnd s 0 lo = some l) (hh : bnd s len hi = some h) (hm : bnd s cap mx = some m) (hx : mx.isSome = true) (hy : hi.isSome = true) (hr : ∀ x, lo = some x → Rep g (aeval s x) (a.eval x)) (hr' : ∀ x, hi = some x → Rep g (aeval s x) (a.eval x)) (hr'' : ∀ x, mx = some x → Rep g (aeval s x) (a.eval x))
  (h1 : l ≤ h) (h2 : h ≤ m) (h3 : m ≤ cap) (isSlice : Bool) (w : World) : (Instr.sliceBounds isSlice len cap (lo.map a.eval) (hi.map a.eval) (mx.map a.eval)).run P w = .ok (l, h, m) w := by
 rcases run_bnd hm hr'' with ⟨rfl, rfl⟩ | ⟨x2, k2, n2, rfl, he2, h02, rfl⟩
 ·simp at hx
 ·rcases run_bnd hh hr' with ⟨rfl, rfl⟩ | ⟨x, k, n, rfl, he, h0, hn⟩
  ·simp at hy
  ·rcases run_bnd hl hr with ⟨rfl, rfl⟩ | ⟨x', k', n', rfl, he', h0', rfl⟩
   ·simp [Instr.sliceBounds, he, he2, run_sliceBound w k2 n2 cap _ h02 (by omega), hn, run_sliceBound w k n n2.toNat _ h0 (by omega)]
   ·simp [Instr.sliceBounds, he, he', he2, run_sliceBound w k2 n2 cap _ h02 (by omega), hn, run_sliceBound w k n n2.toNat _ h0 (by omega), run_sliceBound w k' n' h _ h0' (by omega)]
theorem holds_slice3_ms {P : Program} {o : Oper} {s : Slots} {id : Nat} {t e : TypeId} {x mx : Operand} {lo hi : Option Operand} {r ver size size' l0 len l h m : Nat} (ho : o.op = .slice t x lo hi (some mx)) (ht : sliceTy P t = some e) (hs : sizeIs P e size' = true) (hx : aeval s x = .ms r ver size l0 len)
  (hl : bnd s 0 lo = some l) (hh : bnd s 0 hi = some h) (hm : bnd s 0 (some mx) = some m) (hy : hi.isSome = true) (h1 : l ≤ h) (h2 : h ≤ m) (h3 : m ≤ len) : OpHolds P o s id [] .any [] :=
 holds_pure fun g w a hr => by
  have h4 := hr x (by simp [ho, Op.operands])
  rw [hx] at h4
  have hlo : ∀ x, lo = some x → Rep g (aeval s x) (a.eval x) := fun x hx => hr x (by simp [ho, Op.operands, hx])
  have hhi : ∀ x, hi = some x → Rep g (aeval s x) (a.eval x) := fun x hx => hr x (by simp [ho, Op.operands, hx])
  have hmx : ∀ x, some mx = some x → Rep g (aeval s x) (a.eval x) := fun x hx => hr x (by simp [ho, Op.operands]; simp at hx; simp [hx])
  generalize hv : a.eval x = v at h4
  obtain ⟨ie, hie, hsi⟩ := sizeIs_sound hs
  cases h4 with
  | ms _ _ _ _ _ ver' u A c hmr hv' hlx hcx hsub =>
   have hhi' : hi = some (hi.get hy) := by simp
   have e0 : bnd s len hi = some h := by rw [hhi'] at hh ⊢; exact hh
   have e1 : bnd s c (some mx) = some m := hm
   have hb := run_bounds4 (P := P) hl e0 e1 rfl hy hlo hhi hmx h1 h2 (by omega : m ≤ c) true w
   simp only [Option.map_some] at hb
   refine ⟨.slice (if m = l then A else A.map (·.add (l * size'))) (h - l) (m - l), ?_, .any _ rfl⟩
   ·simp only [execOp, ho, Sem.run_bind, Instr.sliceAt, run_underlying (sliceTy_sound ht), Result.andThen_ok, hv, Instr.slice, Option.map_some, hb, sizeOf, typeInfo, run_program, hie, Sem.run_pure, hsi]
def evSlice3 (P : Program) (s : Slots) (t : TypeId) (u : AV) (lo hi : Option Operand) (mx : Operand) : Option Step :=
 match u with
 | .ms _ _ _ _ len => match sliceInfo P t, bnd s 0 lo, bnd s 0 hi, bnd s 0 (some mx) with
  | some _, some l, some h, some m => if hi.isSome = true ∧ l ≤ h ∧ h ≤ m ∧ m ≤ len then some ⟨[], .any, []⟩ else none
  | _, _, _, _ => none
 | _ => none
theorem evSlice3_sound {P : Program} {s : Slots} {σ : Nat → Ent} {id : Nat} {o : Oper} {st : Step} {t : TypeId} {x mx : Operand} {lo hi : Option Operand} (ho : o.op = .slice t x lo hi (some mx)) (h : evSlice3 P s t (aeval s x) lo hi mx = some st) : Gives P o s σ id st := by
 unfold evSlice3 at h
 split at h
 ·rename_i hx
  split at h
  ·rename_i hs hl hh hm
   split at h
   ·rename_i hc
    cases h
    obtain ⟨k1, k2, k3, k4, k5, k6⟩ := sliceInfo_sound hs
    exact .mk0 (holds_slice3_ms ho k1 k2 hx hl hh hm hc.1 hc.2.1 hc.2.2.1 hc.2.2.2)
   ·cases h
  ·cases h
 ·cases h
attribute [go_sem] evSlice3
section
variable {P : Program} {ops : Array Oper} {m i n : Nat} {T : Trace} {k : Cfg → Trace → Prop} {op : Op} {ty : TypeId} {pos : String} {after : Array Edge} {r : List Oper} {s : Slots} {σ : Nat → Ent}
theorem go_slice3 {t : Tmp} {t' : TypeId} {x mx : Operand} {lo hi : Option Operand} {v : AV} (he : evSlice3 P s t' (aeval s x) lo hi mx = some ⟨[], v, []⟩) (h : aops P ops m r (i + 1) T k ⟨upd s t v, σ, n⟩) : aops P ops m (⟨some t, .slice t' x lo hi (some mx), ty, pos, after, none⟩ :: r) i T k ⟨s, σ, n⟩ :=
 go_own (st := ⟨[], v, []⟩) (fun _o ho => evSlice3_sound ho he) h
end
theorem holds_append_self {P : Program} {o : Oper} {s : Slots} {id : Nat} {t e : TypeId} {size r ver k lo m : Nat} {x y : Operand} {xs : List AV} (ho : o.op = .call { callee := .builtin .append, args := #[x, y], argTypes := #[t, t] }) (ht : sliceTy P t = some e) (hs : sizeIs P e size = true)
  (hx : aeval s x = .ms r ver size 0 k) (hy : aeval s y = .ms r ver size lo m) (hlo : lo + m ≤ xs.length) (hkm : k + m ≤ xs.length) (hcell : xs.all (fun x => x.cell) = true) :
  OpHolds P o s id [(r, .mrow ver e size xs)] (.ms r ver size 0 (k + m)) [(r, .mrow ver e size (xs.take k ++ (xs.drop lo).take m ++ xs.drop (k + m)))] := by
 refine ⟨fun p hp => by simp at hp; subst hp; simp, fun q hq => .inr ⟨(r, .mrow ver e size xs), by simp, by simp at hq; subst hq; rfl⟩, fun W0 g σ n w a hS hr _ _ hp => ?_⟩
 have h1 := hr x (by simp [ho, Op.operands, Call.operands])
 have h2 := hr y (by simp [ho, Op.operands, Call.operands])
 rw [hx] at h1
 rw [hy] at h2
 have hp' : σ r = .mrow ver e size xs := hp (r, .mrow ver e size xs) (by simp)
 obtain ⟨cs, he⟩ := execOp_builtin (P := P) (a := a) ho w
 obtain ⟨u, vs, hmr, hsl, hvl, hvr, hvs, hown⟩ := hS.mrowAt hp'
 obtain ⟨ie, hie, hsi⟩ := sizeIs_sound hs
 have hdr : ∀ v ∈ vs.drop lo, v.cells.size = size := fun v hv => hvs v (List.mem_of_mem_drop hv)
 obtain ⟨s1, s2, s3, s4, s5⟩ := spliced (ys := xs.drop lo) (us := vs.drop lo) (lo := k) (m := m) hvl (by simp [hvl]) hvr (fun i x v hx hv => by rw [List.getElem?_drop] at hx hv; exact hvr _ x v hx hv) hvs hdr hkm (by simp; omega)
 generalize hv : a.eval x = v at h1
 generalize hw : a.eval y = yv at h2
 have hnews : flat ((vs.drop lo).take m) = ((flat vs).drop (lo * size)).take (m * size) := by rw [flat_take _ size hdr, flat_drop _ size hvs]
 have hfl : (flat ((vs.drop lo).take m)).length = m * size := by
  rw [flat_length _ size (fun v hv => hdr v (List.mem_of_mem_take hv)), List.length_take, List.length_drop, hvl, Nat.min_eq_left (by omega)]
 have hone : ∀ q ∈ flat ((vs.drop lo).take m), q.oneCell' = true := by
  intro q hq
  obtain ⟨v, hv, hq⟩ := mem_flat.1 hq
  have hvm : v ∈ vs := List.mem_of_mem_drop (List.mem_of_mem_take hv)
  obtain ⟨j, hj⟩ := List.getElem?_of_mem hvm
  have hlt : j < xs.length := by rw [← hvl]; exact (List.getElem?_eq_some_iff.1 hj).1
  have hc := List.all_eq_true.1 hcell xs[j] (List.getElem_mem hlt)
  exact (hvr j _ v (List.getElem?_eq_getElem hlt) hj).cell_ok hc q hq
 cases h1 with
 | ms _ _ _ _ _ ver' u' A c hm' hv' hl hc h =>
  rw [hmr] at hm'; cases hm'
  cases h2 with
  | ms _ _ _ _ _ ver' u' B d hm' hv' hl2 hc2 h2 =>
   rw [hmr] at hm'; cases hm'
   obtain ⟨A0, n0, c0, rfl, j1, j2, j3⟩ := h rfl
   obtain ⟨rfl, rfl⟩ := j2 rfl
   obtain ⟨A1, n1, c1, hu1, j4, j5, j6⟩ := h2 rfl
   simp only [Value.slice.injEq] at hu1
   obtain ⟨rfl, rfl, rfl⟩ := hu1
   simp only [slen] at hsl
   subst hsl
   have hnc : xs.length ≤ c := by
    rcases hown.2 with ⟨h0, h00⟩ | ⟨b', cap, cur, fz, hb1, hb2, hb3, hb4, hb5, hb6, hb7, hb8⟩
    ·omega
    ·simp at hb1; obtain ⟨_, rfl⟩ := hb1; exact hb5
   unfold runsTo
   by_cases hm0 : m = 0
   ·subst hm0
    have hrun := run_append_none' (P := P) (w := w) (t := t) (ty := o.type) (sliceTy_sound ht) hie (B := A) (n := k) (cap := c) hl (A := B) (c := d)
    have hexec : (execOp a.eval o).run P w = .ok (.value (.slice A k c)) w := by
     rw [he]
     simp [builtin, hv, hw, hrun]
    rw [hexec]
    have e1 : xs.take k ++ (xs.drop lo).take 0 ++ xs.drop (k + 0) = xs := by simp
    have e2 : upd σ r (.mrow ver e size xs) = σ := by
     funext i
     by_cases hi : i = r
     ·subst hi; rw [upd_same, hp']
     ·rw [upd_ne _ _ _ _ hi]
    refine ⟨g, g.le_refl, ?_, .ms r ver size 0 k ver _ _ c hmr hv' hl hc fun _ => ⟨_, _, _, rfl, j1, fun _ => ⟨rfl, rfl⟩, j3⟩⟩
    show Sim W0 g (upd σ r _) n w
    rw [e1, e2]; exact hS
   ·obtain ⟨b, rfl, rfl⟩ := j6 (by omega)
    obtain ⟨w', hst, l1, l2, l3, l4, l5, l6⟩ := row_written (P := P) (off := k * size) (news := flat ((vs.drop lo).take m)) hown (by
     rw [hfl, hown.1, ← Nat.add_mul]; exact Nat.mul_le_mul_right _ (by omega)) hone
    rw [← s5] at l1
    obtain ⟨g', hle, hS', hm2, _⟩ := hS.turnM (ver' := ver) (vs' := vs.take k ++ (vs.drop lo).take m ++ vs.drop (k + m)) hp' hmr (.inl ⟨rfl, rfl⟩) (by rw [s2]; exact l1) (by simp only [slen]; rw [s2]) s1 s3 s4 l2 l3 l4 l5 (.inl rfl) (fun j hj _ => l6 j (fun e => hj (by rw [e]; rfl)))
    have hcells : ∀ (j : Nat) (u : Value), (flat ((vs.drop lo).take m))[j]? = some u → w.cell? ((⟨b, lo * size, none⟩ : Addr).add j) = some u := fun j u hu => by
     rw [Addr.add_lit]
     rw [hnews, List.getElem?_take, List.getElem?_drop] at hu
     split at hu
     ·exact hown.cells (g := b) rfl _ u hu
     ·cases hu
    rcases hown.2 with ⟨h0, h00⟩ | ⟨b', cap, cur, fz, hb1, hb2, hb3, hb4, hb5, hb6, hb7, hb8⟩
    ·simp at h0
    ·simp at hb1
     obtain ⟨rfl, rfl⟩ := hb1
     have hrow := run_append_roomF (P := P) w t o.type e ie (sliceTy_sound ht) hie b k c cur fz hb3 hb4 ⟨b, lo * size, none⟩ m d (flat ((vs.drop lo).take m)) (by rw [hfl, hsi]) hcells hone (by omega) (by rw [hsi, hfl, hb7, ← Nat.add_mul]; exact Nat.mul_le_mul_right _ (by omega))
     have hst2 := run_storeCells_fz (P := P) b (k * size) e fz (flat ((vs.drop lo).take m)) 0 cur w hb3 hb4 (by rw [hfl, hb7, Nat.add_zero, ← Nat.add_mul]; exact Nat.mul_le_mul_right _ (by omega)) hone
     rw [hst2] at hst
     simp only [Nat.add_zero, Result.ok.injEq, true_and] at hst
     rw [hsi, hst] at hrow
     have hexec : (execOp a.eval o).run P w = .ok (.value (.slice (some ⟨b, 0, none⟩) (k + m) c)) w' := by
      rw [he]
      simp [builtin, hv, hw, hrow]
     rw [hexec]
     exact ⟨g', hle, hS', .ms r ver size 0 (k + m) ver _ _ c hm2 (Nat.le_refl _) (by omega) hc fun _ => ⟨_, _, _, rfl, by omega, fun _ => ⟨rfl, rfl⟩, fun _ => ⟨b, rfl, by simp⟩⟩⟩
theorem holds_slice_beyond {P : Program} {o : Oper} {s : Slots} {id : Nat} {t e : TypeId} {x y : Operand} {lo : Option Operand} {r ver size len l h : Nat} {xs : List AV} (ho : o.op = .slice t x lo (some y) none) (ht : sliceTy P t = some e) (hs : sizeIs P e size = true) (hx : aeval s x = .ms r ver size 0 len)
  (hl : bnd s 0 lo = some l) (hh : bnd s 0 (some y) = some h) (h1 : l ≤ h) (h2 : h ≤ xs.length) : OpHolds P o s id [(r, .mrow ver e size xs)] (.ms r ver size l (h - l)) [] := by
 refine holds_read (fun p hp => by simp at hp; subst hp; simp) fun W0 g σ N w a hS hr hp => ?_
 have h3 := hr x (by simp [ho, Op.operands])
 have hlo : ∀ x, lo = some x → Rep g (aeval s x) (a.eval x) := fun x hx => hr x (by simp [ho, Op.operands, hx])
 have hhi : ∀ x, some y = some x → Rep g (aeval s x) (a.eval x) := fun x hx => hr x (by simp [ho, Op.operands]; simp at hx; simp [hx])
 rw [hx] at h3
 have hp' : σ r = .mrow ver e size xs := hp (r, .mrow ver e size xs) (by simp)
 obtain ⟨u, vs, hmr, hlen, hvl, hvr, hvs, hown⟩ := hS.mrowAt hp'
 obtain ⟨ie, hie, hsi⟩ := sizeIs_sound hs
 generalize hv : a.eval x = v at h3
 cases h3 with
 | ms _ _ _ _ _ ver' u' A c hm' hv' hlc hc hM =>
  rw [hmr] at hm'; cases hm'
  obtain ⟨A0, n0, c0, rfl, j1, j2, j3⟩ := hM rfl
  obtain ⟨rfl, rfl⟩ := j2 rfl
  simp only [slen] at hlen
  subst hlen
  have hnc : xs.length ≤ c := by
   rcases hown.2 with ⟨h0, h00⟩ | ⟨b', cap, cur, fz, hb1, hb2, hb3, hb4, hb5, hb6, hb7, hb8⟩
   ·omega
   ·simp at hb1; obtain ⟨_, rfl⟩ := hb1; exact hb5
  have hh' : bnd s len (some y) = some h := hh
  have hb := run_bounds (P := P) hl hh' hlo hhi h1 (by omega : h ≤ c) true w
  simp only [Option.map_some] at hb
  refine ⟨.slice (if c = l then A else A.map (·.add (l * size))) (h - l) (c - l), ?_, .ms r ver size l (h - l) ver _ _ (c - l) hmr (Nat.le_refl _) (by omega) (by omega) fun _ => ⟨A, _, c, rfl, by omega, fun hz => ?_, fun hz => ?_⟩⟩
  ·simp only [execOp, ho, Sem.run_bind, Instr.sliceAt, run_underlying (sliceTy_sound ht), Result.andThen_ok, hv, Instr.slice, Option.map_none, Option.map_some, hb, sizeOf, typeInfo, run_program, hie, Sem.run_pure, hsi]
  ·subst hz
   refine ⟨?_, by omega⟩
   split
   ·rfl
   ·cases A <;> simp [Addr.add]
  ·have hA : ∃ b, A = some ⟨b, 0, none⟩ := by
    rcases hown.2 with ⟨h0, h00⟩ | ⟨b', cap, cur, fz, hb1, hb2, hb3, hb4, hb5, hb6, hb7, hb8⟩
    ·omega
    ·simp at hb1; obtain ⟨rfl, _⟩ := hb1; exact ⟨_, rfl⟩
   obtain ⟨b, rfl⟩ := hA
   refine ⟨b, rfl, ?_⟩
   rw [if_neg (by omega)]
   simp [Addr.add_lit]
def evAppendSelf (P : Program) (σ : Nat → Ent) (t : TypeId) (u v : AV) : Option Step :=
 match u, v with
 | .ms r ver size 0 k, .ms r' ver' size' lo m => match σ r, sliceInfo P t with
  | .mrow v2 e size2 xs, some (e', size3, _, _) => if r' = r ∧ ver' = ver ∧ size' = size ∧ v2 = ver ∧ size2 = size ∧ e' = e ∧ size3 = size ∧ lo + m ≤ xs.length ∧ k + m ≤ xs.length ∧ xs.all (fun x => x.cell) = true then some ⟨[(r, .mrow ver e size xs)], .ms r ver size 0 (k + m), [(r, .mrow ver e size (xs.take k ++ (xs.drop lo).take m ++ xs.drop (k + m)))]⟩ else none
  | _, _ => none
 | _, _ => none
def evBeyond (P : Program) (s : Slots) (σ : Nat → Ent) (t : TypeId) (u : AV) (lo : Option Operand) (y : Operand) : Option Step :=
 match u with
 | .ms r ver size 0 _ => match σ r, sliceInfo P t, bnd s 0 lo, bnd s 0 (some y) with
  | .mrow v2 e size2 xs, some (e', size3, _, _), some l, some h => if v2 = ver ∧ size2 = size ∧ e' = e ∧ size3 = size ∧ l ≤ h ∧ h ≤ xs.length then some ⟨[(r, .mrow ver e size xs)], .ms r ver size l (h - l), []⟩ else none
  | _, _, _, _ => none
 | _ => none
theorem evAppendSelf_sound {P : Program} {s : Slots} {σ : Nat → Ent} {id : Nat} {o : Oper} {st : Step} {t : TypeId} {x y : Operand} (ho : o.op = .call { callee := .builtin .append, args := #[x, y], argTypes := #[t, t] }) (h : evAppendSelf P σ t (aeval s x) (aeval s y) = some st) : Gives P o s σ id st := by
 unfold evAppendSelf at h
 split at h
 ·rename_i hx hy
  split at h
  ·rename_i hr hs
   split at h
   ·rename_i hc
    obtain ⟨rfl, rfl, rfl, rfl, rfl, rfl, rfl, h8, h9, h10⟩ := hc
    cases h
    obtain ⟨k1, k2, k3, k4, k5, k6⟩ := sliceInfo_sound hs
    exact ⟨holds_append_self ho k1 k2 hx hy h8 h9 h10, fun p hp => by simp at hp; subst hp; exact hr⟩
   ·cases h
  ·cases h
 ·cases h
theorem evBeyond_sound {P : Program} {s : Slots} {σ : Nat → Ent} {id : Nat} {o : Oper} {st : Step} {t : TypeId} {x y : Operand} {lo : Option Operand} (ho : o.op = .slice t x lo (some y) none) (h : evBeyond P s σ t (aeval s x) lo y = some st) : Gives P o s σ id st := by
 unfold evBeyond at h
 split at h
 ·rename_i hx
  split at h
  ·rename_i hr hs hl hh
   split at h
   ·rename_i hc
    obtain ⟨rfl, rfl, rfl, rfl, h5, h6⟩ := hc
    cases h
    obtain ⟨k1, k2, k3, k4, k5, k6⟩ := sliceInfo_sound hs
    exact ⟨holds_slice_beyond ho k1 k2 hx hl hh h5 h6, fun p hp => by simp at hp; subst hp; exact hr⟩
   ·cases h
  ·cases h
 ·cases h
attribute [go_sem] evAppendSelf evBeyond
section
variable {P : Program} {ops : Array Oper} {m i n : Nat} {T : Trace} {k : Cfg → Trace → Prop} {op : Op} {ty : TypeId} {pos : String} {after : Array Edge} {r : List Oper} {s : Slots} {σ : Nat → Ent}
theorem go_appself {t : Tmp} {x y : Operand} {t' : TypeId} {v : AV} {p q : Nat × Ent} (he : evAppendSelf P σ t' (aeval s x) (aeval s y) = some ⟨[p], v, [q]⟩) (h : aops P ops m r (i + 1) ((i, [p], [q]) :: T) k ⟨upd s t v, upd σ q.1 q.2, n⟩) :
  aops P ops m (⟨some t, .call { callee := .builtin .append, args := #[x, y], argTypes := #[t', t'] }, ty, pos, after, none⟩ :: r) i T k ⟨s, σ, n⟩ :=
 go_own (st := ⟨[p], v, [q]⟩) (fun _o ho => evAppendSelf_sound ho he) h
theorem go_beyond {t : Tmp} {x y : Operand} {lo : Option Operand} {t' : TypeId} {v : AV} {p : Nat × Ent} (he : evBeyond P s σ t' (aeval s x) lo y = some ⟨[p], v, []⟩) (h : aops P ops m r (i + 1) ((i, [p], []) :: T) k ⟨upd s t v, σ, n⟩) :
  aops P ops m (⟨some t, .slice t' x lo (some y) none, ty, pos, after, none⟩ :: r) i T k ⟨s, σ, n⟩ :=
 go_own (st := ⟨[p], v, []⟩) (fun _o ho => evBeyond_sound ho he) h
end
inductive GlobAt (d h : Nat) : Prop where
 | mk
theorem holds_indexAddr_glob {P : Program} {o : Oper} {s : Slots} {id : Nat} {t e : TypeId} {x i : Operand} {len size d h : Nat} {xs : List AV} {y : AV} {k : IntKind} {n : Int} (ho : o.op = .indexAddr t x i) (ht : arrTy P t = some (len, e)) (hs : sizeIs P e size = true) (hx : aeval s x = .lit (.pointer (some ⟨h, 0, none⟩)))
  (hi : aeval s i = .lit (.int k n)) (hn : 0 ≤ n) (hlt : n.toNat < len) (hy : xs[n.toNat]? = some y) (hk : AV.szl (xs.take n.toNat) = n.toNat * size) : OpHolds P o s id [(d, .glob h (.agg xs))] (.view y) [] := by
 refine holds_read (fun p hp => by simp at hp; subst hp; simp) fun W0 g σ N w a hS hr hp => ?_
 have h1 := hr x (by simp [ho, Op.operands])
 have h2 := hr i (by simp [ho, Op.operands])
 rw [hx] at h1
 rw [hi] at h2
 have e1 := rep_lit_inv h1
 have e2 := rep_lit_inv h2
 have hE := hS.ents d
 have hp' : σ d = .glob h (.agg xs) := hp (d, .glob h (.agg xs)) (by simp)
 rw [hp'] at hE
 obtain ⟨_, _, _, _, hv⟩ := hE
 obtain ⟨ie, hie, hsz⟩ := sizeIs_sound hs
 generalize hpv : (Value.pointer (some ⟨h, 0, none⟩)) = pv at hv
 cases hv with
 | view _ v b off hvr hc =>
  simp only [Value.pointer.injEq, Option.some.injEq, Addr.mk.injEq, and_true] at hpv
  obtain ⟨rfl, rfl⟩ := hpv
  obtain ⟨u, hu, _, hcu⟩ := hvr.get (path := [n.toNat]) (y := y) (by simp [AV.get, hy])
  have : n < (len : Int) := by omega
  refine ⟨.pointer (some ⟨h, 0 + n.toNat * size, none⟩), ?_, .view y u h _ hu fun j x hx => ?_⟩
  ·simp [execOp, ho, e1, e2, Instr.indexAt, asIntOf, run_underlying (arrTy_sound ht), Instr.sureAddr, sizeOf, typeInfo, hie, hsz, Addr.add_lit, hn, this]
  ·have := hc _ _ (hcu j x hx)
   simp only [AV.offs, hy, Nat.add_zero, hk] at this
   rw [← this]; congr 1; omega
def evGlobIdx (P : Program) (σ : Nat → Ent) (d h : Nat) (t : TypeId) (u v : AV) : Option Step :=
 match u, v, σ d with
 | .lit (.pointer (some ⟨h1, 0, none⟩)), .lit (.int _ n), .glob h2 (.agg xs) => match arrInfo P t, xs[n.toNat]? with
  | some (len, _, size), some y => if h1 = h ∧ h2 = h ∧ 0 ≤ n ∧ n.toNat < len ∧ AV.szl (xs.take n.toNat) = n.toNat * size then some ⟨[(d, .glob h (.agg xs))], .view y, []⟩ else none
  | _, _ => none
 | _, _, _ => none
theorem evGlobIdx_sound {P : Program} {s : Slots} {σ : Nat → Ent} {id : Nat} {o : Oper} {st : Step} {t : TypeId} {x i : Operand} {d h : Nat} (ho : o.op = .indexAddr t x i) (he : evGlobIdx P σ d h t (aeval s x) (aeval s i) = some st) : Gives P o s σ id st := by
 unfold evGlobIdx at he
 split at he
 ·rename_i hx hi hd
  split at he
  ·rename_i ha hy
   split at he
   ·rename_i hc
    obtain ⟨rfl, rfl, h3, h4, h5⟩ := hc
    cases he
    obtain ⟨k1, k2⟩ := arrInfo_sound ha
    exact ⟨holds_indexAddr_glob ho k1 k2 hx hi h3 h4 hy h5, fun p hp => by simp at hp; subst hp; exact hd⟩
   ·cases he
  ·cases he
 ·cases he
attribute [go_sem] evGlobIdx
section
variable {P : Program} {ops : Array Oper} {m i n : Nat} {T : Trace} {k : Cfg → Trace → Prop} {op : Op} {ty : TypeId} {pos : String} {after : Array Edge} {r : List Oper} {s : Slots} {σ : Nat → Ent}
theorem go_glob {t : Tmp} {x y : Operand} {t' : TypeId} {v : AV} {p : Nat × Ent} {d h : Nat} (_hG : GlobAt d h) (he : evGlobIdx P σ d h t' (aeval s x) (aeval s y) = some ⟨[p], v, []⟩) (h : aops P ops m r (i + 1) ((i, [p], []) :: T) k ⟨upd s t v, σ, n⟩) :
  aops P ops m (⟨some t, .indexAddr t' x y, ty, pos, after, none⟩ :: r) i T k ⟨s, σ, n⟩ :=
 go_own (st := ⟨[p], v, []⟩) (fun _o ho => evGlobIdx_sound ho he) h
end

section
variable {W0 : World} {g : Ghost} {σ : Nat → Ent} {n : Nat} {w : World}
theorem Sim.newMark (h : Sim W0 g σ n w) {k : Nat} (hk : σ k = .none) (hn : k < n) :
  ∃ g', g.le g' ∧ Sim W0 g' (upd σ k .mark) n (w.alloc (.deferred (some []))) ∧ g'.loc k = some w.heap.size ∧ g'.row k ≠ none := by
 have h0 := h.alloc (.deferred (some []))
 obtain ⟨hl, hrw, ho, hm⟩ := h.free k hk
 let g' : Ghost := { g with loc := upd g.loc k (some w.heap.size), row := upd g.row k (some (.bool true)) }
 have hle : g.le g' := ⟨fun _ _ _ h => h, (Ghost.le_loc hl w.heap.size).loc, fun id u' hu' => by
  have hne : id ≠ k := by rintro rfl; rw [hrw] at hu'; cases hu'
  exact ⟨u', by show upd g.row k _ id = some u'; rw [upd_ne _ _ _ _ hne]; exact hu', .inl rfl⟩, fun _ u h => ⟨u, h, .inl rfl⟩⟩
 have hlk : g'.loc k = some w.heap.size := upd_same _ _ _
 have hrk : g'.row k = some (.bool true) := upd_same _ _ _
 have hbk : g'.blk k = some w.heap.size := Ghost.blk_loc hlk
 refine ⟨g', hle, h0.change hn hle h0.below h0.imm (fun id hid => ⟨upd_ne _ _ _ _ hid, upd_ne _ _ _ _ hid, rfl, rfl⟩) (fun id hid b hb => ⟨⟨rfl, fun _ => rfl⟩, ?_⟩)
  ⟨ho, hm, w.heap.size, .bool true, hlk, hrk, heap_alloc_new w _, h.G_new⟩ (fun b hb => ?_) (Nat.le_refl _), hlk, by rw [hrk]; simp⟩
 ·rw [hbk]; intro e; injection e with e; exact h.blk_new id (e ▸ hb)
 ·rw [hbk] at hb; injection hb with hb; subst hb; exact ⟨h.below.size, by simp⟩
theorem Sim.newLoop (h : Sim W0 g σ n w) {k N : Nat} {r : Loop} {s : Slots} {T : Array Value} (hk : σ k = .none) (hn : k < n) (hT : T.size = N) (hs : ∀ t, Rep g (s t) (T.getD t undef)) :
  ∃ g', g.le g' ∧ Sim W0 g' (upd σ k (.loop w.heap.size N r s)) n (w.alloc (.loop { r with tmps := T })) := by
 have h0 := h.alloc (.loop { r with tmps := T })
 obtain ⟨hl, hrw, ho, hm⟩ := h.free k hk
 let g' : Ghost := { g with loc := upd g.loc k (some w.heap.size), mr := upd g.mr k (some (0, .bool true)) }
 have hle : g.le g' := ⟨fun _ _ _ h => h, (Ghost.le_loc hl w.heap.size).loc, fun _ u h => ⟨u, h, .inl rfl⟩, fun id u' hu' => by
  have hne : id ≠ k := by rintro rfl; rw [hm] at hu'; cases hu'
  exact ⟨u', by show upd g.mr k _ id = some u'; rw [upd_ne _ _ _ _ hne]; exact hu', .inl rfl⟩⟩
 have hlk : g'.loc k = some w.heap.size := upd_same _ _ _
 have hmk : g'.mr k = some (0, .bool true) := upd_same _ _ _
 have hbk : g'.blk k = some w.heap.size := Ghost.blk_loc hlk
 refine ⟨g', hle, h0.change hn hle h0.below h0.imm (fun id hid => ⟨upd_ne _ _ _ _ hid, rfl, rfl, upd_ne _ _ _ _ hid⟩) (fun id hid b hb => ⟨⟨rfl, fun _ => rfl⟩, ?_⟩)
  ⟨ho, hrw, ⟨_, hmk⟩, hlk, ⟨T, hT, fun t => (hs t).mono hle, heap_alloc_new w _⟩, h.G_new⟩ (fun b hb => ?_) (Nat.le_refl _)⟩
 ·rw [hbk]; intro e; injection e with e; exact h.blk_new id (e ▸ hb)
 ·rw [hbk] at hb; injection hb with hb; subst hb; exact ⟨h.below.size, by simp⟩
theorem Sim.setLoop (h : Sim W0 g σ n w) {j l N : Nat} {r : Loop} {s : Slots} (hj : σ j = .loop l N r s) :
  ∃ T : Array Value, T.size = N ∧ (∀ t, Rep g (s t) (T.getD t undef)) ∧ w.heap[l]? = some (.loop { r with tmps := T }) ∧
   ∀ r' : Loop, Sim W0 g (upd σ j (.loop l N r' s)) n (w.putObj l (.loop { r' with tmps := T })) := by
 have he := h.ents j
 rw [hj] at he
 obtain ⟨k1, k2, k3, k4, ⟨T, k5, k6, k7⟩, k8⟩ := he
 have hl := h.lt (Ghost.blk_loc k4)
 refine ⟨T, k5, k6, k7, fun r' => ?_⟩
 have hjn : j < n := by
  rcases Nat.lt_or_ge j n with h' | h'
  ·exact h'
  ·rw [h.bound j h'] at hj; cases hj
 refine h.change hjn g.le_refl ⟨h.below.os, h.below.tape, h.below.output, by simpa using h.below.size, fun b hb => ?_⟩ (fun b o v hv => ?_) (fun _ _ => ⟨rfl, rfl, rfl, rfl⟩) (fun id hid b hb => ⟨⟨World.putObj_heap_other ?_, fun _ => rfl⟩, ?_⟩)
  ⟨k1, k2, k3, k4, ⟨T, k5, k6, World.putObj_heap_same hl⟩, k8⟩ (fun b hb => ?_) (by simp)
 ·have := (h.fresh j l (Ghost.blk_loc k4)).1
  rw [World.putObj_heap_other (by omega)]; exact h.below.block b hb
 ·have hb : b ≠ l := fun e => by rw [e, k8] at hv; cases hv
  have := h.imm b o v hv
  unfold World.cell? at this ⊢
  simp only [World.putObj_heap_other hb]
  exact this
 ·rintro rfl; exact hid (h.sep id j b hb (Ghost.blk_loc k4))
 ·intro e; exact hid (h.sep id j b hb e)
 ·simpa using h.fresh j b hb
end
def sputs (s : Slots) : List Tmp → List AV → Slots
 | t :: ps, v :: vs => sputs (upd s t v) ps vs
 | _, _ => s
theorem sputs_rep {g : Ghost} {N : Nat} : ∀ (ps : List Tmp) (args : List AV) (vals : List Value) (s : Slots) (T : Array Value), args.length = ps.length → vals.length = args.length → (∀ t ∈ ps, t < N) → T.size = N →
  (∀ (i : Nat) (x : AV) (v : Value), args[i]? = some x → vals[i]? = some v → Rep g x v) → (∀ t, Rep g (s t) (T.getD t undef)) →
  ((ps.zip vals).foldl (fun (tmps : Array Value) (p : Tmp × Value) => tmps.setIfInBounds p.1 p.2) T).size = N ∧
  ∀ t, Rep g (sputs s ps args t) (((ps.zip vals).foldl (fun (tmps : Array Value) (p : Tmp × Value) => tmps.setIfInBounds p.1 p.2) T).getD t undef)
 | [], [], vals, s, T, _, hv, _, hT, _, hs => by
  match vals, hv with
  | [], _ => exact ⟨hT, hs⟩
 | t :: ps, a :: args, vals, s, T, h1, hv, hlt, hT, hr, hs => by
  match vals, hv with
  | v :: vals, hv =>
   refine sputs_rep ps args vals (upd s t a) (T.setIfInBounds t v) (by simpa using h1) (by simpa using hv) (fun u hu => hlt u (List.mem_cons_of_mem _ hu)) (by simpa using hT)
    (fun i x u hx hu => hr (i + 1) x u (by simpa using hx) (by simpa using hu)) fun u => ?_
   have ht := hlt t (List.mem_cons_self ..)
   by_cases hut : u = t
   ·subst hut
    have : u < T.size := Nat.lt_of_lt_of_eq ht hT.symm
    simp [upd_same, this]
    exact hr 0 a v rfl rfl
   ·rw [upd_ne _ _ _ _ hut]
    have := hs u
    simpa [Array.getElem?_setIfInBounds_ne (Ne.symm hut)] using this
 | [], _ :: _, _, _, _, h, _, _, _, _, _ => by simp at h
 | _ :: _, [], _, _, _, h, _, _, _, _, _ => by simp at h
def AYield (P : Program) (l : Nat) (args : List AV) (k : Nat) (pre : Foot) (v : AV) (post : Foot) : Prop :=
 (∀ p ∈ pre, p.2 ≠ .none) ∧ (∀ q ∈ post, ∃ p ∈ pre, p.1 = q.1) ∧
 ∀ (W0 : World) (g : Ghost) (σ : Nat → Ent) (n : Nat) (w : World) (vals : List Value), Sim W0 g σ n w → vals.length = args.length → (∀ (i : Nat) (x : AV) (v : Value), args[i]? = some x → vals[i]? = some v → Rep g x v) →
  σ k = .none → k < n → (∀ p ∈ pre, σ p.1 = p.2) →
  ∃ fn tmps assign body, (Instr.yield l vals.toArray).run P w = .ok (.round l fn tmps assign body) w ∧
   RoundIn Fence.wide 0 P l fn tmps assign body w fun e w' => ∃ u, e = .returned u ∧ ∃ g', g.le g' ∧ Sim W0 g' (wr σ post) n w' ∧ Rep g' v u
theorem holds_yield {P : Program} {o : Oper} {s : Slots} {id l : Nat} {x : Operand} {args : Array Operand} {ts : Array TypeId} {pre post : Foot} {v : AV} (ho : o.op = .call { callee := .value x, args := args, argTypes := ts }) (hx : aeval s x = .lit (.func (.yield l) #[] #[]))
  (h : AYield P l (args.toList.map (aeval s)) id pre v post) : OpHolds P o s id pre v post := by
 obtain ⟨hp, hq, hrun⟩ := h
 refine ⟨hp, fun q hq' => .inr (hq q hq'), fun W0 g σ n w a hS hr hf hn hpre => ?_⟩
 have h1 := hr x (by simp [ho, Op.operands, Call.operands])
 have h2 : ∀ y ∈ args, Rep g (aeval s y) (a.eval y) := fun y hy => hr y (by simp [ho, Op.operands, Call.operands, hy])
 rw [hx] at h1
 have hv := rep_lit_inv h1
 obtain ⟨fn, tmps, assign, body, hy, hR⟩ := hrun W0 g σ n w (args.toList.map a.eval) hS (by simp) (fun i y u hy hu => by
  rw [List.getElem?_map] at hy hu
  cases hz : args.toList[i]? with
  | none => rw [hz] at hy; cases hy
  | some z =>
   rw [hz] at hy hu
   cases hy; cases hu
   exact h2 z (by have := List.mem_of_getElem? hz; simpa using this)) hf hn hpre
 have hexec : (execOp a.eval o).run P w = .ok (.round l fn tmps assign body) w := by
  simp only [execOp, ho, resolve, hv, Deferred.ofValue, Sem.run_bind, Sem.run_pure, Result.andThen_ok, invoke]
  rw [← hy]
  congr 2
  simp [← Array.toList_map]
 unfold runsTo
 rw [hexec]
 exact hR
def jumpOf : AExit → Option Code
 | .normal => none
 | .exit id => some (.exit id)
 | .ret => some .ret
def goesOn : AExit → Bool
 | .normal => true
 | _ => false
def endRec (r : Loop) (x : AExit) : Loop := { r with state := if goesOn x then .ready else .done, pending := jumpOf x }
theorem jumpOf_none (x : AExit) : (jumpOf x).isNone = goesOn x := by cases x <;> rfl
theorem AYield.of_body {P : Program} {l N : Nat} {r : Loop} {s : Slots} {j k : Nat} {args : List AV} {pre ws post : Foot} {A B : Code} {ps : List Tmp} (x : AExit) (hmix : P.follows .mixedOrders = true)
  (hst : r.state = .ready) (hps : r.params.toList = ps) (hA : r.assign = A) (hB : r.body = B) (hargs : args.length = ps.length) (hlt : ∀ t ∈ ps, t < N)
  (hokA : codeOK N A = true) (hokB : codeOK N B = true) (hnA : noRange A = true) (hnB : noRange B = true)
  (hpre : ∀ p ∈ pre, p.2 ≠ .none) (hjp : ∀ p ∈ pre, p.1 ≠ j) (hws : ∀ q ∈ ws, ∃ p ∈ pre, p.1 = q.1) (hpost : ∀ q ∈ post, ∃ p ∈ pre, p.1 = q.1)
  (h : ∀ (σ : Nat → Ent) (n : Nat), (∀ p ∈ pre, σ p.1 = p.2) → (∀ p ∈ pre, p.1 < n) → σ j = .loop l N r s → j < n → σ k = .none → k < n → (∀ id, n ≤ id → σ id = .none) →
   renF (rn n k none) ws = post ∧
   aw P N A (fun e c => e = .normal ∧ c.σ j = .loop l N r s ∧
    aw P N B (fun e c' => e = x ∧ ∀ id, id < n → c'.σ id = wr (upd σ j (.loop l N { r with state := .busy } s)) ws id) ⟨c.s, upd c.σ j (.loop l N { r with state := .busy } s), c.n⟩) ⟨sputs s ps args, σ, n⟩) :
  AYield P l args k ((j, .loop l N r s) :: pre) (.lit (.bool (goesOn x))) ((j, .loop l N (endRec r x) s) :: post) := by
 subst hA
 subst hB
 have hpre' : ∀ p ∈ (j, Ent.loop l N r s) :: pre, p.2 ≠ .none := fun p hp => by
  rcases List.mem_cons.1 hp with rfl | hp
  ·simp
  ·exact hpre p hp
 have main : ∀ (W0 : World) (g : Ghost) (σ : Nat → Ent) (n : Nat) (w : World) (vals : List Value), Sim W0 g σ n w → vals.length = args.length → (∀ (i : Nat) (x : AV) (v : Value), args[i]? = some x → vals[i]? = some v → Rep g x v) →
   σ k = .none → k < n → (∀ p ∈ (j, Ent.loop l N r s) :: pre, σ p.1 = p.2) → renF (rn n k none) ws = post ∧
   ∃ fn tmps assign body, (Instr.yield l vals.toArray).run P w = .ok (.round l fn tmps assign body) w ∧
    RoundIn Fence.wide 0 P l fn tmps assign body w fun e w' => ∃ u, e = .returned u ∧ ∃ g', g.le g' ∧ Sim W0 g' (wr σ ((j, .loop l N (endRec r x) s) :: post)) n w' ∧ Rep g' (.lit (.bool (goesOn x))) u := by
  intro W0 g σ n w vals hS hvl hvr hk hkn hp
  have hp2 : ∀ p ∈ pre, σ p.1 = p.2 := fun p hpm => hp p (List.mem_cons_of_mem _ hpm)
  have hj : σ j = .loop l N r s := hp _ (List.mem_cons_self ..)
  have hltn : ∀ i, σ i ≠ .none → i < n := fun i hi => by
   rcases Nat.lt_or_ge i n with h' | h'
   ·exact h'
   ·exact absurd (hS.bound i h') hi
  have hjn : j < n := hltn j (by rw [hj]; simp)
  obtain ⟨hren, haw⟩ := h σ n hp2 (fun p hpm => hltn p.1 (by rw [hp2 p hpm]; exact hpre p hpm)) hj hjn hk hkn hS.bound
  refine ⟨hren, ?_⟩
  obtain ⟨T, hT, hTs, hheap, _⟩ := hS.setLoop hj
  have hsz : vals.toArray.size = r.params.size := by
   have : r.params.size = ps.length := by rw [← hps]; simp
   simp; omega
  have hy := run_yield (P := P) (args := vals.toArray) hheap hsz
  refine ⟨_, _, _, _, hy, roundIn_of_wpIn trivial ?_⟩
  obtain ⟨q1, q2⟩ := sputs_rep ps args vals s T hargs hvl hlt hT hvr hTs
  have hfold : (r.params.zip vals.toArray).foldl (fun tmps (t, a) => tmps.setIfInBounds t a) T = (ps.zip vals).foldl (fun (tmps : Array Value) (p : Tmp × Value) => tmps.setIfInBounds p.1 p.2) T := by
   rw [← Array.foldl_toList, Array.toList_zip, hps]
  have hSA : SimA W0 g N ⟨sputs s ps args, σ, n⟩ { tmps := (r.params.zip vals.toArray).foldl (fun tmps (t, a) => tmps.setIfInBounds t a) T, defers := [] } w := by
   rw [hfold]; exact ⟨hS, q1, q2⟩
  show (r.assign).wpIn (Fence.wide.inRound l) 0 P _ _ w
  refine wpIn_mono (haw hokA hmix (some l) (.inr hnA) W0 g _ w hSA) fun e a1 w1 ⟨c1, g1, hle1, hS1, _, hq⟩ => ?_
  cases e with
  | normal =>
   obtain ⟨_, hj1, haw2⟩ := hq
   obtain ⟨T1, hT1, hTs1, hheap1, hset1⟩ := hS1.sim.setLoop hj1
   have hSb := hset1 { r with state := .busy }
   refine ⟨_, run_beginRound (P := P) hheap1 hst, ?_⟩
   show (r.body).wpIn (Fence.wide.inRound l) 0 P _ _ _
   have hSA2 : SimA W0 g1 N ⟨c1.s, upd c1.σ j (.loop l N { r with state := .busy } s), c1.n⟩ a1 (w1.putObj l (.loop { { r with tmps := T1 } with state := .busy })) := ⟨hSb, hS1.size, hS1.slots⟩
   refine wpIn_mono (haw2 hokB hmix (some l) (.inr hnB) W0 g1 _ _ hSA2) fun e a2 w2 ⟨c2, g2, hle2, hS2, _, hq2⟩ => ?_
   have fin : ∀ x' : AExit, (x' = x ∧ ∀ id, id < n → c2.σ id = wr (upd σ j (.loop l N { r with state := .busy } s)) ws id) →
     ∃ v w', (Instr.endRound l (jumpOf x')).run P w2 = .ok v w' ∧ ∃ u, Ending.returned v = .returned u ∧ ∃ g', g.le g' ∧ Sim W0 g' (wr σ ((j, .loop l N (endRec r x) s) :: post)) n w' ∧ Rep g' (.lit (.bool (goesOn x))) u := by
    rintro x' ⟨rfl, hag⟩
    have hjw : ∀ q ∈ ws, q.1 ≠ j := fun q hq => by obtain ⟨p, hp1, hp2⟩ := hws q hq; rw [← hp2]; exact hjp p hp1
    have hj2 : c2.σ j = .loop l N { r with state := .busy } s := by rw [hag j hjn, wr_other _ _ _ hjw, upd_same]
    obtain ⟨T2, hT2, hTs2, hheap2, hset2⟩ := hS2.sim.setLoop hj2
    have hSe := hset2 (endRec r x')
    have hend := run_endRound (P := P) (jumpOf x') hheap2
    rw [jumpOf_none] at hend
    refine ⟨_, _, hend, _, rfl, ?_⟩
    obtain ⟨g3, hle3, hS3, hrep3, _, _, hid⟩ := hS.leave (σ' := upd c2.σ j (.loop l N (endRec r x') s)) (n' := c2.n) hSe (hle1.trans hle2) hk hkn (ws := (j, .loop l N (endRec r x') s) :: ws) (fresh := none) (post := renF (rn n k none) ((j, .loop l N (endRec r x') s) :: ws))
     (fun id hidn => by
      rw [wr_cons, wr_upd_comm _ _ _ _ hjw]
      by_cases hij : id = j
      ·subst hij; rw [upd_same, upd_same]
      ·rw [upd_ne _ _ _ _ hij, upd_ne _ _ _ _ hij, hag id hidn, wr_upd_comm _ _ _ _ hjw, upd_ne _ _ _ _ hij])
     (fun q hq => by
      rcases List.mem_cons.1 hq with rfl | hq
      ·simp only; rw [hj]; simp
      ·obtain ⟨p, hp1, hp2'⟩ := hws q hq; rw [← hp2', hp2 p hp1]; exact hpre p hp1) rfl
    refine ⟨g3, hle3, ?_, .lit _ rfl⟩
    have hse : (fun t => (s t).ren (rn n k none)) = s := funext fun t => hid _ _ (hTs t)
    have : renF (rn n k none) ((j, .loop l N (endRec r x') s) :: ws) = (j, .loop l N (endRec r x') s) :: post := by
     rw [← hren]
     simp only [renF, List.map_cons, Ent.ren, hse]
    rw [this] at hS3
    exact hS3
   cases e with
   | normal => exact fin .normal hq2
   | ret => exact fin .ret hq2
   | exit id => exact fin (.exit id) hq2
   | goto => exact hq2.elim
   | panic => exact hq2.elim
   | outgrown => exact hq2.elim
  | exit id => exact absurd hq.1 (by simp)
  | ret => exact absurd hq.1 (by simp)
  | goto => exact hq.elim
  | panic => exact hq.elim
  | outgrown => exact hq.elim
 refine ⟨hpre', fun q hq => ?_, fun W0 g σ n w vals h1 h2 h3 h4 h5 h6 => (main W0 g σ n w vals h1 h2 h3 h4 h5 h6).2⟩
 rcases List.mem_cons.1 hq with rfl | hq
 ·exact ⟨_, List.mem_cons_self .., rfl⟩
 ·obtain ⟨p, hp1, hp2⟩ := hpost q hq
  exact ⟨p, List.mem_cons_of_mem _ hp1, hp2⟩
theorem go_rangeFunc {P : Program} {N : Nat} {Q : AExit → Cfg → Prop} {x : Operand} {ps : Array Tmp} {A B : Code} {s : Slots} {σ : Nat → Ent} {n : Nat} {f : FuncId} {caps : List AV} {pre post : Foot} {res : AV} (jump : AExit)
  (hx : aeval s x = .fn f caps) (hp : ∀ p ∈ pre, σ p.1 = p.2) (hpn : ∀ p ∈ pre, p.1 < n) (hpost : ∀ q ∈ post, q.1 < n)
  (hcall : ∀ (l : Nat) (r : Loop), r.state = .ready → r.pending = none → r.params = ps → r.assign = A → r.body = B →
   ∃ st, st ≠ .busy ∧ ACall P f (.lit (.func (.yield l) #[] #[]) :: caps) (n + 2) ((n + 1, .loop l N r s) :: pre) res ((n + 1, .loop l N { r with state := st, pending := jumpOf jump } s) :: post))
  (h : ∀ (l : Nat) (r : Loop), Q jump ⟨s, wr (upd (upd σ n .mark) (n + 1) (.loop l N r s)) post, n + 3⟩) : aw P N (.rangeFunc x ps A B) Q ⟨s, σ, n⟩ := by
 intro hok hmix ro hro W0 g a w hS
 have hro' : ro = none := by
  rcases hro with hro | hro
  ·exact hro
  ·cases hro
 subst hro'
 simp only [codeOK, Bool.and_eq_true] at hok
 refine wpIn_rangeFunc fun fn _ => ?_
 have hsn : σ n = .none := hS.sim.bound n (Nat.le_refl _)
 have hsn1 : σ (n + 1) = .none := hS.sim.bound (n + 1) (Nat.le_succ _)
 have hsn2 : σ (n + 2) = .none := hS.sim.bound (n + 2) (by show n ≤ n + 2; omega)
 obtain ⟨g1, hle1, hS1, hloc1, hrow1⟩ := (hS.sim.more (n' := n + 3) (by show n ≤ n + 3; omega)).newMark hsn (by omega)
 obtain ⟨g2, hle2, hS2⟩ := hS1.newLoop (k := n + 1) (N := N) (r := { state := .ready, pending := none, fn := fn, tmps := a.tmps, params := ps, assign := A, body := B, defers := w.heap.size }) (s := s) (T := a.tmps) (by rw [upd_ne _ _ _ _ (by omega)]; exact hsn1) (by omega) hS.size (fun t => (hS.slots t).mono hle1)
 have hsz : (w.alloc (.deferred (some []))).heap.size = w.heap.size + 1 := by simp
 rw [hsz] at hS2
 generalize hL : ({ state := .ready, pending := none, fn := fn, tmps := a.tmps, params := ps, assign := A, body := B, defers := w.heap.size } : Loop) = r at hS2
 obtain ⟨st, hst, hc, hpre', hpost', hrun⟩ := hcall (w.heap.size + 1) r (by rw [← hL]) (by rw [← hL]) (by rw [← hL]) (by rw [← hL]) (by rw [← hL])
 have henter := run_enterLoop_outer (P := P) (w := w) fn a.tmps ps A B
 rw [hL] at henter
 have hre := hS.eval hok.1.1
 rw [show aeval (Cfg.mk s σ n).s x = .fn f caps from hx] at hre
 generalize hv : a.eval x = v at hre
 cases hre with
 | fn _ _ vs hvl hvr =>
  generalize hw1 : (w.alloc (.deferred (some []))).alloc (.loop r) = w1 at hS2 henter
  have hres : (resolve a.eval (rangeCall x (w.heap.size + 1)) 0).run P w1 = .ok { target := .fn (.func f) vs.toArray, args := #[.func (.yield (w.heap.size + 1)) #[] #[]] } w1 := by
   simp only [resolve, List.map_toArray, List.map_cons, List.map_nil, hv, Deferred.ofValue, Sem.run_pure]
   simp [Act.eval]
  have hinv : (invoke (.fn (.func f) vs.toArray) #[.func (.yield (w.heap.size + 1)) #[] #[]]).run P w1 = .ok (.enter f (.func (.yield (w.heap.size + 1)) #[] #[] :: vs).toArray) w1 := by
   simp only [invoke]
   rw [run_callFunc hc]
   simp
  refine ⟨_, _, _, _, _, f, _, _, henter, hres, fun _ _ => trivial, hinv, fun hd => (by cases hd), ?_⟩
  have hne : ∀ q ∈ post, q.1 ≠ n + 1 := fun q hq => by have := hpost q hq; omega
  have hcalls := hrun W0 g2 _ (n + 3) w1 (.func (.yield (w.heap.size + 1)) #[] #[] :: vs) hS2 (by simp [hvl]) (fun i y u hy hu => by
   cases i with
   | zero => simp at hy hu; subst hy; subst hu; exact .lit _ rfl
   | succ i => exact (hvr i y u (by simpa using hy) (by simpa using hu)).mono (hle1.trans hle2))
   (by rw [upd_ne _ _ _ _ (by omega), upd_ne _ _ _ _ (by omega)]; exact hsn2) (by omega) (fun p hpm => by
    rcases List.mem_cons.1 hpm with rfl | hpm
    ·exact upd_same _ _ _
    ·have := hpn p hpm
     rw [upd_ne _ _ _ _ (by omega), upd_ne _ _ _ _ (by omega)]; exact hp p hpm)
  refine CallsIn.mono ((callsIn_wide (n := 0 - 1)).2 hcalls) fun e w3 hq => ?_
  obtain ⟨u, rfl, g3, hle3, hS3, _⟩ := hq
  have hj3 : wr (upd (upd σ n .mark) (n + 1) (.loop (w.heap.size + 1) N r s)) ((n + 1, .loop (w.heap.size + 1) N { r with state := st, pending := jumpOf jump } s) :: post) (n + 1) = .loop (w.heap.size + 1) N { r with state := st, pending := jumpOf jump } s := by
   rw [wr_cons, wr_other _ _ _ hne, upd_same]
  obtain ⟨T3, hT3, hTs3, hheap3, hset3⟩ := hS3.setLoop hj3
  have hend := run_endLoop (P := P) hheap3 hst
  have hS4 := hset3 { r with state := .exhausted, pending := jumpOf jump }
  have hσ : upd (wr (upd (upd σ n .mark) (n + 1) (.loop (w.heap.size + 1) N r s)) ((n + 1, .loop (w.heap.size + 1) N { r with state := st, pending := jumpOf jump } s) :: post)) (n + 1) (.loop (w.heap.size + 1) N { r with state := .exhausted, pending := jumpOf jump } s) =
    wr (upd (upd σ n .mark) (n + 1) (.loop (w.heap.size + 1) N { r with state := .exhausted, pending := jumpOf jump } s)) post := by
   rw [wr_cons, wr_upd_comm _ _ _ _ hne, wr_upd_comm _ _ _ _ hne, wr_upd_comm _ _ _ _ hne, upd_upd, upd_upd]
  rw [hσ] at hS4
  have hfin : ∀ e : Exit, (match e with
    | .normal => jump = .normal
    | .exit id => jump = .exit id
    | .ret => jump = .ret
    | _ => False) → LQ W0 g N a.defers Q e { a with defers := [({ target := .collected w.heap.size, args := #[] } : Deferred)] ++ a.defers } (w3.putObj (w.heap.size + 1) (.loop { { r with state := .exhausted, pending := jumpOf jump } with tmps := T3 })) := by
   intro e he
   have hQ := h (w.heap.size + 1) { r with state := .exhausted, pending := jumpOf jump }
   have hle := (hle1.trans hle2).trans hle3
   refine ⟨⟨s, _, n + 3⟩, g3, hle, ⟨hS4, hS.size, fun t => (hS.slots t).mono hle⟩, ⟨[(n, w.heap.size)], rfl, by simp, fun p hpm => ?_⟩, ?_⟩
   ·simp at hpm; subst hpm
    obtain ⟨f1, f2, _, f3⟩ := hS.sim.free n hsn
    refine ⟨fun hh => ?_, (hle2.trans hle3).loc _ _ hloc1, (hle2.trans hle3).row_ne hrow1⟩
    rcases hh with hh | hh | hh
    ·exact hh f1
    ·exact hh f2
    ·exact hh f3
   ·cases e with
    | normal => simp only at he; subst he; exact hQ
    | exit id => simp only at he; subst he; exact hQ
    | ret => simp only at he; subst he; exact hQ
    | goto => exact he.elim
    | panic => exact he.elim
    | outgrown => exact he.elim
  refine ⟨_, _, hend, ?_⟩
  cases jump with
  | normal => exact hfin .normal rfl
  | exit id => exact wpIn_exit (hfin (.exit id) rfl)
  | ret => exact wpIn_ret (hfin .ret rfl)
theorem AYield.weaken {P : Program} {l k : Nat} {args args' : List AV} {pre post : Foot} {v : AV} (h : AYield P l args' k pre v post) (hle : ALe args args') : AYield P l args k pre v post := by
 obtain ⟨h1, h2, h3⟩ := h
 obtain ⟨hl, hle⟩ := hle.at
 refine ⟨h1, h2, fun W0 g σ n w vals hS hv hr hf hn hpre => h3 W0 g σ n w vals hS (by rw [hv, hl]) (fun i y v hy hv' => ?_) hf hn hpre⟩
 obtain ⟨x, hx, hxy⟩ := hle i y hy
 exact hxy g v (hr i x v hx hv')
theorem go_yieldw {P : Program} {ops : Array Oper} {m i : Nat} {r : List Oper} {T : Trace} {k : Cfg → Trace → Prop} {s : Slots} {σ : Nat → Ent} {n : Nat} {ty : TypeId} {pos : String} {after : Array Edge} {t : Tmp} {x : Operand} {args : Array Operand} {ts : Array TypeId} {l : Nat} {pre post : Foot} {v : AV} {as0 : List AV}
  (hc : AYield P l as0 (m + i) pre v post) (hx : aeval s x = .lit (.func (.yield l) #[] #[])) (hle : ALe (args.toList.map (aeval s)) as0) (hp : ∀ p ∈ pre, σ p.1 = p.2)
  (h : aops P ops m r (i + 1) (addT i ⟨pre, v, post⟩ T) k ⟨upd s t v, wr σ post, n⟩) : aops P ops m (⟨some t, .call { callee := .value x, args := args, argTypes := ts }, ty, pos, after, none⟩ :: r) i T k ⟨s, σ, n⟩ := by
 rw [aops_cons, wantedG_none, aguard_true]
 exact ⟨⟨pre, v, post⟩, ⟨holds_yield rfl hx (hc.weaken hle), hp⟩, h⟩
theorem go_fall {P : Program} {rs : List ResultVar} {k : Nat} {σ0 : Nat → Ent} {n0 : Nat} {pre post : Foot} {r : AV} {c : Cfg} (h : aRet P rs k σ0 n0 pre r post .ret c) : aRet P rs k σ0 n0 pre r post .normal c := by unfold aRet at h ⊢; exact h
theorem go_nilrowIn {P : Program} {N : Nat} {b : Code} {Q : AExit → Cfg → Prop} {s : Slots} {σ : Nat → Ent} {n : Nat} (id : Nat) (path : List Nat) (e : TypeId) (size : Nat) {bt : TypeId} {c : AV} (hσ : σ id = .box bt c) (hc : c.get path = some .nils)
  (h : aw P N b Q ⟨s, upd (upd σ n (.row e size 0)) id (.box bt (c.put path (.slice (some n) []))), n + 1⟩) : aw P N b Q ⟨s, σ, n⟩ := by
 refine go_ghost (fun W0 g a w hS => ?_) h
 have hf : σ n = .none := hS.sim.bound n (Nat.le_refl _)
 obtain ⟨g1, hle1, hS1, hrow1, _⟩ := (hS.sim.more (n' := n + 1) (Nat.le_succ n)).addRow (k := n) (e := e) (size := size) (m := 0) (u := .slice none 0 0) (cells := []) hf (Nat.lt_succ_self n) (ownsR_nil w _ e size) rfl (fun b hb => by simp [Value.ownBlock] at hb) (fun b hb => by simp [Value.ownBlock] at hb)
 refine ⟨g1, hle1, hS.turnIn hle1 hS1 (Nat.le_succ n) hσ (by rw [upd_ne _ _ _ _ (fun e => by rw [e, hf] at hσ; cases hσ)]; exact hσ) hc (fun u hu => ?_) rfl rfl⟩
 cases hu
 exact .slice (some n) [] [] none 0 0 rfl (Nat.le_refl _) (by unfold maxLen; omega) (fun i x v h _ => by simp at h) (fun v hv => by simp at hv) (.inl rfl) (fun id hid => by cases hid; exact ⟨_, hrow1, Nat.le_refl _, fun _ => rfl⟩)
theorem endRec_normal {r : Loop} (h1 : r.state = .ready) (h2 : r.pending = none) : endRec r .normal = r := by
 cases r; simp only at h1 h2; subst h1; subst h2; rfl
theorem ren_upd {s : Slots} {f : Nat → Option Nat} (t : Nat) (v : AV) (h : (fun t => (s t).ren f) = s) (hv : v.ren f = v) : (fun t' => (upd s t v t').ren f) = upd s t v := by
 funext t'
 by_cases ht : t' = t
 ·subst ht; simp only [upd_same]; exact hv
 ·simp only [upd_ne _ _ _ _ ht]; exact congrFun h t'
theorem ren_init {args : List AV} {f : Nat → Option Nat} (h : AV.renl f args = args) : (fun t => (initS args t).ren f) = initS args := by
 funext t
 show (args.getD t (.tup [])).ren f = args.getD t (.tup [])
 by_cases ht : t < args.length
 ·have e1 : args.getD t (.tup []) = args[t] := by simp [List.getD, List.getElem?_eq_getElem ht]
  rw [e1]
  have h2 : (AV.renl f args)[t]? = some (args[t].ren f) := by rw [AV.renl_map, List.getElem?_map, List.getElem?_eq_getElem ht]; rfl
  rw [h, List.getElem?_eq_getElem ht] at h2
  injection h2 with h2
  exact h2.symm
 ·have e1 : args.getD t (.tup []) = .tup [] := by simp [List.getD, List.getElem?_eq_none (Nat.not_lt.1 ht)]
  rw [e1]; rfl

def fgv : AV → AV
 | .slice _ xs => .slice none xs
 | .nils => .slice none []
 | .clip xs => .slice none xs
 | x => x
theorem fgv_le (x : AV) : AV.le x (fgv x) := by
 cases x with
 | slice o xs => exact AV.le_own o xs
 | nils => exact AV.le_nils0
 | clip xs => exact AV.le_clip xs
 | _ => exact AV.le_refl _
@[go_sem] theorem fgv_slice (o : Option Nat) (xs : List AV) : fgv (.slice o xs) = .slice none xs := rfl
@[go_sem] theorem fgv_nils : fgv .nils = .slice none [] := rfl
@[go_sem] theorem fgv_clip (xs : List AV) : fgv (.clip xs) = .slice none xs := rfl
def fg (ts : List Nat) (s : Slots) : Slots := fun t => if ts.contains t then fgv (s t) else s t
@[go_sem] theorem fg_at (ts : List Nat) (s : Slots) (t : Nat) : fg ts s t = if ts.contains t then fgv (s t) else s t := rfl
theorem SKeep.fg {L ts : List Nat} {s s' : Slots} (hts : ts.all (fun x => L.contains x) = true) (h : SKeep L s s') : SKeep L s (fg ts s') := fun t ht => by
 have : ts.contains t = false := by
  rw [Bool.eq_false_iff]
  intro hc
  have hm : t ∈ ts := by simpa using hc
  exact ht (by have := List.all_eq_true.1 hts t hm; simpa using this)
 rw [fg_at, this]
 exact h t ht
theorem SimA.fg {W0 : World} {g : Ghost} {N : Nat} {s : Slots} {σ : Nat → Ent} {n : Nat} {a : Act} {w : World} (ts : List Nat) (h : SimA W0 g N ⟨s, σ, n⟩ a w) : SimA W0 g N ⟨Go.Ab.fg ts s, σ, n⟩ a w :=
 ⟨h.sim, h.size, fun t => by
  simp only [fg_at]
  split
  ·exact fgv_le _ _ _ (h.slots t)
  ·exact h.slots t⟩
theorem go_loopL {P : Program} {N : Nat} {b : Code} {Q : AExit → Cfg → Prop} {s : Slots} {σ : Nat → Ent} {n : Nat} (ts : List Nat) (bnd : Nat) (hmix : P.follows .mixedOrders = true) (hok : codeOK N b = true) (mods ents : List Nat) (hts : ts.all (fun x => mods.contains x) = true) (I : Nat → Slots → (Nat → Ent) → Nat → Prop)
  (h0 : ∃ m, I m (fg ts s) σ n)
  (round : ∀ m s' σ' n', SKeep mods s s' → EKeep bnd ents σ σ' → n ≤ n' → I m s' σ' n' → aw P N b (aThen (fun c' => SKeep mods s c'.s ∧ EKeep bnd ents σ c'.σ ∧ n ≤ c'.n ∧ ∃ m', m' < m ∧ I m' (fg ts c'.s) c'.σ c'.n) Q) ⟨s', σ', n'⟩) : aw P N (.loop b) Q ⟨s, σ, n⟩ := by
 obtain ⟨m0, h0⟩ := h0
 intro hok' hmix' ro hro W0 g a w hS
 refine wp_loop_ghost (X := Cfg × Nat) (fun x a' w => ∃ g', g.le g' ∧ SimA W0 g' N x.1 a' w ∧ Marks g g' a.defers a'.defers ∧ SKeep mods s x.1.s ∧ EKeep bnd ents σ x.1.σ ∧ n ≤ x.1.n ∧ I x.2 x.1.s x.1.σ x.1.n) (fun x => x.2) (⟨fg ts s, σ, n⟩, m0) ⟨g, g.le_refl, hS.fg ts, .refl _ _ _, (SKeep.refl _ _).fg hts, EKeep.refl _ _ _, Nat.le_refl _, h0⟩ fun x a w ⟨g', hle, hS', hM, k1, k2, k3, hI⟩ => ?_
 obtain ⟨⟨s', σ', n'⟩, m⟩ := x
 refine wpIn_mono (round m s' σ' n' k1 k2 k3 hI hok hmix ro hro.loop W0 g' a w hS') fun e a' w' ⟨c', g'', hle', hS'', hM', hq⟩ => ?_
 cases e with
 | normal =>
  obtain ⟨q1, q2, q3, m', q4, q5⟩ := hq
  exact ⟨(⟨fg ts c'.s, c'.σ, c'.n⟩, m'), ⟨g'', hle.trans hle', hS''.fg ts, hM.trans hle hle' hM', q1.fg hts, q2, q3, q5⟩, q4⟩
 | exit id => exact ⟨c', g'', hle.trans hle', hS'', hM.trans hle hle' hM', hq⟩
 | ret => exact ⟨c', g'', hle.trans hle', hS'', hM.trans hle hle' hM', hq⟩
 | goto => exact hq.elim
 | panic => exact hq.elim
 | outgrown => exact hq.elim
theorem go_loopLF {P : Program} {N : Nat} {b : Code} {Q : AExit → Cfg → Prop} {s : Slots} {σ : Nat → Ent} {n : Nat} (ts : List Nat) (hmix : P.follows .mixedOrders = true) (hok : codeOK N b = true) (mods ents : List Nat) (hts : ts.all (fun x => mods.contains x) = true) (I : Nat → Slots → (Nat → Ent) → Nat → Prop)
  (h0 : ∃ m, I m (fg ts s) σ n)
  (round : ∀ m s' σ' n', SKeep mods s s' → EKeep n ents σ σ' → n ≤ n' → I m s' σ' n' → aw P N b (aThen (fun c' => SKeep mods s c'.s ∧ EKeep n ents σ c'.σ ∧ n ≤ c'.n ∧ ∃ m', m' < m ∧ I m' (fg ts c'.s) c'.σ c'.n) Q) ⟨s', σ', n'⟩) : aw P N (.loop b) Q ⟨s, σ, n⟩ :=
 go_loopL ts n hmix hok mods ents hts I h0 round
theorem go_loopP {P : Program} {N : Nat} {b : Code} {Q : AExit → Cfg → Prop} {s : Slots} {σ : Nat → Ent} {n : Nat} (B bnd : Nat) (hmix : P.follows .mixedOrders = true) (hok : codeOK N b = true) (mods ents : List Nat) (I0 : Slots → (Nat → Ent) → Nat → Prop) (I : Nat → Slots → (Nat → Ent) → Nat → Prop)
  (h0 : I0 s σ n)
  (first : ∀ s' σ' n', SKeep mods s s' → EKeep bnd ents σ σ' → n ≤ n' → I0 s' σ' n' → aw P N b (aThen (fun c' => SKeep mods s c'.s ∧ EKeep bnd ents σ c'.σ ∧ n ≤ c'.n ∧ ∃ m', m' < B ∧ I m' c'.s c'.σ c'.n) Q) ⟨s', σ', n'⟩)
  (round : ∀ m s' σ' n', SKeep mods s s' → EKeep bnd ents σ σ' → n ≤ n' → I m s' σ' n' → aw P N b (aThen (fun c' => SKeep mods s c'.s ∧ EKeep bnd ents σ c'.σ ∧ n ≤ c'.n ∧ ∃ m', m' < m ∧ I m' c'.s c'.σ c'.n) Q) ⟨s', σ', n'⟩) : aw P N (.loop b) Q ⟨s, σ, n⟩ := by
 refine go_loopB bnd hmix hok mods ents (fun m s' σ' n' => (m = B ∧ I0 s' σ' n') ∨ (m < B ∧ I m s' σ' n')) ⟨B, .inl ⟨rfl, h0⟩⟩ fun m s' σ' n' k1 k2 k3 hI => ?_
 rcases hI with ⟨rfl, hI⟩ | ⟨hm, hI⟩
 ·refine go_mid (first s' σ' n' k1 k2 k3 hI) fun e c' hq => ?_
  cases e with
  | normal => obtain ⟨q1, q2, q3, m', q4, q5⟩ := hq; exact ⟨q1, q2, q3, m', q4, .inr ⟨q4, q5⟩⟩
  | exit id => exact hq
  | ret => exact hq
 ·refine go_mid (round m s' σ' n' k1 k2 k3 hI) fun e c' hq => ?_
  cases e with
  | normal => obtain ⟨q1, q2, q3, m', q4, q5⟩ := hq; exact ⟨q1, q2, q3, m', q4, .inr ⟨Nat.lt_trans q4 hm, q5⟩⟩
  | exit id => exact hq
  | ret => exact hq
theorem holds_index_arr {P : Program} {o : Oper} {s : Slots} {id : Nat} {t e : TypeId} {x i : Operand} {len size : Nat} {xs : List AV} {y : AV} {k : IntKind} {n : Int} (ho : o.op = .index t x i) (ht : arrTy P t = some (len, e)) (hs : sizeIs P e size = true) (hx : aeval s x = .agg xs)
  (hi : aeval s i = .lit (.int k n)) (hn : 0 ≤ n) (hlt : n.toNat < len) (hy : xs[n.toNat]? = some y) (hk : AV.szl (xs.take n.toNat) = n.toNat * size) (hT : tyIs P e y.isAgg y.sz = true) (h1 : y.isAgg = true ∨ y.one = true) : OpHolds P o s id [] y [] :=
 holds_pure fun g w a hr => by
  have h1' := hr x (by simp [ho, Op.operands])
  have h2 := hr i (by simp [ho, Op.operands])
  rw [hx] at h1'
  rw [hi] at h2
  have e2 := rep_lit_inv h2
  generalize hv : a.eval x = v at h1'
  obtain ⟨ie, hie, hsz⟩ := sizeIs_sound hs
  cases h1' with
  | agg _ vs hvl hvr =>
   have hR : Rep g (.agg xs) (.agg (flat vs).toArray) := .agg xs vs hvl hvr
   obtain ⟨u, hu, hub, huc⟩ := hR.get (path := [n.toNat]) (y := y) (by simp [AV.get, hy])
   have ho' : (AV.agg xs).offs [n.toNat] = n.toNat * size := by simp [AV.offs, hy, hk]
   rw [ho'] at hub huc
   have hp := run_part (P := P) hu hT h1 (cs := (flat vs).toArray) (off := n.toNat * size) (fun j q hq => by simpa [cells_agg] using huc j q hq) (by simpa [cells_agg] using hub) w
   refine ⟨u, ?_, hu⟩
   have hlt' : n < (len : Int) := by omega
   simp [execOp, ho, hv, e2, Instr.index, asIntOf, run_underlying (arrTy_sound ht), hn, hlt', sizeOf, typeInfo, hie, hsz, hp]
def evIndexA (P : Program) (t : TypeId) (u v : AV) : Option AV :=
 match u, v with
 | .agg xs, .lit (.int _ n) => match arrInfo P t, xs[n.toNat]? with
  | some (len, e, size), some y => if (0 ≤ n ∧ n.toNat < len ∧ AV.szl (xs.take n.toNat) = n.toNat * size) ∧ tyInfo P e = some (y.isAgg, y.sz) ∧ (y.isAgg = true ∨ y.one = true) then some y else none
  | _, _ => none
 | _, _ => none
attribute [go_sem] evIndexA AV.one
theorem go_indexA {P : Program} {ops : Array Oper} {m i n : Nat} {T : Trace} {k : Cfg → Trace → Prop} {ty : TypeId} {pos : String} {after : Array Edge} {r : List Oper} {s : Slots} {σ : Nat → Ent} {t : Tmp} {x y : Operand} {t' : TypeId} {v : AV} (he : evIndexA P t' (aeval s x) (aeval s y) = some v)
  (h : aops P ops m r (i + 1) T k ⟨upd s t v, σ, n⟩) : aops P ops m (⟨some t, .index t' x y, ty, pos, after, none⟩ :: r) i T k ⟨s, σ, n⟩ :=
 go_own (st := ⟨[], v, []⟩) (fun o ho => by
  unfold evIndexA at he
  split at he
  ·rename_i hx hi
   split at he
   ·rename_i ht hy
    split at he
    ·rename_i hc
     cases he
     obtain ⟨⟨c1, c2, c3⟩, c4, c5⟩ := hc
     obtain ⟨k1, k2⟩ := arrInfo_sound ht
     exact .mk0 (holds_index_arr ho k1 k2 hx hi c1 c2 hy c3 (tyInfo_sound c4).1 c5)
    ·cases he
   ·cases he
  ·cases he) h
structure Later (q : Prop) : Prop where
 out : q
theorem Wk {p q : Prop} (h : q) (h2 : Later q → p := by intro hq; (repeat (first | apply go_nil | apply go_kreg | apply go_kreg0 | apply go_kreg1 | (apply go_kregT; · (first | (simp [addT, CF, CFy, Ind, DisjF]; done) | (simp only [addT, CF, CFy, Ind]; repeat' (first | exact trivial | apply And.intro | exact Or.inl (by decide +kernel) | (refine Or.inr ⟨?_, ?_⟩ <;> (simp; try omega)))))) | apply go_then | apply go_then_exit | apply go_then_ret | apply go_blk | apply go_blk_ret | apply go_blk_here | (apply go_blk_there; · rfl) | apply go_seq | (apply go_region; · (simp only [List.length_cons, List.length_nil, Nat.reduceAdd, Nat.add_assoc]; rfl)) | apply go_skip | apply go_block | apply go_scope | apply go_label | apply go_exit | apply go_ret | (apply go_mut; (· assumption); · (simp (disch := omega) [go_sem, *, -List.reduceReplicate]; first | exact ⟨rfl, rfl⟩ | (simp [go_sem, *]; exact ⟨rfl, rfl⟩))) | (apply go_mutP; (· assumption); · (simp (disch := omega) [go_sem, *, -List.reduceReplicate]; try first | rfl | exact ⟨rfl, rfl⟩ | exact ⟨rfl, rfl, rfl⟩)) | (apply go_guard_in; (· rfl); · (simp (disch := omega) [go_sem, *, -List.reduceReplicate]; try first | rfl | omega)) | (apply go_guard_off; (· rfl); · (simp (disch := omega) [go_sem, *, -List.reduceReplicate]; try first | rfl | omega)) | (apply go_guard_no; (· rfl); · (simp (disch := omega) [go_sem, *, -List.reduceReplicate]; try rfl)) | ((first | apply go_move | apply go_assign | apply go_load | apply go_store | apply go_append | apply go_copy | apply go_copy0 | apply go_clear0 | apply go_slice3 | apply go_indexA); · (simp (disch := omega) [go_sem, *, -List.reduceReplicate]; try first | rfl | exact ⟨rfl, rfl⟩ | exact ⟨rfl, rfl, rfl⟩)) | ((first | apply go_loadv | apply go_append0 | apply go_beyond); · (simp (disch := omega) [go_sem, *, -List.reduceReplicate]; try first | rfl | exact ⟨rfl, rfl⟩ | exact ⟨rfl, rfl, rfl⟩)) | (apply go_appself; · (simp (disch := omega) [go_sem, *, -List.reduceReplicate]; try first | rfl | exact ⟨rfl, rfl⟩ | exact ⟨rfl, rfl, rfl⟩)) | ((first | (apply go_appendz; · rfl) | (apply go_new; · rfl) | (apply go_pure; · rfl)); · (simp (disch := omega) [go_sem, *, -List.reduceReplicate]; try first | rfl | exact ⟨rfl, rfl⟩ | exact ⟨rfl, rfl, rfl⟩)) | ((apply go_glob; · assumption); · (simp (disch := omega) [go_sem, *, -List.reduceReplicate]; try first | rfl | exact ⟨rfl, rfl⟩ | exact ⟨rfl, rfl, rfl⟩)) | (apply go_read1; (· rfl); · (simp (disch := omega) [go_sem, *, -List.reduceReplicate]; try first | rfl | exact ⟨rfl, rfl⟩ | exact ⟨rfl, rfl, rfl⟩)) | (apply go_rw1; (· rfl); · (simp (disch := omega) [go_sem, *, -List.reduceReplicate]; try first | rfl | exact ⟨rfl, rfl⟩ | exact ⟨rfl, rfl, rfl⟩)) | (apply go_new1; (· rfl); · (simp (disch := omega) [go_sem, *, -List.reduceReplicate]; try first | rfl | exact ⟨rfl, rfl⟩ | exact ⟨rfl, rfl, rfl⟩)) | (apply go_conv; · (simp (disch := omega) [go_sem, *, -List.reduceReplicate]; try first | rfl | exact ⟨rfl, rfl⟩ | exact ⟨rfl, rfl, rfl⟩)) | ((first | (apply go_new; · rfl) | (apply go_pure; · rfl)); · (simp (disch := omega) [go_sem, *, -List.reduceReplicate]; simp [go_sem, *]; try first | rfl | exact ⟨rfl, rfl⟩)) | (apply go_condT; · (simp (disch := omega) [go_sem, *, -List.reduceReplicate]; try first | rfl | omega; done)) | (apply go_condF; · (simp (disch := omega) [go_sem, *, -List.reduceReplicate]; try first | rfl | omega; done)) | ((first | refine go_callw (hcs.1 _) (by simp (disch := omega) [go_sem, *, -List.reduceReplicate]; try rfl) (by simp (disch := omega) [go_sem, *, -List.reduceReplicate]; repeat' first | exact ALe.nil | exact AV.le_refl _ | exact AV.le_nils | exact AV.le_own _ _ | apply ALe.cons | apply AV.sub_agg) (by simp (disch := omega) [go_sem, *, -List.reduceReplicate]) ?_ | refine go_yieldw (hcs.1 _) (by simp (disch := omega) [go_sem, *, -List.reduceReplicate]; try rfl) (by simp (disch := omega) [go_sem, *, -List.reduceReplicate]; repeat' first | exact ALe.nil | exact AV.le_refl _ | exact AV.le_nils | exact AV.le_own _ _ | apply ALe.cons | apply AV.sub_agg) (by simp (disch := omega) [go_sem, *, -List.reduceReplicate]) ?_); have hcs := hcs.2))); exact hq.out) : p := h2 ⟨h⟩
theorem Wm {p q : Prop} (h : q) (h2 : Later q → p := by intro hq; (repeat (first | apply go_nil | apply go_kreg | apply go_kreg0 | apply go_kreg1 | (apply go_kregT; · (first | (simp [addT, CF, CFy, Ind, DisjF]; done) | (simp only [addT, CF, CFy, Ind]; repeat' (first | exact trivial | apply And.intro | exact Or.inl (by decide +kernel) | (refine Or.inr ⟨?_, ?_⟩ <;> (simp; try omega)))))) | apply go_then | apply go_then_exit | apply go_then_ret | apply go_blk | apply go_blk_ret | apply go_blk_here | (apply go_blk_there; · rfl) | apply go_seq | apply go_skip | apply go_block | apply go_scope | apply go_label | apply go_exit | apply go_ret | (apply go_mut; (· assumption); · (simp (disch := omega) [go_sem, *, -List.reduceReplicate]; first | exact ⟨rfl, rfl⟩ | (simp [go_sem, *]; exact ⟨rfl, rfl⟩))) | (apply go_mutP; (· assumption); · (simp (disch := omega) [go_sem, *, -List.reduceReplicate]; try first | rfl | exact ⟨rfl, rfl⟩ | exact ⟨rfl, rfl, rfl⟩)) | (apply go_guard_in; (· rfl); · (simp (disch := omega) [go_sem, *, -List.reduceReplicate]; try first | rfl | omega)) | (apply go_guard_off; (· rfl); · (simp (disch := omega) [go_sem, *, -List.reduceReplicate]; try first | rfl | omega)) | (apply go_guard_no; (· rfl); · (simp (disch := omega) [go_sem, *, -List.reduceReplicate]; try rfl)) | ((first | apply go_move | apply go_assign | apply go_load | apply go_store | apply go_append | apply go_copy | apply go_copy0 | apply go_clear0 | apply go_slice3 | apply go_indexA); · (simp (disch := omega) [go_sem, *, -List.reduceReplicate]; try first | rfl | exact ⟨rfl, rfl⟩ | exact ⟨rfl, rfl, rfl⟩)) | ((first | apply go_loadv | apply go_append0 | apply go_beyond); · (simp (disch := omega) [go_sem, *, -List.reduceReplicate]; try first | rfl | exact ⟨rfl, rfl⟩ | exact ⟨rfl, rfl, rfl⟩)) | (apply go_appself; · (simp (disch := omega) [go_sem, *, -List.reduceReplicate]; try first | rfl | exact ⟨rfl, rfl⟩ | exact ⟨rfl, rfl, rfl⟩)) | ((first | (apply go_appendz; · rfl) | (apply go_new; · rfl) | (apply go_pure; · rfl)); · (simp (disch := omega) [go_sem, *, -List.reduceReplicate]; try first | rfl | exact ⟨rfl, rfl⟩ | exact ⟨rfl, rfl, rfl⟩)) | ((apply go_glob; · assumption); · (simp (disch := omega) [go_sem, *, -List.reduceReplicate]; try first | rfl | exact ⟨rfl, rfl⟩ | exact ⟨rfl, rfl, rfl⟩)) | (apply go_read1; (· rfl); · (simp (disch := omega) [go_sem, *, -List.reduceReplicate]; try first | rfl | exact ⟨rfl, rfl⟩ | exact ⟨rfl, rfl, rfl⟩)) | (apply go_rw1; (· rfl); · (simp (disch := omega) [go_sem, *, -List.reduceReplicate]; try first | rfl | exact ⟨rfl, rfl⟩ | exact ⟨rfl, rfl, rfl⟩)) | (apply go_new1; (· rfl); · (simp (disch := omega) [go_sem, *, -List.reduceReplicate]; try first | rfl | exact ⟨rfl, rfl⟩ | exact ⟨rfl, rfl, rfl⟩)) | (apply go_conv; · (simp (disch := omega) [go_sem, *, -List.reduceReplicate]; try first | rfl | exact ⟨rfl, rfl⟩ | exact ⟨rfl, rfl, rfl⟩)) | ((first | (apply go_new; · rfl) | (apply go_pure; · rfl)); · (simp (disch := omega) [go_sem, *, -List.reduceReplicate]; simp [go_sem, *]; try first | rfl | exact ⟨rfl, rfl⟩)) | (apply go_condT; · (simp (disch := omega) [go_sem, *, -List.reduceReplicate]; try first | rfl | omega; done)) | (apply go_condF; · (simp (disch := omega) [go_sem, *, -List.reduceReplicate]; try first | rfl | omega; done)) | (first | (apply go_yieldw (hcs.1 _); (focus (simp (disch := omega) [go_sem, *, -List.reduceReplicate]; (try rfl); done)); (focus (simp (disch := omega) [go_sem, *, -List.reduceReplicate]; (repeat' first | exact ALe.nil | exact AV.le_refl _ | exact AV.le_nils | exact AV.le_own _ _ | apply ALe.cons | apply AV.sub_agg); done)); (focus (simp (disch := omega) [go_sem, *, -List.reduceReplicate]; done)); have hcs := hcs.2) | (first | (apply go_callw (hcs.1 _); (focus (simp (disch := omega) [go_sem, *, -List.reduceReplicate]; (try rfl); done)); (focus (simp (disch := omega) [go_sem, *, -List.reduceReplicate]; (repeat' first | exact ALe.nil | exact AV.le_refl _ | exact AV.le_nils | exact AV.le_own _ _ | apply ALe.cons | apply AV.sub_agg); done)); (focus (simp (disch := omega) [go_sem, *, -List.reduceReplicate]; done)); have hcs := hcs.2) | (have hcs := hcs.2; (first | (apply go_callw (hcs.1 _); (focus (simp (disch := omega) [go_sem, *, -List.reduceReplicate]; (try rfl); done)); (focus (simp (disch := omega) [go_sem, *, -List.reduceReplicate]; (repeat' first | exact ALe.nil | exact AV.le_refl _ | exact AV.le_nils | exact AV.le_own _ _ | apply ALe.cons | apply AV.sub_agg); done)); (focus (simp (disch := omega) [go_sem, *, -List.reduceReplicate]; done)); have hcs := hcs.2) | (have hcs := hcs.2; (first | (apply go_callw (hcs.1 _); (focus (simp (disch := omega) [go_sem, *, -List.reduceReplicate]; (try rfl); done)); (focus (simp (disch := omega) [go_sem, *, -List.reduceReplicate]; (repeat' first | exact ALe.nil | exact AV.le_refl _ | exact AV.le_nils | exact AV.le_own _ _ | apply ALe.cons | apply AV.sub_agg); done)); (focus (simp (disch := omega) [go_sem, *, -List.reduceReplicate]; done)); have hcs := hcs.2) | (have hcs := hcs.2; (first | (apply go_callw (hcs.1 _); (focus (simp (disch := omega) [go_sem, *, -List.reduceReplicate]; (try rfl); done)); (focus (simp (disch := omega) [go_sem, *, -List.reduceReplicate]; (repeat' first | exact ALe.nil | exact AV.le_refl _ | exact AV.le_nils | exact AV.le_own _ _ | apply ALe.cons | apply AV.sub_agg); done)); (focus (simp (disch := omega) [go_sem, *, -List.reduceReplicate]; done)); have hcs := hcs.2) | (have hcs := hcs.2; (first | (apply go_callw (hcs.1 _); (focus (simp (disch := omega) [go_sem, *, -List.reduceReplicate]; (try rfl); done)); (focus (simp (disch := omega) [go_sem, *, -List.reduceReplicate]; (repeat' first | exact ALe.nil | exact AV.le_refl _ | exact AV.le_nils | exact AV.le_own _ _ | apply ALe.cons | apply AV.sub_agg); done)); (focus (simp (disch := omega) [go_sem, *, -List.reduceReplicate]; done)); have hcs := hcs.2) | (have hcs := hcs.2; (first | (apply go_callw (hcs.1 _); (focus (simp (disch := omega) [go_sem, *, -List.reduceReplicate]; (try rfl); done)); (focus (simp (disch := omega) [go_sem, *, -List.reduceReplicate]; (repeat' first | exact ALe.nil | exact AV.le_refl _ | exact AV.le_nils | exact AV.le_own _ _ | apply ALe.cons | apply AV.sub_agg); done)); (focus (simp (disch := omega) [go_sem, *, -List.reduceReplicate]; done)); have hcs := hcs.2) | (have hcs := hcs.2; (first | (apply go_callw (hcs.1 _); (focus (simp (disch := omega) [go_sem, *, -List.reduceReplicate]; (try rfl); done)); (focus (simp (disch := omega) [go_sem, *, -List.reduceReplicate]; (repeat' first | exact ALe.nil | exact AV.le_refl _ | exact AV.le_nils | exact AV.le_own _ _ | apply ALe.cons | apply AV.sub_agg); done)); (focus (simp (disch := omega) [go_sem, *, -List.reduceReplicate]; done)); have hcs := hcs.2) | (have hcs := hcs.2; (apply go_callw (hcs.1 _); (focus (simp (disch := omega) [go_sem, *, -List.reduceReplicate]; (try rfl); done)); (focus (simp (disch := omega) [go_sem, *, -List.reduceReplicate]; (repeat' first | exact ALe.nil | exact AV.le_refl _ | exact AV.le_nils | exact AV.le_own _ _ | apply ALe.cons | apply AV.sub_agg); done)); (focus (simp (disch := omega) [go_sem, *, -List.reduceReplicate]; done)); have hcs := hcs.2)))))))))))))))))); exact hq.out) : p := h2 ⟨h⟩
theorem Wz {p q : Prop} (h : q) (h2 : Later q → p := by intro hq; (try (apply go_region; · (simp only [List.length_cons, List.length_nil, Nat.reduceAdd, Nat.add_assoc]; rfl))); refine Wm ?_; exact hq.out) : p := h2 ⟨h⟩
theorem Wg {p q : Prop} (h : q) (h2 : Later q → p := by intro hq; (repeat (first | apply go_nil | apply go_kreg | apply go_kreg0 | apply go_kreg1 | (apply go_kregT; · (first | (simp [addT, CF, CFy, Ind, DisjF]; done) | (simp only [addT, CF, CFy, Ind]; repeat' (first | exact trivial | apply And.intro | exact Or.inl (by decide +kernel) | (refine Or.inr ⟨?_, ?_⟩ <;> (simp; try omega)))))) | apply go_then | apply go_then_exit | apply go_then_ret | apply go_blk | apply go_blk_ret | apply go_blk_here | (apply go_blk_there; · rfl) | apply go_seq | (apply go_region; · (simp only [List.length_cons, List.length_nil, Nat.reduceAdd, Nat.add_assoc]; rfl)) | apply go_skip | apply go_block | apply go_scope | apply go_label | apply go_exit | apply go_ret | (apply go_mut; (· assumption); · (simp (disch := omega) [go_sem, *, -List.reduceReplicate]; first | exact ⟨rfl, rfl⟩ | (simp [go_sem, *]; exact ⟨rfl, rfl⟩))) | (apply go_mutP; (· assumption); · (simp (disch := omega) [go_sem, *, -List.reduceReplicate]; try first | rfl | exact ⟨rfl, rfl⟩ | exact ⟨rfl, rfl, rfl⟩)) | (apply go_guard_in; (· rfl); · (simp (disch := omega) [go_sem, *, -List.reduceReplicate]; try first | rfl | omega)) | (apply go_guard_off; (· rfl); · (simp (disch := omega) [go_sem, *, -List.reduceReplicate]; try first | rfl | omega)) | (apply go_guard_no; (· rfl); · (simp (disch := omega) [go_sem, *, -List.reduceReplicate]; try rfl)) | ((first | apply go_move | apply go_assign | apply go_load | apply go_store | apply go_append | apply go_copy | apply go_copy0 | apply go_clear0 | apply go_slice3 | apply go_indexA); · (simp (disch := omega) [go_sem, *, -List.reduceReplicate]; try first | rfl | exact ⟨rfl, rfl⟩ | exact ⟨rfl, rfl, rfl⟩)) | ((first | apply go_loadv | apply go_append0 | apply go_beyond); · (simp (disch := omega) [go_sem, *, -List.reduceReplicate]; try first | rfl | exact ⟨rfl, rfl⟩ | exact ⟨rfl, rfl, rfl⟩)) | (apply go_appself; · (simp (disch := omega) [go_sem, *, -List.reduceReplicate]; try first | rfl | exact ⟨rfl, rfl⟩ | exact ⟨rfl, rfl, rfl⟩)) | ((first | (apply go_appendz; · rfl) | (apply go_new; · rfl) | (apply go_pure; · rfl)); · (simp (disch := omega) [go_sem, *, -List.reduceReplicate]; try first | rfl | exact ⟨rfl, rfl⟩ | exact ⟨rfl, rfl, rfl⟩)) | ((apply go_glob; · assumption); · (simp (disch := omega) [go_sem, *, -List.reduceReplicate]; try first | rfl | exact ⟨rfl, rfl⟩ | exact ⟨rfl, rfl, rfl⟩)) | (apply go_read1; (· rfl); · (simp (disch := omega) [go_sem, *, -List.reduceReplicate]; try first | rfl | exact ⟨rfl, rfl⟩ | exact ⟨rfl, rfl, rfl⟩)) | (apply go_rw1; (· rfl); · (simp (disch := omega) [go_sem, *, -List.reduceReplicate]; try first | rfl | exact ⟨rfl, rfl⟩ | exact ⟨rfl, rfl, rfl⟩)) | (apply go_new1; (· rfl); · (simp (disch := omega) [go_sem, *, -List.reduceReplicate]; try first | rfl | exact ⟨rfl, rfl⟩ | exact ⟨rfl, rfl, rfl⟩)) | (apply go_conv; · (simp (disch := omega) [go_sem, *, -List.reduceReplicate]; try first | rfl | exact ⟨rfl, rfl⟩ | exact ⟨rfl, rfl, rfl⟩)) | ((first | (apply go_new; · rfl) | (apply go_pure; · rfl)); · (simp (disch := omega) [go_sem, *, -List.reduceReplicate]; simp [go_sem, *]; try first | rfl | exact ⟨rfl, rfl⟩)))); exact hq.out) : p := h2 ⟨h⟩
theorem W0 {p : Prop} (h : p := by refine Wk ?_; refine go_result (by simp (disch := omega) [go_sem, *, -List.reduceReplicate]; rfl) (by simp (disch := omega) [go_sem]; try rfl) (fun id hid => by simp (disch := omega) only [upd_ne, wr_cons, wr_nil]; try exact hlow id hid)) : p := h
theorem WL {p : Prop} (h : p := by refine Wk ?_; refine go_resultI (by simp (disch := omega) [go_sem, *, -List.reduceReplicate]; rfl) (AV.sub_tup (by repeat' first | exact ALe.nil | exact AV.le_refl _ | apply ALe.cons | ((first | apply AV.le_slices | apply AV.le_nilsE | apply AV.le_clipE); first | rfl | (simp (disch := omega) [go_sem, *, -List.reduceReplicate]; done)))) (by simp (disch := omega) [go_sem]; try rfl) (fun id hid => by simp (disch := omega) only [upd_ne, wr_cons, wr_nil]; try exact hlow id hid)) : p := h
theorem WM {p : Prop} (h : p := by refine Wk ?_; refine go_resultI (by simp (disch := omega) [go_sem, *, -List.reduceReplicate]; rfl) (by first | exact AV.le_refl _ | ((first | apply AV.le_slices | apply AV.le_nilsE | apply AV.le_clipE); first | rfl | (simp (disch := omega) [go_sem, *, -List.reduceReplicate]; done))) (by simp (disch := omega) [go_sem]; try rfl) (fun id hid => by simp (disch := omega) only [upd_ne, wr_cons, wr_nil]; try exact hlow id hid)) : p := h
theorem WA {p : Prop} (h : p := by refine Wk ?_; refine go_resultI (by simp (disch := omega) [go_sem, *, -List.reduceReplicate]; rfl) (AV.sub_agg (by repeat' first | exact ALe.nil | exact AV.le_refl _ | apply ALe.cons | ((first | apply AV.le_slices | apply AV.le_nilsE | apply AV.le_clipE); first | rfl | (simp (disch := omega) [go_sem, *, -List.reduceReplicate]; done)))) (by simp (disch := omega) [go_sem, -List.reduceReplicate]; try rfl) (fun id hid => by simp (disch := omega) only [upd_ne, wr_cons, wr_nil]; try exact hlow id hid)) : p := h
theorem WT {p : Prop} (h : p := by refine Wk ?_; refine go_resultI (by simp (disch := omega) [go_sem, *, -List.reduceReplicate]; rfl) (by exact AV.sub_tup (.cons (AV.sub_agg (by repeat' first | exact ALe.nil | exact AV.le_refl _ | apply ALe.cons | ((first | apply AV.le_slices | apply AV.le_nilsE | apply AV.le_clipE); first | rfl | (simp (disch := omega) [go_sem, *, -List.reduceReplicate]; done)))) (by repeat' first | exact ALe.nil | exact AV.le_refl _ | apply ALe.cons | ((first | apply AV.le_slices | apply AV.le_nilsE | apply AV.le_clipE); first | rfl | (simp (disch := omega) [go_sem, *, -List.reduceReplicate]; done))))) (by simp (disch := omega) [go_sem]; try rfl) (fun id hid => by simp (disch := omega) only [upd_ne, wr_cons, wr_nil]; try exact hlow id hid)) : p := h
theorem WD {p : Prop} (h : p := by refine Wk ?_; refine go_resultI (by simp (disch := omega) [go_sem, *, -List.reduceReplicate]; rfl) (AV.sub_tup (by repeat' first | exact ALe.nil | exact AV.le_refl _ | apply ALe.cons | apply AV.sub_agg | ((first | apply AV.le_slices | apply AV.le_nilsE | apply AV.le_clipE); first | rfl | (simp (disch := omega) [go_sem, *, -List.reduceReplicate]; done)))) (by simp (disch := omega) [go_sem]; try rfl) (fun id hid => by simp (disch := omega) only [upd_ne, wr_cons, wr_nil]; try exact hlow id hid)) : p := h
theorem WF {p : Prop} (h : p := by first | (simp (disch := omega) [go_sem, *, -List.reduceReplicate]; done) | (simp (disch := omega) [go_sem, *, -List.reduceReplicate]; first | done | rfl | exact ⟨rfl, rfl⟩ | exact ⟨rfl, rfl, rfl⟩ | exact ⟨rfl, rfl, rfl, rfl⟩ | omega) | omega | rfl | assumption | (simp (disch := omega) [go_sem, *, -List.reduceReplicate])) : p := h
theorem WC {p : Prop} (h : p := by (try simp only); first | assumption | omega | (simp only [List.append_assoc, List.cons_append, List.nil_append, List.singleton_append]; assumption) | (simp; done) | (simp; omega) | (simp; assumption) | (simp only [List.nil_append, *]; done) | (simp (disch := omega) [go_sem, *, -List.reduceReplicate])) : p := h
theorem WN {p : Prop} (h : p := by first | omega | (simp only; omega)) : p := h
theorem WS {p : Prop} (h : p := by (try simp only); (repeat (first | (with_reducible refine SKeep.upd rfl ?_) | assumption | (with_reducible refine SKeep.step (by assumption) rfl ?_)))) : p := h
theorem WG {p : Prop} (h : p := by (try simp only [wr_cons, wr_nil]); (repeat (first | (with_reducible refine EKeep.updN (by first | omega | (simp only; omega)) ?_) | (with_reducible refine EKeep.updL (by simp) ?_) | assumption | (with_reducible refine EKeep.step (by assumption) (by first | omega | (simp only; omega)) (by simp; try omega) ?_) | (simp only [wr_cons, wr_nil])))) : p := h
theorem Bd {P : Program} {f : FuncId} {body : Code} {args : List AV} {k : Nat} {pre post : Foot} {r : AV} {fn : Func} {N : Nat} {rs : List ResultVar} (hf : P.funcs[f]? = some fn) (hN : fn.ntmps = N)
  (h : ∀ (σ : Nat → Ent) (n : Nat), (∀ p ∈ pre, σ p.1 = p.2) → (∀ p ∈ pre, p.1 < n) → σ k = .none → k < n → (∀ id, n ≤ id → σ id = .none) → aw P N body (aRet P rs k σ n pre r post) ⟨initS args, σ, n⟩)
  (hb : fn.body = some body := by exact rfl) (hname : (fn.name == "runtime.NumGoroutine") = false := by kernel_rfl) (hok : codeOK N body = true := by kernel_rfl) (hrs : fn.results.toList = rs := by exact rfl) (hargs : args.length ≤ N := by simp) (hpre : ∀ p ∈ pre, p.2 ≠ .none := by simp) (hpost : ∀ q ∈ post, q.1 = k ∨ ∃ p ∈ pre, p.1 = q.1 := by simp) (hmix : P.follows .mixedOrders = true := by exact mixed) : ACall P f args k pre r post :=
 .of_body hmix hf hb hname hN hok hrs hargs hpre hpost h
theorem HD0 {σ : Nat → Ent} {n d : Nat} {E : Ent} (h : ∀ p ∈ [(d, E)], σ p.1 = p.2) (hn : ∀ p ∈ [(d, E)], p.1 < n) : σ d = E ∧ d < n := ⟨h _ (List.mem_singleton.2 rfl), hn _ (List.mem_singleton.2 rfl)⟩
theorem RW {P : Program} {rs : List ResultVar} {k : Nat} {σ0 : Nat → Ent} {n0 : Nat} {pre post : Foot} {r r' : AV} {c : Cfg} (d : Nat) (E : Ent) (h1 : aresults P c rs = some r' := by simp (disch := omega) [go_sem, *, -List.reduceReplicate]; rfl) (h2 : r'.ren (rn n0 k none) = r := by first | rfl | (simp (disch := omega) [go_sem]; done) | (simp (disch := omega) [go_sem, *]; done) | simp (disch := omega) [go_sem])
  (h3 : c.σ d = E := by simp (disch := omega) [go_sem, *]) (h3' : ∀ id, id < n0 → id ≠ d → c.σ id = σ0 id := by intro id hid hdd; first | exact hlow id hid hdd | (simp (disch := omega) only [upd_ne, wr_cons, wr_nil]; try (first | exact hlow id hid hdd | exact hlow id hid))) (h4 : ∃ p ∈ pre, p.1 = d := by simp) (h5 : renF (rn n0 k none) [(d, E)] = post := by simp (disch := omega) [go_sem, *]) : aRet P rs k σ0 n0 pre r post .ret c :=
 go_resultW [(d, E)] h1 h2 (fun id hid => by
  rw [wr_cons, wr_nil]
  by_cases hdd : id = d
  ·subst hdd; rw [upd_same, h3]
  ·rw [upd_ne _ _ _ _ hdd]; exact h3' id hid hdd) (by simpa using h4) h5
theorem RV {P : Program} {rs : List ResultVar} {k : Nat} {σ0 : Nat → Ent} {n0 : Nat} {pre post : Foot} {r r0 : AV} {c : Cfg} (d : Nat) (E : Ent) (h1 : aresults P c rs = some r0 := by simp (disch := omega) [go_sem, *, -List.reduceReplicate]; rfl) (hle : AV.le r0 r := by first | exact AV.le_refl _ | ((first | apply AV.le_slices | apply AV.le_nilsE | apply AV.le_clipE); first | rfl | (simp (disch := omega) [go_sem, *, -List.reduceReplicate]; done)) | (apply AV.sub_tup; repeat' first | exact ALe.nil | exact AV.le_refl _ | apply ALe.cons | ((first | apply AV.le_slices | apply AV.le_nilsE | apply AV.le_clipE); first | rfl | (simp (disch := omega) [go_sem, *, -List.reduceReplicate]; done))) | (apply AV.sub_agg; repeat' first | exact ALe.nil | exact AV.le_refl _ | apply ALe.cons | ((first | apply AV.le_slices | apply AV.le_nilsE | apply AV.le_clipE); first | rfl | (simp (disch := omega) [go_sem, *, -List.reduceReplicate]; done)))) (h2 : r.ren (rn n0 k none) = r := by first | rfl | (simp (disch := omega) [go_sem]; done) | (simp (disch := omega) [go_sem, *]; done) | simp (disch := omega) [go_sem])
  (h3 : c.σ d = E := by simp (disch := omega) [go_sem, *]) (h3' : ∀ id, id < n0 → id ≠ d → c.σ id = σ0 id := by intro id hid hdd; first | exact hlow id hid hdd | (simp (disch := omega) only [upd_ne, wr_cons, wr_nil]; try (first | exact hlow id hid hdd | exact hlow id hid))) (h4 : ∃ p ∈ pre, p.1 = d := by simp) (h5 : renF (rn n0 k none) [(d, E)] = post := by simp (disch := omega) [go_sem, *]) : aRet P rs k σ0 n0 pre r post .ret c :=
 go_resultWI [(d, E)] h1 hle h2 (fun id hid => by
  rw [wr_cons, wr_nil]
  by_cases hdd : id = d
  ·subst hdd; rw [upd_same, h3]
  ·rw [upd_ne _ _ _ _ hdd]; exact h3' id hid hdd) (by simpa using h4) h5
theorem KS {L : List Nat} {s s' : Slots} {x : AV} (h : SKeep L s s') (t : Nat) (ht : L.contains t = false := by decide) (he : s t = x := by simp (disch := omega) [go_sem, *, -List.reduceReplicate]; try rfl) : s' t = x := (h.at t ht).trans he
theorem KE {n : Nat} {L : List Nat} {σ σ' : Nat → Ent} {x : Ent} (h : EKeep n L σ σ') (id : Nat) (hid : id < n := by omega) (ht : id ∉ L := by simp; try omega) (he : σ id = x := by simp (disch := omega) [go_sem, *, -List.reduceReplicate]; try rfl) : σ' id = x := (h.at id hid ht).trans he
theorem KL {n N : Nat} {L : List Nat} {σ σ' σ'' : Nat → Ent} (h : EKeep n L σ' σ'') (hN : N ≤ n := by omega) (hL : ∀ id, id < N → id ∉ L := by intro id hid; simp; try omega) (hx : ∀ id, id < N → σ' id = σ id := by intro id hid; first | exact hlow id hid | (simp (disch := omega) only [upd_ne, wr_cons, wr_nil]; try exact hlow id hid)) : ∀ id, id < N → σ'' id = σ id := fun id hid => (h.at id (by omega) (hL id hid)).trans (hx id hid)
theorem KD {n N d : Nat} {L : List Nat} {σ σ' σ'' : Nat → Ent} (h : EKeep n L σ' σ'') (hN : N ≤ n := by omega) (hL : ∀ id, id < N → id ≠ d → id ∉ L := by intro id hid hdd; simp; try omega) (hx : ∀ id, id < N → id ≠ d → σ' id = σ id := by intro id hid hdd; first | exact hlow id hid hdd | (simp (disch := omega) only [upd_ne, wr_cons, wr_nil]; try first | exact hlow id hid hdd | exact hlow id hid)) : ∀ id, id < N → id ≠ d → σ'' id = σ id := fun id hid hdd => (h.at id (by omega) (hL id hid hdd)).trans (hx id hid hdd)
end Go.Ab

namespace Go.Proofs.YtdmjpolnbmoehaaDoor
open Go.Ab
theorem mixed : Tryd.prog.follows .mixedOrders = true := by kernel_rfl
@[go_sem] theorem zt1 : ztree Tryd.prog 1 = some (.lit .nilFunc) := by kernel_rfl
@[go_sem] theorem tq1 : tyInfo Tryd.prog 1 = some (false, 1) ∧ byteTy Tryd.prog 1 = false ∧ Program.concrete Tryd.prog 1 = true ∧ strTy Tryd.prog 1 = false ∧ nilKind Tryd.prog 1 = 3 := by and_intros <;> kernel_rfl
@[go_sem] theorem it2 : intTy Tryd.prog 2 = some .i64 := by kernel_rfl
@[go_sem] theorem zt2 : ztree Tryd.prog 2 = some (.lit (.int .i64 0)) := by kernel_rfl
@[go_sem] theorem tq2 : tyInfo Tryd.prog 2 = some (false, 1) ∧ byteTy Tryd.prog 2 = false ∧ Program.concrete Tryd.prog 2 = true ∧ strTy Tryd.prog 2 = false := by and_intros <;> kernel_rfl
@[go_sem] theorem it3 : intTy Tryd.prog 3 = some .i64 := by kernel_rfl
@[go_sem] theorem zt3 : ztree Tryd.prog 3 = some (.lit (.int .i64 0)) := by kernel_rfl
@[go_sem] theorem tq3 : tyInfo Tryd.prog 3 = some (false, 1) ∧ byteTy Tryd.prog 3 = false ∧ Program.concrete Tryd.prog 3 = true ∧ strTy Tryd.prog 3 = false := by and_intros <;> kernel_rfl
@[go_sem] theorem bt4 : boolTy Tryd.prog 4 = true := by kernel_rfl
@[go_sem] theorem zt4 : ztree Tryd.prog 4 = some (.lit (.bool false)) := by kernel_rfl
@[go_sem] theorem tq4 : tyInfo Tryd.prog 4 = some (false, 1) ∧ byteTy Tryd.prog 4 = false ∧ Program.concrete Tryd.prog 4 = true ∧ strTy Tryd.prog 4 = false := by and_intros <;> kernel_rfl
@[go_sem] theorem it5 : intTy Tryd.prog 5 = some .u8 := by kernel_rfl
@[go_sem] theorem by5 : byteTy Tryd.prog 5 = true := by kernel_rfl
@[go_sem] theorem sz1_5 : sizeIs Tryd.prog 5 1 = true := by kernel_rfl
@[go_sem] theorem zt5 : ztree Tryd.prog 5 = some (.lit (.int .u8 0)) := by kernel_rfl
@[go_sem] theorem tq5 : tyInfo Tryd.prog 5 = some (false, 1) ∧ Program.concrete Tryd.prog 5 = true ∧ strTy Tryd.prog 5 = false := by and_intros <;> kernel_rfl
@[go_sem] theorem st9 : strTy Tryd.prog 9 = true := by kernel_rfl
@[go_sem] theorem zt9 : ztree Tryd.prog 9 = some (.lit (.string ByteArray.empty)) := by kernel_rfl
@[go_sem] theorem tq9 : tyInfo Tryd.prog 9 = some (false, 1) ∧ byteTy Tryd.prog 9 = false ∧ Program.concrete Tryd.prog 9 = true := by and_intros <;> kernel_rfl
@[go_sem] theorem it12 : intTy Tryd.prog 12 = some .u64 := by kernel_rfl
@[go_sem] theorem zt12 : ztree Tryd.prog 12 = some (.lit (.int .u64 0)) := by kernel_rfl
@[go_sem] theorem tq12 : tyInfo Tryd.prog 12 = some (false, 1) ∧ byteTy Tryd.prog 12 = false ∧ Program.concrete Tryd.prog 12 = true ∧ strTy Tryd.prog 12 = false := by and_intros <;> kernel_rfl
@[go_sem] theorem zt20 : ztree Tryd.prog 20 = some (.lit .nilIface) := by kernel_rfl
@[go_sem] theorem tq20 : tyInfo Tryd.prog 20 = some (false, 1) ∧ byteTy Tryd.prog 20 = false ∧ strTy Tryd.prog 20 = false := by and_intros <;> kernel_rfl
@[go_sem] theorem sl22 : sliceTy Tryd.prog 22 = some 3 := by kernel_rfl
@[go_sem] theorem si22 : sliceInfo Tryd.prog 22 = some (3, 1, 8, (.lit (.int .i64 0))) := by kernel_rfl
@[go_sem] theorem zt22 : ztree Tryd.prog 22 = some .nils := by kernel_rfl
@[go_sem] theorem tq22 : tyInfo Tryd.prog 22 = some (false, 1) ∧ byteTy Tryd.prog 22 = false ∧ Program.concrete Tryd.prog 22 = true ∧ strTy Tryd.prog 22 = false ∧ nilKind Tryd.prog 22 = 1 := by and_intros <;> kernel_rfl
@[go_sem] theorem eq24 : eqTop Tryd.prog 24 = some (.bytes 32) := by kernel_rfl
@[go_sem] theorem pa24 : ptrArr Tryd.prog 24 = some (32, 5, 1) := by kernel_rfl
@[go_sem] theorem ar24 : arrInfo Tryd.prog 24 = some (32, 5, 1) := by kernel_rfl
@[go_sem] theorem sp24 : splaces Tryd.prog 24 = none := by kernel_rfl
@[go_sem] theorem zt24 : ztree Tryd.prog 24 = some (.agg ((List.replicate 32 (0 : UInt8)).map byteAV)) := by kernel_rfl
@[go_sem] theorem tq24 : tyInfo Tryd.prog 24 = some (true, 32) ∧ byteTy Tryd.prog 24 = false ∧ Program.concrete Tryd.prog 24 = true ∧ strTy Tryd.prog 24 = false := by and_intros <;> kernel_rfl
@[go_sem] theorem zt25 : ztree Tryd.prog 25 = some (.lit (.pointer none)) := by kernel_rfl
@[go_sem] theorem tq25 : tyInfo Tryd.prog 25 = some (false, 1) ∧ byteTy Tryd.prog 25 = false ∧ Program.concrete Tryd.prog 25 = true ∧ strTy Tryd.prog 25 = false ∧ nilKind Tryd.prog 25 = 2 := by and_intros <;> kernel_rfl
@[go_sem] theorem sl27 : sliceTy Tryd.prog 27 = some 102 := by kernel_rfl
@[go_sem] theorem si27 : sliceInfo Tryd.prog 27 = some (102, 65, 88, (.agg [(.agg ((List.replicate 32 (0 : UInt8)).map byteAV)), .nils, (.agg ((List.replicate 32 (0 : UInt8)).map byteAV))])) := by kernel_rfl
@[go_sem] theorem zt27 : ztree Tryd.prog 27 = some .nils := by kernel_rfl
@[go_sem] theorem tq27 : tyInfo Tryd.prog 27 = some (false, 1) ∧ byteTy Tryd.prog 27 = false ∧ Program.concrete Tryd.prog 27 = true ∧ strTy Tryd.prog 27 = false ∧ nilKind Tryd.prog 27 = 1 := by and_intros <;> kernel_rfl
@[go_sem] theorem sl28 : sliceTy Tryd.prog 28 = some 105 := by kernel_rfl
@[go_sem] theorem si28 : sliceInfo Tryd.prog 28 = some (105, 35, 88, (.agg [(.agg ((List.replicate 32 (0 : UInt8)).map byteAV)), (.lit (.int .i64 0)), .nils, .nils])) := by kernel_rfl
@[go_sem] theorem zt28 : ztree Tryd.prog 28 = some .nils := by kernel_rfl
@[go_sem] theorem tq28 : tyInfo Tryd.prog 28 = some (false, 1) ∧ byteTy Tryd.prog 28 = false ∧ Program.concrete Tryd.prog 28 = true ∧ strTy Tryd.prog 28 = false ∧ nilKind Tryd.prog 28 = 1 := by and_intros <;> kernel_rfl
@[go_sem] theorem zt30 : ztree Tryd.prog 30 = some (.agg [(.lit (.bool false)), (.agg ((List.replicate 32 (0 : UInt8)).map byteAV)), (.lit (.int .i64 0)), .nils, .nils]) := by kernel_rfl
@[go_sem] theorem tq30 : tyInfo Tryd.prog 30 = some (true, 36) ∧ byteTy Tryd.prog 30 = false ∧ Program.concrete Tryd.prog 30 = true ∧ strTy Tryd.prog 30 = false ∧ splaces Tryd.prog 30 = some [(0, 1), (1, 32), (33, 1), (34, 1), (35, 1)] ∧ fieldOff Tryd.prog 30 0 = some 0 ∧ fieldOff Tryd.prog 30 1 = some 1 ∧ fieldOff Tryd.prog 30 2 = some 33 ∧ fieldOff Tryd.prog 30 3 = some 34 ∧ fieldOff Tryd.prog 30 4 = some 35 := by and_intros <;> kernel_rfl
@[go_sem] theorem sl32 : sliceTy Tryd.prog 32 = some 57 := by kernel_rfl
@[go_sem] theorem si32 : sliceInfo Tryd.prog 32 = some (57, 10, 120, (.agg [(.lit (.bool false)), (.agg [(.lit (.int .i64 0)), (.lit (.int .u64 0)), (.lit (.int .i64 0)), (.lit (.int .i64 0)), (.lit (.string ByteArray.empty)), (.lit (.int .i64 0))]), (.lit (.int .i64 0)), .nils, .nils])) := by kernel_rfl
@[go_sem] theorem zt32 : ztree Tryd.prog 32 = some .nils := by kernel_rfl
@[go_sem] theorem tq32 : tyInfo Tryd.prog 32 = some (false, 1) ∧ byteTy Tryd.prog 32 = false ∧ Program.concrete Tryd.prog 32 = true ∧ strTy Tryd.prog 32 = false ∧ nilKind Tryd.prog 32 = 1 := by and_intros <;> kernel_rfl
@[go_sem] theorem zt34 : ztree Tryd.prog 34 = some (.agg [(.lit (.int .i64 0)), (.lit (.int .i64 0)), .nils, (.agg ((List.replicate 32 (0 : UInt8)).map byteAV))]) := by kernel_rfl
@[go_sem] theorem tq34 : tyInfo Tryd.prog 34 = some (true, 35) ∧ byteTy Tryd.prog 34 = false ∧ Program.concrete Tryd.prog 34 = true ∧ strTy Tryd.prog 34 = false ∧ splaces Tryd.prog 34 = some [(0, 1), (1, 1), (2, 1), (3, 32)] ∧ fieldOff Tryd.prog 34 0 = some 0 ∧ fieldOff Tryd.prog 34 1 = some 1 ∧ fieldOff Tryd.prog 34 2 = some 2 ∧ fieldOff Tryd.prog 34 3 = some 3 := by and_intros <;> kernel_rfl
@[go_sem] theorem it35 : intTy Tryd.prog 35 = some .i64 := by kernel_rfl
@[go_sem] theorem zt35 : ztree Tryd.prog 35 = some (.lit (.int .i64 0)) := by kernel_rfl
@[go_sem] theorem tq35 : tyInfo Tryd.prog 35 = some (false, 1) ∧ byteTy Tryd.prog 35 = false ∧ Program.concrete Tryd.prog 35 = true ∧ strTy Tryd.prog 35 = false := by and_intros <;> kernel_rfl
@[go_sem] theorem eq39 : eqTop Tryd.prog 39 = some (.agg [.int, (.bytes 32)]) := by kernel_rfl
@[go_sem] theorem zt39 : ztree Tryd.prog 39 = some (.agg [(.lit (.int .i64 0)), (.agg ((List.replicate 32 (0 : UInt8)).map byteAV))]) := by kernel_rfl
@[go_sem] theorem tq39 : tyInfo Tryd.prog 39 = some (true, 33) ∧ byteTy Tryd.prog 39 = false ∧ Program.concrete Tryd.prog 39 = true ∧ strTy Tryd.prog 39 = false ∧ splaces Tryd.prog 39 = some [(0, 1), (1, 32)] ∧ fieldOff Tryd.prog 39 0 = some 0 ∧ fieldOff Tryd.prog 39 1 = some 1 := by and_intros <;> kernel_rfl
@[go_sem] theorem zt49 : ztree Tryd.prog 49 = some (.agg [(.lit (.int .i64 0)), (.lit (.int .i64 0)), .nils]) := by kernel_rfl
@[go_sem] theorem tq49 : tyInfo Tryd.prog 49 = some (true, 3) ∧ byteTy Tryd.prog 49 = false ∧ Program.concrete Tryd.prog 49 = true ∧ strTy Tryd.prog 49 = false ∧ splaces Tryd.prog 49 = some [(0, 1), (1, 1), (2, 1)] ∧ fieldOff Tryd.prog 49 0 = some 0 ∧ fieldOff Tryd.prog 49 1 = some 1 ∧ fieldOff Tryd.prog 49 2 = some 2 := by and_intros <;> kernel_rfl
@[go_sem] theorem it52 : intTy Tryd.prog 52 = some .u64 := by kernel_rfl
@[go_sem] theorem zt52 : ztree Tryd.prog 52 = some (.lit (.int .u64 0)) := by kernel_rfl
@[go_sem] theorem tq52 : tyInfo Tryd.prog 52 = some (false, 1) ∧ byteTy Tryd.prog 52 = false ∧ Program.concrete Tryd.prog 52 = true ∧ strTy Tryd.prog 52 = false := by and_intros <;> kernel_rfl
@[go_sem] theorem eq54 : eqTop Tryd.prog 54 = some (.agg [.int, .int, .int, .int, .str, .int]) := by kernel_rfl
@[go_sem] theorem zt54 : ztree Tryd.prog 54 = some (.agg [(.lit (.int .i64 0)), (.lit (.int .u64 0)), (.lit (.int .i64 0)), (.lit (.int .i64 0)), (.lit (.string ByteArray.empty)), (.lit (.int .i64 0))]) := by kernel_rfl
@[go_sem] theorem tq54 : tyInfo Tryd.prog 54 = some (true, 6) ∧ byteTy Tryd.prog 54 = false ∧ Program.concrete Tryd.prog 54 = true ∧ strTy Tryd.prog 54 = false ∧ splaces Tryd.prog 54 = some [(0, 1), (1, 1), (2, 1), (3, 1), (4, 1), (5, 1)] ∧ fieldOff Tryd.prog 54 0 = some 0 ∧ fieldOff Tryd.prog 54 1 = some 1 ∧ fieldOff Tryd.prog 54 2 = some 2 ∧ fieldOff Tryd.prog 54 3 = some 3 ∧ fieldOff Tryd.prog 54 4 = some 4 ∧ fieldOff Tryd.prog 54 5 = some 5 := by and_intros <;> kernel_rfl
@[go_sem] theorem sl55 : sliceTy Tryd.prog 55 = some 5 := by kernel_rfl
@[go_sem] theorem si55 : sliceInfo Tryd.prog 55 = some (5, 1, 1, (.lit (.int .u8 0))) := by kernel_rfl
@[go_sem] theorem zt55 : ztree Tryd.prog 55 = some .nils := by kernel_rfl
@[go_sem] theorem tq55 : tyInfo Tryd.prog 55 = some (false, 1) ∧ byteTy Tryd.prog 55 = false ∧ Program.concrete Tryd.prog 55 = true ∧ strTy Tryd.prog 55 = false ∧ nilKind Tryd.prog 55 = 1 := by and_intros <;> kernel_rfl
@[go_sem] theorem zt57 : ztree Tryd.prog 57 = some (.agg [(.lit (.bool false)), (.agg [(.lit (.int .i64 0)), (.lit (.int .u64 0)), (.lit (.int .i64 0)), (.lit (.int .i64 0)), (.lit (.string ByteArray.empty)), (.lit (.int .i64 0))]), (.lit (.int .i64 0)), .nils, .nils]) := by kernel_rfl
@[go_sem] theorem tq57 : tyInfo Tryd.prog 57 = some (true, 10) ∧ byteTy Tryd.prog 57 = false ∧ Program.concrete Tryd.prog 57 = true ∧ strTy Tryd.prog 57 = false ∧ splaces Tryd.prog 57 = some [(0, 1), (1, 6), (7, 1), (8, 1), (9, 1)] ∧ fieldOff Tryd.prog 57 0 = some 0 ∧ fieldOff Tryd.prog 57 1 = some 1 ∧ fieldOff Tryd.prog 57 2 = some 7 ∧ fieldOff Tryd.prog 57 3 = some 8 ∧ fieldOff Tryd.prog 57 4 = some 9 := by and_intros <;> kernel_rfl
@[go_sem] theorem eq61 : eqTop Tryd.prog 61 = some (.agg [.int, .int]) := by kernel_rfl
@[go_sem] theorem zt61 : ztree Tryd.prog 61 = some (.agg [(.lit (.int .i64 0)), (.lit (.int .i64 0))]) := by kernel_rfl
@[go_sem] theorem tq61 : tyInfo Tryd.prog 61 = some (true, 2) ∧ byteTy Tryd.prog 61 = false ∧ Program.concrete Tryd.prog 61 = true ∧ strTy Tryd.prog 61 = false ∧ splaces Tryd.prog 61 = some [(0, 1), (1, 1)] ∧ fieldOff Tryd.prog 61 0 = some 0 ∧ fieldOff Tryd.prog 61 1 = some 1 := by and_intros <;> kernel_rfl
@[go_sem] theorem sl62 : sliceTy Tryd.prog 62 = some 83 := by kernel_rfl
@[go_sem] theorem si62 : sliceInfo Tryd.prog 62 = some (83, 2, 24, (.agg [(.lit (.string ByteArray.empty)), (.lit (.int .i64 0))])) := by kernel_rfl
@[go_sem] theorem zt62 : ztree Tryd.prog 62 = some .nils := by kernel_rfl
@[go_sem] theorem tq62 : tyInfo Tryd.prog 62 = some (false, 1) ∧ byteTy Tryd.prog 62 = false ∧ Program.concrete Tryd.prog 62 = true ∧ strTy Tryd.prog 62 = false ∧ nilKind Tryd.prog 62 = 1 := by and_intros <;> kernel_rfl
@[go_sem] theorem zt64 : ztree Tryd.prog 64 = some (.agg [(.lit (.int .i64 0)), (.agg ((List.replicate 32 (0 : UInt8)).map byteAV)), .nils]) := by kernel_rfl
@[go_sem] theorem tq64 : tyInfo Tryd.prog 64 = some (true, 34) ∧ byteTy Tryd.prog 64 = false ∧ Program.concrete Tryd.prog 64 = true ∧ strTy Tryd.prog 64 = false ∧ splaces Tryd.prog 64 = some [(0, 1), (1, 32), (33, 1)] ∧ fieldOff Tryd.prog 64 0 = some 0 ∧ fieldOff Tryd.prog 64 1 = some 1 ∧ fieldOff Tryd.prog 64 2 = some 33 := by and_intros <;> kernel_rfl
@[go_sem] theorem zt68 : ztree Tryd.prog 68 = some (.agg [(.lit (.int .i64 0)), (.agg ((List.replicate 32 (0 : UInt8)).map byteAV)), .nils]) := by kernel_rfl
@[go_sem] theorem tq68 : tyInfo Tryd.prog 68 = some (true, 34) ∧ byteTy Tryd.prog 68 = false ∧ Program.concrete Tryd.prog 68 = true ∧ strTy Tryd.prog 68 = false ∧ splaces Tryd.prog 68 = some [(0, 1), (1, 32), (33, 1)] ∧ fieldOff Tryd.prog 68 0 = some 0 ∧ fieldOff Tryd.prog 68 1 = some 1 ∧ fieldOff Tryd.prog 68 2 = some 33 := by and_intros <;> kernel_rfl
@[go_sem] theorem sl77 : sliceTy Tryd.prog 77 = some 55 := by kernel_rfl
@[go_sem] theorem si77 : sliceInfo Tryd.prog 77 = some (55, 1, 24, .nils) := by kernel_rfl
@[go_sem] theorem zt77 : ztree Tryd.prog 77 = some .nils := by kernel_rfl
@[go_sem] theorem tq77 : tyInfo Tryd.prog 77 = some (false, 1) ∧ byteTy Tryd.prog 77 = false ∧ Program.concrete Tryd.prog 77 = true ∧ strTy Tryd.prog 77 = false ∧ nilKind Tryd.prog 77 = 1 := by and_intros <;> kernel_rfl
@[go_sem] theorem eq83 : eqTop Tryd.prog 83 = some (.agg [.str, .int]) := by kernel_rfl
@[go_sem] theorem zt83 : ztree Tryd.prog 83 = some (.agg [(.lit (.string ByteArray.empty)), (.lit (.int .i64 0))]) := by kernel_rfl
@[go_sem] theorem tq83 : tyInfo Tryd.prog 83 = some (true, 2) ∧ byteTy Tryd.prog 83 = false ∧ Program.concrete Tryd.prog 83 = true ∧ strTy Tryd.prog 83 = false ∧ splaces Tryd.prog 83 = some [(0, 1), (1, 1)] ∧ fieldOff Tryd.prog 83 0 = some 0 ∧ fieldOff Tryd.prog 83 1 = some 1 := by and_intros <;> kernel_rfl
@[go_sem] theorem sl84 : sliceTy Tryd.prog 84 = some 54 := by kernel_rfl
@[go_sem] theorem si84 : sliceInfo Tryd.prog 84 = some (54, 6, 56, (.agg [(.lit (.int .i64 0)), (.lit (.int .u64 0)), (.lit (.int .i64 0)), (.lit (.int .i64 0)), (.lit (.string ByteArray.empty)), (.lit (.int .i64 0))])) := by kernel_rfl
@[go_sem] theorem zt84 : ztree Tryd.prog 84 = some .nils := by kernel_rfl
@[go_sem] theorem tq84 : tyInfo Tryd.prog 84 = some (false, 1) ∧ byteTy Tryd.prog 84 = false ∧ Program.concrete Tryd.prog 84 = true ∧ strTy Tryd.prog 84 = false ∧ nilKind Tryd.prog 84 = 1 := by and_intros <;> kernel_rfl
@[go_sem] theorem zt86 : ztree Tryd.prog 86 = some (.agg [.nils, .nils, (.agg ((List.replicate 32 (0 : UInt8)).map byteAV))]) := by kernel_rfl
@[go_sem] theorem tq86 : tyInfo Tryd.prog 86 = some (true, 34) ∧ byteTy Tryd.prog 86 = false ∧ Program.concrete Tryd.prog 86 = true ∧ strTy Tryd.prog 86 = false ∧ splaces Tryd.prog 86 = some [(0, 1), (1, 1), (2, 32)] ∧ fieldOff Tryd.prog 86 0 = some 0 ∧ fieldOff Tryd.prog 86 1 = some 1 ∧ fieldOff Tryd.prog 86 2 = some 2 := by and_intros <;> kernel_rfl
@[go_sem] theorem zt91 : ztree Tryd.prog 91 = some (.agg [.nils, (.lit (.int .i64 0))]) := by kernel_rfl
@[go_sem] theorem tq91 : tyInfo Tryd.prog 91 = some (true, 2) ∧ byteTy Tryd.prog 91 = false ∧ Program.concrete Tryd.prog 91 = true ∧ strTy Tryd.prog 91 = false ∧ splaces Tryd.prog 91 = some [(0, 1), (1, 1)] ∧ fieldOff Tryd.prog 91 0 = some 0 ∧ fieldOff Tryd.prog 91 1 = some 1 := by and_intros <;> kernel_rfl
@[go_sem] theorem zt96 : ztree Tryd.prog 96 = some (.lit (.pointer none)) := by kernel_rfl
@[go_sem] theorem tq96 : tyInfo Tryd.prog 96 = some (false, 1) ∧ byteTy Tryd.prog 96 = false ∧ Program.concrete Tryd.prog 96 = true ∧ strTy Tryd.prog 96 = false ∧ nilKind Tryd.prog 96 = 2 := by and_intros <;> kernel_rfl
@[go_sem] theorem zt97 : ztree Tryd.prog 97 = some (.lit .nilFunc) := by kernel_rfl
@[go_sem] theorem tq97 : tyInfo Tryd.prog 97 = some (false, 1) ∧ byteTy Tryd.prog 97 = false ∧ Program.concrete Tryd.prog 97 = true ∧ strTy Tryd.prog 97 = false ∧ nilKind Tryd.prog 97 = 3 := by and_intros <;> kernel_rfl
@[go_sem] theorem zt98 : ztree Tryd.prog 98 = some (.lit .nilFunc) := by kernel_rfl
@[go_sem] theorem tq98 : tyInfo Tryd.prog 98 = some (false, 1) ∧ byteTy Tryd.prog 98 = false ∧ Program.concrete Tryd.prog 98 = true ∧ strTy Tryd.prog 98 = false ∧ nilKind Tryd.prog 98 = 3 := by and_intros <;> kernel_rfl
@[go_sem] theorem zt100 : ztree Tryd.prog 100 = some (.lit .nilFunc) := by kernel_rfl
@[go_sem] theorem tq100 : tyInfo Tryd.prog 100 = some (false, 1) ∧ byteTy Tryd.prog 100 = false ∧ Program.concrete Tryd.prog 100 = true ∧ strTy Tryd.prog 100 = false ∧ nilKind Tryd.prog 100 = 3 := by and_intros <;> kernel_rfl
@[go_sem] theorem zt102 : ztree Tryd.prog 102 = some (.agg [(.agg ((List.replicate 32 (0 : UInt8)).map byteAV)), .nils, (.agg ((List.replicate 32 (0 : UInt8)).map byteAV))]) := by kernel_rfl
@[go_sem] theorem tq102 : tyInfo Tryd.prog 102 = some (true, 65) ∧ byteTy Tryd.prog 102 = false ∧ Program.concrete Tryd.prog 102 = true ∧ strTy Tryd.prog 102 = false ∧ splaces Tryd.prog 102 = some [(0, 32), (32, 1), (33, 32)] ∧ fieldOff Tryd.prog 102 0 = some 0 ∧ fieldOff Tryd.prog 102 1 = some 32 ∧ fieldOff Tryd.prog 102 2 = some 33 := by and_intros <;> kernel_rfl
@[go_sem] theorem zt103 : ztree Tryd.prog 103 = some (.lit .nilFunc) := by kernel_rfl
@[go_sem] theorem tq103 : tyInfo Tryd.prog 103 = some (false, 1) ∧ byteTy Tryd.prog 103 = false ∧ Program.concrete Tryd.prog 103 = true ∧ strTy Tryd.prog 103 = false ∧ nilKind Tryd.prog 103 = 3 := by and_intros <;> kernel_rfl
@[go_sem] theorem zt105 : ztree Tryd.prog 105 = some (.agg [(.agg ((List.replicate 32 (0 : UInt8)).map byteAV)), (.lit (.int .i64 0)), .nils, .nils]) := by kernel_rfl
@[go_sem] theorem tq105 : tyInfo Tryd.prog 105 = some (true, 35) ∧ byteTy Tryd.prog 105 = false ∧ Program.concrete Tryd.prog 105 = true ∧ strTy Tryd.prog 105 = false ∧ splaces Tryd.prog 105 = some [(0, 32), (32, 1), (33, 1), (34, 1)] ∧ fieldOff Tryd.prog 105 0 = some 0 ∧ fieldOff Tryd.prog 105 1 = some 32 ∧ fieldOff Tryd.prog 105 2 = some 33 ∧ fieldOff Tryd.prog 105 3 = some 34 := by and_intros <;> kernel_rfl
@[go_sem] theorem zt109 : ztree Tryd.prog 109 = some (.lit .nilFunc) := by kernel_rfl
@[go_sem] theorem tq109 : tyInfo Tryd.prog 109 = some (false, 1) ∧ byteTy Tryd.prog 109 = false ∧ Program.concrete Tryd.prog 109 = true ∧ strTy Tryd.prog 109 = false ∧ nilKind Tryd.prog 109 = 3 := by and_intros <;> kernel_rfl
@[go_sem] theorem zt115 : ztree Tryd.prog 115 = some (.lit .nilFunc) := by kernel_rfl
@[go_sem] theorem tq115 : tyInfo Tryd.prog 115 = some (false, 1) ∧ byteTy Tryd.prog 115 = false ∧ Program.concrete Tryd.prog 115 = true ∧ strTy Tryd.prog 115 = false ∧ nilKind Tryd.prog 115 = 3 := by and_intros <;> kernel_rfl
@[go_sem] theorem zt121 : ztree Tryd.prog 121 = some (.lit .nilFunc) := by kernel_rfl
@[go_sem] theorem tq121 : tyInfo Tryd.prog 121 = some (false, 1) ∧ byteTy Tryd.prog 121 = false ∧ Program.concrete Tryd.prog 121 = true ∧ strTy Tryd.prog 121 = false ∧ nilKind Tryd.prog 121 = 3 := by and_intros <;> kernel_rfl
@[go_sem] theorem zt122 : ztree Tryd.prog 122 = some (.lit .nilFunc) := by kernel_rfl
@[go_sem] theorem tq122 : tyInfo Tryd.prog 122 = some (false, 1) ∧ byteTy Tryd.prog 122 = false ∧ Program.concrete Tryd.prog 122 = true ∧ strTy Tryd.prog 122 = false ∧ nilKind Tryd.prog 122 = 3 := by and_intros <;> kernel_rfl
@[go_sem] theorem zt123 : ztree Tryd.prog 123 = some (.lit (.pointer none)) := by kernel_rfl
@[go_sem] theorem tq123 : tyInfo Tryd.prog 123 = some (false, 1) ∧ byteTy Tryd.prog 123 = false ∧ Program.concrete Tryd.prog 123 = true ∧ strTy Tryd.prog 123 = false ∧ nilKind Tryd.prog 123 = 2 := by and_intros <;> kernel_rfl
@[go_sem] theorem zt125 : ztree Tryd.prog 125 = some (.agg [.nils, (.lit (.int .i64 0)), (.lit (.int .i64 0))]) := by kernel_rfl
@[go_sem] theorem tq125 : tyInfo Tryd.prog 125 = some (true, 3) ∧ byteTy Tryd.prog 125 = false ∧ Program.concrete Tryd.prog 125 = true ∧ strTy Tryd.prog 125 = false ∧ splaces Tryd.prog 125 = some [(0, 1), (1, 1), (2, 1)] ∧ fieldOff Tryd.prog 125 0 = some 0 ∧ fieldOff Tryd.prog 125 1 = some 1 ∧ fieldOff Tryd.prog 125 2 = some 2 := by and_intros <;> kernel_rfl
@[go_sem] theorem zt127 : ztree Tryd.prog 127 = some (.lit .nilFunc) := by kernel_rfl
@[go_sem] theorem tq127 : tyInfo Tryd.prog 127 = some (false, 1) ∧ byteTy Tryd.prog 127 = false ∧ Program.concrete Tryd.prog 127 = true ∧ strTy Tryd.prog 127 = false ∧ nilKind Tryd.prog 127 = 3 := by and_intros <;> kernel_rfl
@[go_sem] theorem zt140 : ztree Tryd.prog 140 = some (.agg [(.agg [(.lit (.bool false)), (.agg ((List.replicate 32 (0 : UInt8)).map byteAV)), (.lit (.int .i64 0)), .nils, .nils]), (.lit (.int .i64 0))]) := by kernel_rfl
@[go_sem] theorem tq140 : tyInfo Tryd.prog 140 = some (true, 37) ∧ byteTy Tryd.prog 140 = false ∧ Program.concrete Tryd.prog 140 = true ∧ strTy Tryd.prog 140 = false ∧ splaces Tryd.prog 140 = some [(0, 36), (36, 1)] ∧ fieldOff Tryd.prog 140 0 = some 0 ∧ fieldOff Tryd.prog 140 1 = some 36 := by and_intros <;> kernel_rfl
@[go_sem] theorem sl147 : sliceTy Tryd.prog 147 = some 9 := by kernel_rfl
@[go_sem] theorem si147 : sliceInfo Tryd.prog 147 = some (9, 1, 16, (.lit (.string ByteArray.empty))) := by kernel_rfl
@[go_sem] theorem zt147 : ztree Tryd.prog 147 = some .nils := by kernel_rfl
@[go_sem] theorem tq147 : tyInfo Tryd.prog 147 = some (false, 1) ∧ byteTy Tryd.prog 147 = false ∧ Program.concrete Tryd.prog 147 = true ∧ strTy Tryd.prog 147 = false ∧ nilKind Tryd.prog 147 = 1 := by and_intros <;> kernel_rfl
@[go_sem] theorem zt150 : ztree Tryd.prog 150 = some (.lit .nilFunc) := by kernel_rfl
@[go_sem] theorem tq150 : tyInfo Tryd.prog 150 = some (false, 1) ∧ byteTy Tryd.prog 150 = false ∧ Program.concrete Tryd.prog 150 = true ∧ strTy Tryd.prog 150 = false ∧ nilKind Tryd.prog 150 = 3 := by and_intros <;> kernel_rfl
@[go_sem] theorem it151 : intTy Tryd.prog 151 = some .u64 := by kernel_rfl
@[go_sem] theorem zt151 : ztree Tryd.prog 151 = some (.lit (.int .u64 0)) := by kernel_rfl
@[go_sem] theorem tq151 : tyInfo Tryd.prog 151 = some (false, 1) ∧ byteTy Tryd.prog 151 = false ∧ Program.concrete Tryd.prog 151 = true ∧ strTy Tryd.prog 151 = false := by and_intros <;> kernel_rfl
@[go_sem] theorem eq156 : eqTop Tryd.prog 156 = some (.agg []) := by kernel_rfl
@[go_sem] theorem zt156 : ztree Tryd.prog 156 = some (.agg []) := by kernel_rfl
@[go_sem] theorem tq156 : tyInfo Tryd.prog 156 = some (true, 0) ∧ byteTy Tryd.prog 156 = false ∧ Program.concrete Tryd.prog 156 = true ∧ strTy Tryd.prog 156 = false ∧ splaces Tryd.prog 156 = some [] := by and_intros <;> kernel_rfl
@[go_sem] theorem pa162 : ptrArr Tryd.prog 162 = some (8, 3, 1) := by kernel_rfl
@[go_sem] theorem ar162 : arrInfo Tryd.prog 162 = some (8, 3, 1) := by kernel_rfl
@[go_sem] theorem sp162 : splaces Tryd.prog 162 = none := by kernel_rfl
@[go_sem] theorem zt162 : ztree Tryd.prog 162 = some (.agg (List.replicate 8 (.lit (.int .i64 0)))) := by kernel_rfl
@[go_sem] theorem tq162 : tyInfo Tryd.prog 162 = some (true, 8) ∧ byteTy Tryd.prog 162 = false ∧ Program.concrete Tryd.prog 162 = true ∧ strTy Tryd.prog 162 = false := by and_intros <;> kernel_rfl
@[go_sem] theorem pa169 : ptrArr Tryd.prog 169 = some (2, 55, 1) := by kernel_rfl
@[go_sem] theorem ar169 : arrInfo Tryd.prog 169 = some (2, 55, 1) := by kernel_rfl
@[go_sem] theorem sp169 : splaces Tryd.prog 169 = none := by kernel_rfl
@[go_sem] theorem zt169 : ztree Tryd.prog 169 = some (.agg (List.replicate 2 .nils)) := by kernel_rfl
@[go_sem] theorem tq169 : tyInfo Tryd.prog 169 = some (true, 2) ∧ byteTy Tryd.prog 169 = false ∧ Program.concrete Tryd.prog 169 = true ∧ strTy Tryd.prog 169 = false := by and_intros <;> kernel_rfl
@[go_sem] theorem zt173 : ztree Tryd.prog 173 = some (.lit .nilFunc) := by kernel_rfl
@[go_sem] theorem tq173 : tyInfo Tryd.prog 173 = some (false, 1) ∧ byteTy Tryd.prog 173 = false ∧ Program.concrete Tryd.prog 173 = true ∧ strTy Tryd.prog 173 = false ∧ nilKind Tryd.prog 173 = 3 := by and_intros <;> kernel_rfl
@[go_sem] theorem zt174 : ztree Tryd.prog 174 = some (.lit .nilFunc) := by kernel_rfl
@[go_sem] theorem tq174 : tyInfo Tryd.prog 174 = some (false, 1) ∧ byteTy Tryd.prog 174 = false ∧ Program.concrete Tryd.prog 174 = true ∧ strTy Tryd.prog 174 = false ∧ nilKind Tryd.prog 174 = 3 := by and_intros <;> kernel_rfl
@[go_sem] theorem zt175 : ztree Tryd.prog 175 = some (.lit .nilFunc) := by kernel_rfl
@[go_sem] theorem tq175 : tyInfo Tryd.prog 175 = some (false, 1) ∧ byteTy Tryd.prog 175 = false ∧ Program.concrete Tryd.prog 175 = true ∧ strTy Tryd.prog 175 = false ∧ nilKind Tryd.prog 175 = 3 := by and_intros <;> kernel_rfl
@[go_sem] theorem it177 : intTy Tryd.prog 177 = some .u32 := by kernel_rfl
@[go_sem] theorem zt177 : ztree Tryd.prog 177 = some (.lit (.int .u32 0)) := by kernel_rfl
@[go_sem] theorem tq177 : tyInfo Tryd.prog 177 = some (false, 1) ∧ byteTy Tryd.prog 177 = false ∧ Program.concrete Tryd.prog 177 = true ∧ strTy Tryd.prog 177 = false := by and_intros <;> kernel_rfl
@[go_sem] theorem pa178 : ptrArr Tryd.prog 178 = some (8, 177, 1) := by kernel_rfl
@[go_sem] theorem ar178 : arrInfo Tryd.prog 178 = some (8, 177, 1) := by kernel_rfl
@[go_sem] theorem sp178 : splaces Tryd.prog 178 = none := by kernel_rfl
@[go_sem] theorem zt178 : ztree Tryd.prog 178 = some (.agg (List.replicate 8 (.lit (.int .u32 0)))) := by kernel_rfl
@[go_sem] theorem tq178 : tyInfo Tryd.prog 178 = some (true, 8) ∧ byteTy Tryd.prog 178 = false ∧ Program.concrete Tryd.prog 178 = true ∧ strTy Tryd.prog 178 = false := by and_intros <;> kernel_rfl
@[go_sem] theorem zt182 : ztree Tryd.prog 182 = some (.lit .nilFunc) := by kernel_rfl
@[go_sem] theorem tq182 : tyInfo Tryd.prog 182 = some (false, 1) ∧ byteTy Tryd.prog 182 = false ∧ Program.concrete Tryd.prog 182 = true ∧ strTy Tryd.prog 182 = false ∧ nilKind Tryd.prog 182 = 3 := by and_intros <;> kernel_rfl
@[go_sem] theorem zt185 : ztree Tryd.prog 185 = some (.agg [(.agg (List.replicate 8 (.lit (.int .u32 0)))), .nils, (.lit (.int .i64 0))]) := by kernel_rfl
@[go_sem] theorem tq185 : tyInfo Tryd.prog 185 = some (true, 10) ∧ byteTy Tryd.prog 185 = false ∧ Program.concrete Tryd.prog 185 = true ∧ strTy Tryd.prog 185 = false ∧ splaces Tryd.prog 185 = some [(0, 8), (8, 1), (9, 1)] ∧ fieldOff Tryd.prog 185 0 = some 0 ∧ fieldOff Tryd.prog 185 1 = some 8 ∧ fieldOff Tryd.prog 185 2 = some 9 := by and_intros <;> kernel_rfl
@[go_sem] theorem zt190 : ztree Tryd.prog 190 = some (.lit .nilFunc) := by kernel_rfl
@[go_sem] theorem tq190 : tyInfo Tryd.prog 190 = some (false, 1) ∧ byteTy Tryd.prog 190 = false ∧ Program.concrete Tryd.prog 190 = true ∧ strTy Tryd.prog 190 = false ∧ nilKind Tryd.prog 190 = 3 := by and_intros <;> kernel_rfl
@[go_sem] theorem pa191 : ptrArr Tryd.prog 191 = some (64, 177, 1) := by kernel_rfl
@[go_sem] theorem ar191 : arrInfo Tryd.prog 191 = some (64, 177, 1) := by kernel_rfl
@[go_sem] theorem sp191 : splaces Tryd.prog 191 = none := by kernel_rfl
@[go_sem] theorem zt191 : ztree Tryd.prog 191 = some (.agg (List.replicate 64 (.lit (.int .u32 0)))) := by kernel_rfl
@[go_sem] theorem tq191 : tyInfo Tryd.prog 191 = some (true, 64) ∧ byteTy Tryd.prog 191 = false ∧ Program.concrete Tryd.prog 191 = true ∧ strTy Tryd.prog 191 = false := by and_intros <;> kernel_rfl
end Go.Proofs.YtdmjpolnbmoehaaDoor

namespace Go.Proofs.YtdmjpolnbmoehaaDoor
open Go.Ab
attribute [local irreducible] Go.Ab.tyAV Go.Ab.aw Go.Ab.aops Go.Ab.kReg Go.Ab.aThen Go.Ab.aBlk Go.Ab.acond Go.Ab.aguard Go.Ab.astep Go.Ab.AStepX Go.Ab.aRet
structure W32 where
 cv : Int → Int
 shw : Nat → Int → Int
 o32 : Int → Int → Int
 x32 : Int → Int → Int
 n32 : Int → Int → Int
 rotr : Int → Nat → Int
 cv_h : ∀ x, IntKind.u32.wrap x = cv x
 shw_h : ∀ n x, IntKind.u32.wrap (x * 2 ^ n) = shw n x
 o32_h : ∀ a b, bits .or .u32 a b = o32 a b
 x32_h : ∀ a b, bits .xor .u32 a b = x32 a b
 n32_h : ∀ a b, bits .and .u32 a b = n32 a b
 rotr_h : ∀ x n, bits .or .u32 (IntKind.u32.wrap (x * 2 ^ (32 - n))) (x.fdiv (2 ^ n)) = rotr x n
attribute [class] W32
@[reducible] def w32 : W32 where
 cv x := IntKind.u32.wrap x
 shw n x := IntKind.u32.wrap (x * 2 ^ n)
 o32 a b := bits .or .u32 a b
 x32 a b := bits .xor .u32 a b
 n32 a b := bits .and .u32 a b
 rotr x n := bits .or .u32 (IntKind.u32.wrap (x * 2 ^ (32 - n))) (x.fdiv (2 ^ n))
 cv_h _ := rfl
 shw_h _ _ := rfl
 o32_h _ _ := rfl
 x32_h _ _ := rfl
 n32_h _ _ := rfl
 rotr_h _ _ := rfl
def rot0 (x : Int) (n : Nat) : Int := bits .or .u32 (IntKind.u32.wrap (x * 2 ^ (32 - n))) (x.fdiv (2 ^ n))
theorem or32_comm (a b : Int) : bits .or .u32 a b = bits .or .u32 b a := by simp [bits, BitVec.or_comm]
theorem rot_and : (bits .and .u64 18446744073709551614 31 = 30) ∧ (bits .and .u64 18446744073709551610 31 = 26) ∧ (bits .and .u64 18446744073709551609 31 = 25) ∧ (bits .and .u64 18446744073709551605 31 = 21) ∧ (bits .and .u64 18446744073709551603 31 = 19) ∧ (bits .and .u64 18446744073709551599 31 = 15) ∧ (bits .and .u64 18446744073709551598 31 = 14) ∧ (bits .and .u64 18446744073709551597 31 = 13) ∧ (bits .and .u64 18446744073709551594 31 = 10) ∧ (bits .and .u64 18446744073709551591 31 = 7) := by decide
theorem left_spec32 (x : Int) (n : Nat) (hn : n = 2 ∨ n = 6 ∨ n = 7 ∨ n = 11 ∨ n = 13 ∨ n = 17 ∨ n = 18 ∨ n = 19 ∨ n = 22 ∨ n = 25) (k : Nat) :
  ACall Tryd.prog 143 [.lit (.int .u32 x), .lit (.int .i64 (-(n : Int)))] k [] (.lit (.int .u32 (rot0 x n))) [] := by
 obtain ⟨r1, r2, r3, r4, r5, r6, r7, r8, r9, r10⟩ := rot_and
 unfold rot0
 rcases hn with rfl | rfl | rfl | rfl | rfl | rfl | rfl | rfl | rfl | rfl
 all_goals (
  simp only [Nat.reduceSub, Int.reducePow]
  refine Bd Tryd.func143 Tryd.ntmps143 fun σ N hp hpn hk hkn hfree => ?_
  exact W0)
theorem rot_spec0 (x : Int) (n : Nat) (hn : n = 2 ∨ n = 6 ∨ n = 7 ∨ n = 11 ∨ n = 13 ∨ n = 17 ∨ n = 18 ∨ n = 19 ∨ n = 22 ∨ n = 25) (k : Nat) :
  ACall Tryd.prog 142 [.lit (.int .u32 x), .lit (.int .i64 n)] k [] (.lit (.int .u32 (rot0 x n))) [] := by
 have c1 := left_spec32 x n hn
 have hw : IntKind.i64.wrap (-(n : Int)) = -(n : Int) := wrap_i64 (by omega) (by omega)
 generalize rot0 x n = r at *
 refine Bd Tryd.func142 Tryd.ntmps142 fun σ N hp hpn hk hkn hfree => ?_
 have hcs := And.intro c1 True.intro
 clear c1
 exact W0
theorem refrot_spec0 (x : Int) (n : Nat) (hn : n = 2 ∨ n = 6 ∨ n = 7 ∨ n = 11 ∨ n = 13 ∨ n = 17 ∨ n = 18 ∨ n = 19 ∨ n = 22 ∨ n = 25) (k : Nat) :
  ACall Tryd.prog 136 [.lit (.int .u32 x), .lit (.int .u64 n)] k [] (.lit (.int .u32 (rot0 x n))) [] := by
 unfold rot0
 rw [or32_comm]
 rcases hn with rfl | rfl | rfl | rfl | rfl | rfl | rfl | rfl | rfl | rfl
 all_goals (
  simp only [Nat.reduceSub, Int.reducePow]
  refine Bd Tryd.func136 Tryd.ntmps136 fun σ N hp hpn hk hkn hfree => ?_
  exact W0)
section
variable [W : W32]
open W32
theorem rot_spec (x : Int) (n : Nat) (hn : n = 2 ∨ n = 6 ∨ n = 7 ∨ n = 11 ∨ n = 13 ∨ n = 17 ∨ n = 18 ∨ n = 19 ∨ n = 22 ∨ n = 25) (k : Nat) :
  ACall Tryd.prog 142 [.lit (.int .u32 x), .lit (.int .i64 n)] k [] (.lit (.int .u32 (W.rotr x n))) [] := by
 rw [← W.rotr_h]; exact rot_spec0 x n hn k
theorem refrot_spec (x : Int) (n : Nat) (hn : n = 2 ∨ n = 6 ∨ n = 7 ∨ n = 11 ∨ n = 13 ∨ n = 17 ∨ n = 18 ∨ n = 19 ∨ n = 22 ∨ n = 25) (k : Nat) :
  ACall Tryd.prog 136 [.lit (.int .u32 x), .lit (.int .u64 n)] k [] (.lit (.int .u32 (W.rotr x n))) [] := by
 rw [← W.rotr_h]; exact refrot_spec0 x n hn k
@[go_sem] theorem cv_eq (x : Int) : IntKind.u32.wrap x = W.cv x := W.cv_h x
@[go_sem] theorem o32_eq (a b : Int) : bits .or .u32 a b = W.o32 a b := W.o32_h a b
@[go_sem] theorem x32_eq (a b : Int) : bits .xor .u32 a b = W.x32 a b := W.x32_h a b
@[go_sem] theorem n32_eq (a b : Int) : bits .and .u32 a b = W.n32 a b := W.n32_h a b
theorem shl32 (P : Program) (t : TypeId) (a : Int) (k : IntKind) (z : Int) (n : Nat) (hz : z = n) (hn : n ≤ 32) : evBin P .shl t (.lit (.int .u32 a)) (.lit (.int k z)) = some ⟨[], .lit (.int .u32 (W.shw n a)), []⟩ := by
 subst hz
 rw [← W.shw_h, evBin]
 have h1 : min n 32 = n := by omega
 simp [litBin, h1, IntKind.bits]
@[go_sem high] theorem shl32_24 (P : Program) (t : TypeId) (a : Int) (k : IntKind) : evBin P .shl t (.lit (.int .u32 a)) (.lit (.int k 24)) = some ⟨[], .lit (.int .u32 (W.shw 24 a)), []⟩ := shl32 P t a k _ _ rfl (by omega)
@[go_sem high] theorem shl32_16 (P : Program) (t : TypeId) (a : Int) (k : IntKind) : evBin P .shl t (.lit (.int .u32 a)) (.lit (.int k 16)) = some ⟨[], .lit (.int .u32 (W.shw 16 a)), []⟩ := shl32 P t a k _ _ rfl (by omega)
@[go_sem high] theorem shl32_8 (P : Program) (t : TypeId) (a : Int) (k : IntKind) : evBin P .shl t (.lit (.int .u32 a)) (.lit (.int k 8)) = some ⟨[], .lit (.int .u32 (W.shw 8 a)), []⟩ := shl32 P t a k _ _ rfl (by omega)
end
end Go.Proofs.YtdmjpolnbmoehaaDoor

namespace Go.Proofs.YtdmjpolnbmoehaaDoor
open Go.Ab
attribute [local irreducible] Go.Ab.tyAV Go.Ab.aw Go.Ab.aops Go.Ab.kReg Go.Ab.aThen Go.Ab.aBlk Go.Ab.acond Go.Ab.aguard Go.Ab.astep Go.Ab.AStepX Go.Ab.aRet
def uAV (x : Int) : AV := .lit (.int .u32 x)
@[go_sem] theorem uAV_un (x : Int) : uAV x = .lit (.int .u32 x) := rfl
def uuAV (L : List Int) : AV := .agg (L.map uAV)
@[go_sem] theorem szl_us (L : List Int) : AV.szl (L.map uAV) = L.length := by
 rw [AV.szl_uniform _ 1 fun x hx => by obtain ⟨b, _, rfl⟩ := List.mem_map.1 hx; rfl]; simp
@[go_sem] theorem szl_take_us (L : List Int) (i : Nat) : AV.szl ((L.map uAV).take i) = min i L.length := by rw [← List.map_take, szl_us, List.length_take]
theorem celll_us (L : List Int) : AV.celll (L.map uAV) = true := by
 rw [AV.celll_all, List.all_eq_true]; intro x hx; obtain ⟨b, _, rfl⟩ := List.mem_map.1 hx; rfl
@[go_sem] theorem uuAV_sz (L : List Int) : (uuAV L).sz = L.length := szl_us L
@[go_sem] theorem uuAV_isAgg (L : List Int) : (uuAV L).isAgg = true := rfl
@[go_sem] theorem uuAV_cell (L : List Int) : (uuAV L).cell = true := celll_us L
@[go_sem] theorem renl_us (f : Nat → Option Nat) (L : List Int) : AV.renl f (L.map uAV) = L.map uAV := by
 rw [AV.renl_map, List.map_map]; rfl
@[go_sem] theorem uuAV_ren (f : Nat → Option Nat) (L : List Int) : (uuAV L).ren f = uuAV L := by
 simp only [uuAV, AV.ren, renl_us]
theorem uu_get (L : List Int) (i : Nat) (h : i < L.length) : (uuAV L).get [i] = some (.lit (.int .u32 L[i])) := by
 simp [uuAV, AV.get, h, uAV]
theorem uu_getD (L : List Int) (i : Nat) (h : i < L.length) : (uuAV L).get [i] = some (.lit (.int .u32 (L.getD i 0))) := by
 rw [uu_get L i h, List.getD_eq_getElem?_getD, List.getElem?_eq_getElem h]; rfl
theorem uu_offs (L : List Int) (i : Nat) (h : i < L.length) : (uuAV L).offs [i] = i := by
 simp only [uuAV, AV.offs, szl_take_us, List.getElem?_map, List.getElem?_eq_getElem h, Option.map_some]
 omega
theorem uu_put (L : List Int) (i : Nat) (z : Int) (h : i < L.length) : (uuAV L).put [i] (.lit (.int .u32 z)) = uuAV (L.set i z) := by
 simp [uuAV, AV.put, h, uAV, List.map_set]
attribute [go_sem] uu_get uu_offs uu_put
@[go_sem] theorem agg_us (L : List Int) : AV.agg (L.map uAV) = uuAV L := by simp only [uuAV]
@[go_sem] theorem agg_rep64 : AV.agg (List.replicate 64 (.lit (.int .u32 0))) = uuAV (List.replicate 64 0) := by
 rw [uuAV, List.map_replicate]; rfl
theorem bget (b : List UInt8) (i : Nat) (h : i < b.length) : b[i] = b.getD i 0 := by
 rw [List.getD_eq_getElem?_getD, List.getElem?_eq_getElem h]; rfl
section
variable [W : W32]
def sg0 (x : Int) : Int := W.x32 (W.x32 (W.rotr x 7) (W.rotr x 18)) (x.fdiv 8)
def sg1 (x : Int) : Int := W.x32 (W.x32 (W.rotr x 17) (W.rotr x 19)) (x.fdiv 1024)
def word (b : List UInt8) (t : Nat) : Int := W.o32 (W.o32 (W.o32 (W.shw 24 (W.cv ((b.getD (4 * t) 0).toNat : Int))) (W.shw 16 (W.cv ((b.getD (4 * t + 1) 0).toNat : Int)))) (W.shw 8 (W.cv ((b.getD (4 * t + 2) 0).toNat : Int)))) (W.cv ((b.getD (4 * t + 3) 0).toNat : Int))
def nextW (L : List Int) (t : Nat) : Int := W.cv (W.cv (W.cv (sg1 (L.getD (t - 2) 0) + L.getD (t - 7) 0) + sg0 (L.getD (t - 15) 0)) + L.getD (t - 16) 0)
def Wd (b : List UInt8) : Nat → List Int
 | 0 => List.replicate 64 0
 | n + 1 => (Wd b n).set n (if n < 16 then word b n else nextW (Wd b n) n)
theorem Wd_len (b : List UInt8) : ∀ n, (Wd b n).length = 64
 | 0 => by simp [Wd]
 | n + 1 => by simp [Wd, Wd_len b n]
theorem Wd_lo (b : List UInt8) (n : Nat) (h : n < 16) : Wd b (n + 1) = (Wd b n).set n (word b n) := by rw [Wd, if_pos h]
theorem Wd_hi (b : List UInt8) (n : Nat) (h : ¬ n < 16) : Wd b (n + 1) = (Wd b n).set n (nextW (Wd b n) n) := by rw [Wd, if_neg h]
theorem word_at {b : List UInt8} {t : Nat} (h : 4 * t + 3 < b.length) {c0 c1 c2 c3 : UInt8} (h0 : b[4 * t] = c0) (h1 : b[4 * t + 1] = c1) (h2 : b[4 * t + 2] = c2) (h3 : b[4 * t + 3] = c3) :
  W.o32 (W.o32 (W.o32 (W.shw 24 (W.cv (c0.toNat : Int))) (W.shw 16 (W.cv (c1.toNat : Int)))) (W.shw 8 (W.cv (c2.toNat : Int)))) (W.cv (c3.toNat : Int)) = word b t := by
 unfold word
 rw [← bget b (4 * t) (by omega), ← bget b (4 * t + 1) (by omega), ← bget b (4 * t + 2) (by omega), ← bget b (4 * t + 3) (by omega), h0, h1, h2, h3]
theorem nextW_at {L : List Int} {t : Nat} (h : t < L.length) (ht : 16 ≤ t) {x2 x7 x15 x16 : Int} (h2 : L[t - 2] = x2) (h7 : L[t - 7] = x7) (h15 : L[t - 15] = x15) (h16 : L[t - 16] = x16) :
  nextW L t = W.cv (W.cv (W.cv (sg1 x2 + x7) + sg0 x15) + x16) := by
 have key : ∀ (i : Nat) (hi : i < L.length), L.getD i 0 = L[i] := fun i hi => by rw [List.getD_eq_getElem?_getD, List.getElem?_eq_getElem hi]; rfl
 unfold nextW
 rw [key (t - 2) (by omega), key (t - 7) (by omega), key (t - 15) (by omega), key (t - 16) (by omega), h2, h7, h15, h16]
attribute [irreducible] Wd word nextW sg0 sg1
set_option maxHeartbeats 1000000 in
theorem schedule_spec (b : List UInt8) (hb : b.length = 64) (R : List Int) (hR : Wd b 64 = R) (k : Nat) :
  ACall Tryd.prog 141 [.slice none (b.map byteAV)] k [] (uuAV R) [] := by
 have hz : List.replicate 64 (0 : Int) = Wd b 0 := by unfold Wd; rfl
 obtain ⟨Z, hZ⟩ : ∃ Z, Wd b 0 = Z := ⟨_, rfl⟩
 have hZl : Z.length = 64 := by rw [← hZ]; exact Wd_len b 0
 rw [hZ] at hz
 refine Bd Tryd.func141 Tryd.ntmps141 fun σ N hp hpn hk hkn hfree => ?_
 refine Wk ?_
 refine go_loopF mixed (by kernel_rfl) (4 :: 5 :: 6 :: 7 :: 8 :: 9 :: 10 :: 11 :: 12 :: 13 :: 14 :: 15 :: 16 :: 17 :: 18 :: 19 :: 20 :: 21 :: 22 :: 23 :: 24 :: 25 :: 26 :: 27 :: 28 :: 29 :: 30 :: 31 :: 32 :: 33 :: 34 :: 35 :: 36 :: 37 :: 38 :: 39 :: 40 :: 41 :: 42 :: 43 :: 44 :: 45 :: 46 :: 47 :: 48 :: 49 :: 50 :: 51 :: 52 :: 53 :: 54 :: 55 :: 56 :: 57 :: 58 :: 59 :: 60 :: 61 :: 62 :: 63 :: 64 :: 65 :: 66 :: 67 :: 68 :: 69 :: 70 :: 71 :: 72 :: 73 :: 74 :: 75 :: 76 :: 77 :: 78 :: 79 :: 80 :: 81 :: 82 :: 83 :: 84 :: 85 :: 86 :: 87 :: 88 :: []) [N+1] (fun m_ s_ σ_ n_ => ∃ (t : Nat) (L : List Int), m_ = 64 - t ∧ s_ 9 = .lit (.int .i64 t) ∧ σ_ (N+1) = .box 191 (uuAV L) ∧ (t ≤ 64) ∧ (Wd b t = L)) ⟨_, 0, Z, rfl, WF, WF, WC, WC⟩ ?_
 intro m_1 s_1 σ_1 n_1 hs_1 hf_1 hn_1 hI_1
 obtain ⟨t, L, hm_1, h1_9, e1_0, ht, hL⟩ := hI_1
 have h1_0 := KS hs_1 0
 have h1_2 := KS hs_1 2
 have h1_3 := KS hs_1 3
 have k1_0 := KE hf_1 (N)
 have hlow := KL (N := N) (σ := σ) hf_1
 have hlen : L.length = 64 := by rw [← hL]; exact Wd_len b t
 by_cases ht64 : t = 64
 ·subst ht64
  rw [hR] at hL
  subst hL
  exact W0
 ·have htl : (t : Int) < 64 := by omega
  by_cases h16 : t < 16
  ·have h16' : (t : Int) < 16 := by omega
   have hw := Wd_lo b t h16
   rw [hL] at hw
   have i0 : (4 * (t : Int)).toNat = 4 * t := by omega
   have i1 : (4 * (t : Int) + 1).toNat = 4 * t + 1 := by omega
   have i2 : (4 * (t : Int) + 2).toNat = 4 * t + 2 := by omega
   have i3 : (4 * (t : Int) + 3).toNat = 4 * t + 3 := by omega
   have hlt0 : 4 * t < b.length := by omega
   have hlt1 : 4 * t + 1 < b.length := by omega
   have hlt2 : 4 * t + 2 < b.length := by omega
   have hlt3 : 4 * t + 3 < b.length := by omega
   obtain ⟨c0, g0⟩ : ∃ c, b[4 * t] = c := ⟨_, rfl⟩
   obtain ⟨c1, g1⟩ : ∃ c, b[4 * t + 1] = c := ⟨_, rfl⟩
   obtain ⟨c2, g2⟩ : ∃ c, b[4 * t + 2] = c := ⟨_, rfl⟩
   obtain ⟨c3, g3⟩ : ∃ c, b[4 * t + 3] = c := ⟨_, rfl⟩
   have hwd := word_at hlt3 g0 g1 g2 g3
   generalize word b t = wt at *
   have e0 : byteAV c0 = .lit (.int .u8 c0.toNat) := rfl
   have e1 : byteAV c1 = .lit (.int .u8 c1.toNat) := rfl
   have e2 : byteAV c2 = .lit (.int .u8 c2.toNat) := rfl
   have e3 : byteAV c3 = .lit (.int .u8 c3.toNat) := rfl
   clear hL hR
   refine Wk ?_
   clear hwd e0 e1 e2 e3 g0 g1 g2 g3 i0 i1 i2 i3
   exact ⟨WS, WG, WN, _, (show 64 - (t + 1) < m_1 by omega), t + 1, L.set t wt, rfl, WF, WF, WC, WC⟩
  ·have h16' : ¬ (t : Int) < 16 := by omega
   have hw := Wd_hi b t h16
   rw [hL] at hw
   have j15 : ((t : Int) - 15).toNat = t - 15 := by omega
   have j2 : ((t : Int) - 2).toNat = t - 2 := by omega
   have j7 : ((t : Int) - 7).toNat = t - 7 := by omega
   have j16 : ((t : Int) - 16).toNat = t - 16 := by omega
   have l15 : t - 15 < L.length := by omega
   have l2 : t - 2 < L.length := by omega
   have l7 : t - 7 < L.length := by omega
   have l16 : t - 16 < L.length := by omega
   obtain ⟨x15, g15⟩ : ∃ x, L[t - 15] = x := ⟨_, rfl⟩
   obtain ⟨x2, g2⟩ : ∃ x, L[t - 2] = x := ⟨_, rfl⟩
   obtain ⟨x7, g7⟩ : ∃ x, L[t - 7] = x := ⟨_, rfl⟩
   obtain ⟨x16, g16⟩ : ∃ x, L[t - 16] = x := ⟨_, rfl⟩
   rw [nextW_at (by omega) (by omega) g2 g7 g15 g16] at hw
   have r1 := rot_spec x15 7 (by omega)
   have r2 := rot_spec x15 18 (by omega)
   have r3 := rot_spec x2 17 (by omega)
   have r4 := rot_spec x2 19 (by omega)
   have s0 : W.x32 (W.x32 (W.rotr x15 7) (W.rotr x15 18)) (x15.fdiv 8) = sg0 x15 := by unfold sg0; rfl
   have s1 : W.x32 (W.x32 (W.rotr x2 17) (W.rotr x2 19)) (x2.fdiv 1024) = sg1 x2 := by unfold sg1; rfl
   have hcs := And.intro r1 (And.intro r2 (And.intro r3 (And.intro r4 True.intro)))
   clear r1 r2 r3 r4 hL hR
   refine Wk ?_
   clear hcs
   exact ⟨WS, WG, WN, _, (show 64 - (t + 1) < m_1 by omega), t + 1, L.set t (W.cv (W.cv (W.cv (sg1 x2 + x7) + sg0 x15) + x16)), rfl, WF, WF, WC, WC⟩
end
end Go.Proofs.YtdmjpolnbmoehaaDoor
