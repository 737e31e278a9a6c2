/- What a loop may begin with: a nil slice is a row of one's own; a reading may say less. A call whose arguments say more than its contract asks. -/
import Derived.Test.YtmhehlfocfhpkaaB3
import Derived.Laws.BitsLemmas
namespace Go.Ab
open Go.RowKit

theorem ALoop.nilrow {P : Program} {N : Nat} {b : Code} {Q : AExit → Cfg → Prop} {s : Slots} {σ : Nat → Ent} {n : Nat} (t : Tmp) (e : TypeId) (size : Nat) (ht : s t = .nils)
    (h : ALoop P N b Q ⟨upd s t (.slice (some n) []), upd σ n (.row e size 0), n + 1⟩) : ALoop P N b Q ⟨s, σ, n⟩ := by
  intro W0 g a w hS
  have hf : σ n = .none := hS.sim.bound n (Nat.le_refl _)
  obtain ⟨g1, hle1, hS1, hrow1, _⟩ := (hS.sim.more (n' := n + 1) (Nat.le_succ n)).addRow (k := n) (e := e) (size := size) (m := 0) (u := .slice none 0 0) (cells := []) hf (Nat.lt_succ_self n) (World.ownsRow_nil w _ e size) rfl (fun b hb => by simp [Value.ownBlock] at hb) (fun b hb => by simp [Value.ownBlock] at hb)
  refine wp_mono (h W0 g1 a w ⟨hS1, hS.size, hS.defers, fun t' => ?_⟩) fun e a' w' hq => hq.mono hle1
  by_cases htt : t' = t
  · subst htt
    have hr := hS.slots t'
    simp only at hr
    rw [ht] at hr
    simp only [upd_same]
    generalize a.tmps.getD t' undef = v at hr
    cases hr
    exact .slice (some n) [] [] none 0 0 rfl (Nat.le_refl _) (by unfold maxLen; omega) (fun i x v h _ => by simp at h) (fun v hv => by simp at hv) (.inl rfl) (fun id hid => by cases hid; exact ⟨_, hrow1, Nat.le_refl _, fun _ => rfl⟩)
  · simp only [upd_ne _ _ _ _ htt]
    exact (hS.slots t').mono hle1

theorem ALoop.less {P : Program} {N : Nat} {b : Code} {Q : AExit → Cfg → Prop} {s : Slots} {σ : Nat → Ent} {n : Nat} (t : Tmp) {x y : AV} (ht : s t = x) (hxy : AV.le x y) (h : ALoop P N b Q ⟨upd s t y, σ, n⟩) : ALoop P N b Q ⟨s, σ, n⟩ := by
  intro W0 g a w hS
  refine h W0 g a w ⟨hS.sim, hS.size, hS.defers, fun t' => ?_⟩
  by_cases htt : t' = t
  · subst htt
    have hr := hS.slots t'
    simp only at hr
    rw [ht] at hr
    simp only [upd_same]
    exact hxy _ _ hr
  · simp only [upd_ne _ _ _ _ htt]
    exact hS.slots t'

section
variable {P : Program} {ops : Array Oper} {m i n : Nat} {T : Trace} {k : Cfg → Trace → Prop} {op : Op} {ty : TypeId} {pos : String} {after : Array Edge} {r : List Oper} {s : Slots} {σ : Nat → Ent} {gd : Option (Nat × Bool)} {d : Option Tmp}
theorem go_cut {N : Nat} {c : Code} {Q : AExit → Cfg → Prop} (ts : List Nat) (h : ∀ s', (∀ t ∈ ts, s' t = s t) → aw P N c Q ⟨s', σ, n⟩) : aw P N c Q ⟨s, σ, n⟩ := h s fun _ _ => rfl
theorem go_guard_off {j g : Nat} {want : Bool} {t : Tmp} (hd : (ops[j]?).bind (·.dst) = some g) (hs : s g = .lit (.bool (!want))) (h2 : aops P ops m r (i + 1) T k ⟨upd s t (.tup []), σ, n⟩) :
    aops P ops m (⟨some t, op, ty, pos, after, some (j, want)⟩ :: r) i T k ⟨s, σ, n⟩ := go_guard_out hd hs rfl h2
theorem AV.le_slice {xs ys : List AV} (o : Option Nat) (h : ALe xs ys) : AV.le (.slice o xs) (.slice none ys) := fun g v hr => by
  obtain ⟨h1, h2⟩ := h.at
  cases hr with
  | slice own _ vs A c size hvl hc hm hr hs hcell hown =>
    rw [h1] at hvl hc hcell ⊢
    exact .slice none ys vs A c size hvl hc hm (fun i y v hy hv => by obtain ⟨x, hx, hxy⟩ := h2 i y hy; exact hxy g v (hr i x v hx hv)) hs hcell (fun id hid => by cases hid)
theorem go_callw {t : Tmp} {x : Operand} {args : Array Operand} {ts : Array TypeId} {f : FuncId} {caps : List AV} {pre post : Foot} {v : AV} {as : List AV} (hc : ACall P f as (m + i) pre v post) (hx : aeval s x = .fn f caps) (hle : ALe (args.toList.map (aeval s) ++ caps) as) (hp : ∀ p ∈ pre, σ p.1 = p.2)
    (h : aops P ops m r (i + 1) (addT i ⟨pre, v, post⟩ T) k ⟨upd s t v, wr σ post, n⟩) : aops P ops m (⟨some t, .call { callee := .value x, args := args, argTypes := ts }, ty, pos, after, none⟩ :: r) i T k ⟨s, σ, n⟩ :=
  go_call hx (hc.weaken hle) hp h
end

@[go_sem] theorem getz (a : AV) (l : List AV) : (a :: l)[0]? = some a := rfl
@[go_sem] theorem byteAV_agg0 (b : UInt8) : (byteAV b).isAgg = false := rfl
theorem i64_and127 (x : Int) (h0 : 0 ≤ x) (h1 : x ≤ 9223372036854775807) : bits .and .i64 x 127 = x % 128 :=
  bits_mask .i64 63 (by decide) (fun n a b => wrap_i64 (by omega) (by omega)) 7 (by decide) x h0 (by omega)
theorem i64_or128 (x : Int) (h0 : 0 ≤ x) (h1 : x < 128) : bits .or .i64 x 128 = x + 128 := by
  have h : bits .or .i64 128 x = 128 + x := bits_join .i64 63 (by decide) (fun n a b => wrap_i64 (by omega) (by omega)) 7 128 x (by decide) (by decide) (by decide) h0 (by omega) (by omega)
  have c : bits .or .i64 x 128 = bits .or .i64 128 x := by simp [bits, BitVec.or_comm]
  rw [c, h]; omega
theorem u8_and127 (x : Int) (h0 : 0 ≤ x) (h1 : x < 256) : bits .and .u8 x 127 = x % 128 := bits_mask .u8 8 (by decide) wraps_u8 7 (by decide) x h0 h1
end Go.Ab
