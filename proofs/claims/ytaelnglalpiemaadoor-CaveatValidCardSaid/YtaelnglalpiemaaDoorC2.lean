/- From a law's contract to what its statement asks of a call; what a slice of bytes or of integers that came in reads as. -/
import Derived.Test.YtaelnglalpiemaaDoorC1
namespace Go.Ab
open Go.RowKit

/-- All that was there, at the call. -/
def g0 (w : World) : Ghost := { G := fun b o => if b < w.heap.size then w.cell? ⟨b, o, none⟩ else none, loc := fun _ => none, row := fun _ => none, own := fun _ => none, mr := fun _ => none }

theorem sim0 (w : World) : Sim w (g0 w) (fun _ => .none) 1 w where
  below := Below.refl _ _
  imm := fun b o v h => by
    simp only [g0] at h
    split at h
    · exact h
    · cases h
  bound := fun _ _ => rfl
  ents := fun _ => ⟨rfl, rfl, rfl, rfl⟩
  sep := fun i j b h _ => by simp [g0, Ghost.blk] at h
  fresh := fun i b h => by simp [g0, Ghost.blk] at h

theorem ACall.walk {P : Program} {f : FuncId} {args : List AV} {v : Value} (h : ACall P f args 0 [] (.lit v) []) (w : World) (vals : List Value) (hl : vals.length = args.length)
    (hr : ∀ (i : Nat) (x : AV) (u : Value), args[i]? = some x → vals[i]? = some u → Rep (g0 w) x u) : Calls P f vals.toArray w fun e w' => e = .returned v ∧ Below w.heap.size w w' := by
  refine (h.2.2.2 w (g0 w) _ 1 w vals (sim0 w) hl hr rfl (by omega) (fun p hp => by cases hp)).mono ?_
  rintro e w' ⟨u, rfl, g', _, hS, hu⟩
  rw [rep_lit_inv hu]
  exact ⟨rfl, hS.below⟩

inductive Reps (g : Ghost) : List AV → List Value → Prop where
  | nil : Reps g [] []
  | cons {x : AV} {v : Value} {xs : List AV} {vs : List Value} : Rep g x v → Reps g xs vs → Reps g (x :: xs) (v :: vs)
theorem Reps.at {g : Ghost} {xs : List AV} {vs : List Value} (h : Reps g xs vs) : vs.length = xs.length ∧ ∀ (i : Nat) (x : AV) (u : Value), xs[i]? = some x → vs[i]? = some u → Rep g x u := by
  induction h with
  | nil => exact ⟨rfl, fun i x u h _ => by simp at h⟩
  | cons h _ ih =>
    refine ⟨by simp [ih.1], fun i x u hx hu => ?_⟩
    cases i with
    | zero => simp at hx hu; subst hx; subst hu; exact h
    | succ i => exact ih.2 i x u (by simpa using hx) (by simpa using hu)
theorem ACall.walks {P : Program} {f : FuncId} {args : List AV} {v : Value} (h : ACall P f args 0 [] (.lit v) []) (w : World) {vals : List Value} (hr : Reps (g0 w) args vals) : Calls P f vals.toArray w fun e w' => e = .returned v ∧ Below w.heap.size w w' :=
  h.walk w vals hr.at.1 hr.at.2

/-- A slice that came in, over cells that hold integers of one kind. -/
theorem rep_ints {w : World} {k : IntKind} {a : Option Addr} {len cap : Nat} {zs : List Int} (h : (a = none ∧ len = 0 ∧ cap = 0 ∧ zs = []) ∨ ∃ x, a = some x ∧ len ≤ cap ∧ cap ≤ maxLen ∧ zs.length = cap ∧ ∀ i, i < zs.length → w.cell? (x.add i) = some (.int k (zs.getD i 0))) :
    Rep (g0 w) (.slice none ((zs.take len).map fun z => .lit (.int k z))) (.slice a len cap) := by
  rcases h with ⟨rfl, rfl, rfl, rfl⟩ | ⟨x, rfl, h1, h2, h3, h4⟩
  · exact .slice none [] [] none 0 1 rfl (by simp) (by unfold maxLen; omega) (fun i x v h _ => by simp at h) (fun v hv => by simp at hv) (.inl rfl) (fun id hid => by cases hid)
  · have hlen : ((zs.take len).map fun z => AV.lit (.int k z)).length = len := by simp; omega
    have := Rep.slice (g := g0 w) none ((zs.take len).map fun z => AV.lit (.int k z)) ((zs.take len).map fun z => Value.int k z) (some x) cap 1 (by simp) (by rw [hlen]; exact h1) h2
      (fun i y v hy hv => by
        rw [List.getElem?_map] at hy hv
        cases hz : (zs.take len)[i]? with
        | none => rw [hz] at hy; cases hy
        | some z => rw [hz] at hy hv; cases hy; cases hv; exact .lit _ rfl) (fun v hv => by obtain ⟨z, _, rfl⟩ := List.mem_map.1 hv; rfl)
      (by
        by_cases h0 : len = 0
        · exact .inl (by rw [hlen, h0])
        · right
          obtain ⟨b, off, spot⟩ := x
          have hc := h4 0 (by omega)
          have hspot : spot = none := by simpa [Addr.add] using World.cell?_spot hc
          subst hspot
          have hb : b < w.heap.size := by
            have hc0 : w.cell? ⟨b, off, none⟩ = some (.int k (zs.getD 0 0)) := by simpa [Addr.add] using hc
            rcases Nat.lt_or_ge b w.heap.size with h | h
            · exact h
            · exfalso
              simp [World.cell?, Array.getElem?_eq_none h] at hc0
          refine ⟨b, off, rfl, fun j u hu => ?_⟩
          have hfl : flat ((zs.take len).map fun z => Value.int k z) = (zs.take len).map fun z => Value.int k z := by
            generalize zs.take len = l
            induction l with
            | nil => rfl
            | cons z r ih => rw [List.map_cons, flat_cons, ih]; rfl
          rw [hfl, List.getElem?_map] at hu
          cases hz : (zs.take len)[j]? with
          | none => rw [hz] at hu; cases hu
          | some z =>
            rw [hz] at hu; cases hu
            have hj : j < zs.length := by
              have := (List.getElem?_eq_some_iff.1 hz).1
              simp at this; omega
            have hzz : zs.getD j 0 = z := by
              rw [List.getElem?_take] at hz
              split at hz
              · simp [List.getD, hz]
              · cases hz
            simp only [g0, if_pos hb]
            have := h4 j hj
            rw [hzz] at this
            rw [Addr.add_lit] at this
            exact this) (fun id hid => by cases hid)
    rw [hlen] at this
    exact this

theorem rep_len {w : World} {k : IntKind} {a : Option Addr} {len cap : Nat} {zs : List Int} (h : (a = none ∧ len = 0 ∧ cap = 0 ∧ zs = []) ∨ ∃ x, a = some x ∧ len ≤ cap ∧ cap ≤ maxLen ∧ zs.length = cap ∧ ∀ i, i < zs.length → w.cell? (x.add i) = some (.int k (zs.getD i 0))) :
    (zs.take len).length ≤ 9223372036854775807 := by
  rcases h with ⟨_, _, _, rfl⟩ | ⟨x, _, h1, h2, h3, _⟩
  · simp
  · unfold maxLen at h2
    rw [List.length_take]; omega

theorem bytes_of_ints (zs : List Int) (h : ∀ n ∈ zs, (Lit.int .u8 n).wf = true) : ∃ bs : List UInt8, bs.length = zs.length ∧ zs.map (fun z => AV.lit (.int .u8 z)) = bs.map byteAV := by
  refine ⟨zs.map fun z => UInt8.ofNat z.toNat, by simp, ?_⟩
  rw [List.map_map]
  refine List.map_congr_left fun z hz => ?_
  have := h z hz
  simp only [Lit.wf, Function.comp, byteAV] at this ⊢
  congr 2
  rw [UInt8.toNat_ofNat']
  have hw : IntKind.u8.min ≤ z ∧ z ≤ IntKind.u8.max := by simpa using this
  have e1 : IntKind.u8.min = 0 := by decide
  have e2 : IntKind.u8.max = 255 := by decide
  omega
end Go.Ab
