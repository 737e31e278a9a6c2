/- From a law's contract to what its statement asks, where a package-level array is read. -/
import Derived.Test.YtaelnglalpiemaaDoorC7
import Derived.Test.YtaelnglalpiemaaDoorC2
import Derived.Lib.LaidTab
namespace Go.Ab
open Go.RowKit

theorem rep_tab {w : World} {h : Nat} {k : IntKind} {zs : List Int} (hpos : 0 < zs.length) (hc : ∀ i, i < zs.length → w.cell? ⟨h, i, none⟩ = some (.int k (zs.getD i 0))) : Rep (g0 w) (.view (.agg (zs.map fun z => .lit (.int k z)))) (.pointer (some ⟨h, 0, none⟩)) := by
  have hb : h < w.heap.size := World.block_lt_of_cell? w ⟨h, 0, none⟩ (hc 0 hpos)
  have hfl : flat (zs.map fun z => Value.int k z) = zs.map fun z => Value.int k z := flat_lits _ fun v hv => by obtain ⟨z, _, rfl⟩ := List.mem_map.1 hv; rfl
  refine .view _ (.agg (flat (zs.map fun z => Value.int k z)).toArray) h 0 (.agg _ (zs.map fun z => Value.int k z) (by simp) fun i x v hx hv => ?_) fun j u hu => ?_
  · rw [List.getElem?_map] at hx hv
    cases hz : zs[i]? with
    | none => rw [hz] at hx; cases hx
    | some z => rw [hz] at hx hv; cases hx; cases hv; exact .lit _ rfl
  · simp only [Value.cells, List.toList_toArray] at hu
    rw [hfl, List.getElem?_map] at hu
    cases hz : zs[j]? with
    | none => rw [hz] at hu; cases hu
    | some z =>
      rw [hz] at hu; cases hu
      have hj := (List.getElem?_eq_some_iff.1 hz).1
      have := hc j hj
      rw [List.getD_eq_getElem?_getD, hz] at this
      simp only [g0, if_pos hb, Nat.zero_add]
      exact this

theorem sim1 (w : World) (h : Nat) (X : AV) (hX : Rep (g0 w) (.view X) (.pointer (some ⟨h, 0, none⟩))) : Sim w (g0 w) (upd (fun _ => .none) 1 (.glob h X)) 2 w where
  below := Below.refl _ _
  imm := (sim0 w).imm
  bound := fun i hi => by rw [upd_ne _ _ _ _ (show i ≠ 1 by omega)]
  ents := fun i => by
    by_cases hi : i = 1
    · subst hi; rw [upd_same]; exact ⟨rfl, rfl, rfl, rfl, hX⟩
    · rw [upd_ne _ _ _ _ hi]; exact ⟨rfl, rfl, rfl, rfl⟩
  sep := fun i j b h _ => by simp [g0, Ghost.blk] at h
  fresh := fun i b h => by simp [g0, Ghost.blk] at h

theorem ACall.walksG {P : Program} {f : FuncId} {args : List AV} {v : Value} {h : Nat} {X : AV} (hcall : ACall P f args 0 [(1, .glob h X)] (.lit v) []) (w : World) (hX : Rep (g0 w) (.view X) (.pointer (some ⟨h, 0, none⟩))) {vals : List Value} (hr : Reps (g0 w) args vals) :
    Calls P f vals.toArray w fun e w' => e = .returned v ∧ Below w.heap.size w w' := by
  refine (hcall.2.2.2 w (g0 w) _ 2 w vals (sim1 w h X hX) hr.at.1 hr.at.2 (upd_ne _ _ _ _ (by omega)) (by omega) (fun p hp => by simp at hp; subst hp; simp [upd_same])).mono ?_
  rintro e w' ⟨u, rfl, g', _, hS, hu⟩
  rw [rep_lit_inv hu]
  exact ⟨rfl, hS.below⟩
end Go.Ab
