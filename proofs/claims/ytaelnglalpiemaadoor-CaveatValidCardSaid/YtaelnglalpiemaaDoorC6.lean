/- Ghost steps inside a box: a row of one's own that is written no more; the version of a row. -/
import Derived.Test.YtaelnglalpiemaaDoorC5
namespace Go.Ab
open Go.RowKit

@[go_sem] theorem szl_replicate (n : Nat) (a : AV) : AV.szl (List.replicate n a) = n * a.sz := by
  rw [AV.szl_uniform _ a.sz (fun x hx => by rw [List.eq_of_mem_replicate hx]), List.length_replicate]

@[go_sem] theorem replicate_two (a : AV) : List.replicate 2 a = [a, a] := rfl
theorem AV.sub_agg {xs ys : List AV} (h : ALe xs ys) : AV.le (.agg xs) (.agg ys) := fun g v hr => by
  cases hr with
  | agg _ vs hvl hvr =>
    obtain ⟨h1, h2⟩ := h.at
    exact .agg ys vs (by rw [hvl, h1]) fun i y v hy hv => by obtain ⟨x, hx, hxy⟩ := h2 i y hy; exact hxy g v (hvr i x v hx hv)

theorem SimA.turnIn {W0 : World} {g g' : Ghost} {N : Nat} {s : Slots} {σ σ' : Nat → Ent} {n n' : Nat} {a : Act} {w : World} (h : SimA W0 g N ⟨s, σ, n⟩ a w) (hle : g.le g') (hS : Sim W0 g' σ' n' w) (hn : n ≤ n') {id : Nat} {path : List Nat} {bt : TypeId} {c y z : AV}
    (hσ : σ id = .box bt c) (hσ' : σ' id = .box bt c) (hc : c.get path = some y) (hz : ∀ u, Rep g y u → Rep g' z u) (hy1 : y.sz = 1) (hz1 : z.sz = 1) : SimA W0 g' N ⟨s, upd σ' id (.box bt (c.put path z)), n'⟩ a w := by
  obtain ⟨b0, v, hb0, _, hrep, hheap, hG⟩ := h.sim.box id bt c hσ
  obtain ⟨u, hu, hub, huc⟩ := hrep.get hc
  obtain ⟨v', hv', hvc⟩ := (hrep.mono hle).put hc (hz u hu) (by rw [hy1, hz1])
  have hus : u.cells.size = 1 := by rw [hu.size, hy1]
  have hcells : v'.cells = v.cells := by
    obtain ⟨q, hq⟩ : ∃ q, u.cells.toList = [q] := by
      have : u.cells.toList.length = 1 := by rw [Array.length_toList, hus]
      match hl : u.cells.toList, this with
      | [q], _ => exact ⟨q, rfl⟩
    apply Array.ext'
    rw [hvc, hq, hus]
    have hk := huc 0 q (by rw [hq]; rfl)
    rw [Nat.add_zero] at hk
    have hlt : c.offs path < v.cells.toList.length := (List.getElem?_eq_some_iff.1 hk).1
    have l1 : (v.cells.toList.take (c.offs path)).length = c.offs path := by rw [List.length_take]; omega
    have l2 : (v.cells.toList.take (c.offs path) ++ [q]).length = c.offs path + 1 := by rw [List.length_append, l1]; rfl
    apply List.ext_getElem?
    intro j
    by_cases h1' : j < c.offs path
    · rw [List.getElem?_append_left (by omega), List.getElem?_append_left (by omega), List.getElem?_take, if_pos h1']
    · by_cases h2' : j = c.offs path
      · subst h2'
        rw [List.getElem?_append_left (by omega), List.getElem?_append_right (by omega), l1, Nat.sub_self, hk]
        rfl
      · rw [List.getElem?_append_right (by omega), l2, List.getElem?_drop]
        congr 1
        omega
  have hE : EntOK W0 g' w id (σ' id) := hS.ents id
  rw [hσ'] at hE
  obtain ⟨e1, e2, e3, b1, v1, e4, e5, e6, e7⟩ := hE
  have hb1 : b1 = b0 := by
    have := hle.loc id b0 hb0
    rw [e4] at this; injection this
  subst hb1
  refine ⟨?_, h.size, h.defers, fun t => (h.slots t).mono hle⟩
  have hlt : id < n' := by
    rcases Nat.lt_or_ge id n with h' | h'
    · omega
    · have := h.sim.bound id h'; simp only at this; rw [hσ] at this; cases this
  exact hS.change hlt g'.le_refl hS.below hS.imm (fun _ _ => ⟨rfl, rfl, rfl, rfl⟩) (fun i hi b' hb' => ⟨⟨rfl, fun _ => rfl⟩, fun e => hi (hS.sep i id b' hb' e)⟩) ⟨e1, e2, e3, b1, v', e4, hv', by rw [hcells]; exact hheap, e7⟩ (fun b' hb' => hS.fresh id b' hb') (Nat.le_refl _)

/-- In a box: a row that is written no more. -/
theorem go_freezeIn {P : Program} {N : Nat} {b : Code} {Q : AExit → Cfg → Prop} {s : Slots} {σ : Nat → Ent} {n : Nat} (id : Nat) (path : List Nat) {r ver size : Nat} {e bt : TypeId} {c : AV} {xs : List AV} {k : Nat} (hσ : σ id = .box bt c) (hr : σ r = .mrow ver e size xs) (hc : c.get path = some (.ms r ver size 0 k)) (hk : k = xs.length)
    (h : aw P N b Q ⟨s, upd (upd σ r (.row e size xs.length)) id (.box bt (c.put path (.slice none xs))), n⟩) : aw P N b Q ⟨s, σ, n⟩ := by
  refine go_ghost (fun W0 g a w hS => ?_) h
  subst hk
  have hne : id ≠ r := by rintro rfl; rw [hσ] at hr; cases hr
  obtain ⟨g2, hle2, hS2, u2, vs, k1, k2, k3, k4, k5, k6, k7, k8⟩ := hS.sim.freezeM hr
  exact ⟨g2, hle2, hS.turnIn hle2 hS2 (Nat.le_refl _) hσ (by rw [upd_ne _ _ _ _ hne]; exact hσ) hc (fun u hu => AV.le_own _ _ _ _ (hu.msFrozen hle2 k1 k3 k2 k4 k5 k6 k8)) rfl rfl⟩

/-- In a box: a part says less. -/
theorem go_lessIn {P : Program} {N : Nat} {b : Code} {Q : AExit → Cfg → Prop} {s : Slots} {σ : Nat → Ent} {n : Nat} (id : Nat) (path : List Nat) (z : AV) {bt : TypeId} {c y : AV} (hσ : σ id = .box bt c) (hc : c.get path = some y) (hyz : AV.le y z) (hy1 : y.sz = 1) (hz1 : z.sz = 1)
    (h : aw P N b Q ⟨s, upd σ id (.box bt (c.put path z)), n⟩) : aw P N b Q ⟨s, σ, n⟩ :=
  go_ghost (fun W0 g a w hS => ⟨g, g.le_refl, hS.turnIn g.le_refl hS.sim (Nat.le_refl _) hσ hσ hc (fun u hu => hyz g u hu) hy1 hz1⟩) h

/-- A row that may be written, of a greater version. -/
theorem go_bumpM {P : Program} {N : Nat} {b : Code} {Q : AExit → Cfg → Prop} {s : Slots} {σ : Nat → Ent} {n : Nat} (t : Tmp) (v2 : Nat) {id ver size lo len : Nat} {e : TypeId} {xs : List AV} (hσ : σ id = .mrow ver e size xs) (ht : s t = .ms id ver size lo len) (hv : ver < v2)
    (h : aw P N b Q ⟨upd s t (.ms id v2 size lo len), upd σ id (.mrow v2 e size xs), n⟩) : aw P N b Q ⟨s, σ, n⟩ := by
  refine go_ghost (fun W0 g a w hS => ?_) h
  obtain ⟨u, vs, hmr, hlen, hvl, hvr, hvs, hown⟩ := hS.sim.mrowAt hσ
  obtain ⟨g2, hle2, hS2, hm2, hG⟩ := hS.sim.turnM (ver' := v2) (u' := u) (xs' := xs) (vs' := vs) (w' := w) hσ hmr (.inr hv) hown hlen hvl hvr hvs rfl rfl rfl (Nat.le_refl _) (.inl rfl) (fun _ _ _ => rfl)
  refine ⟨g2, hle2, hS.turnSlot hle2 hS2 ?_⟩
  have hr := hS.at_eq ht
  generalize a.tmps.getD t undef = x at hr
  cases hr with
  | ms _ _ _ _ _ ver' u' A c hm hv' hl hc hk =>
    rw [hmr] at hm; cases hm
    exact .ms id v2 size lo len v2 u A c hm2 (Nat.le_refl _) hl hc (fun _ => hk rfl)

theorem upd_twice {α : Type} (s : Nat → α) (k : Nat) (a b : α) : upd (upd s k a) k b = upd s k b := by
  funext i
  by_cases h : i = k
  · subst h; simp only [upd_same]
  · simp only [upd_ne _ _ _ _ h]
theorem ACall.nilM {P : Program} {f : FuncId} {args : List AV} {k : Nat} {e : TypeId} {size v2 : Nat} (hv : 0 < v2) (h : ACall P f args k [] .nils []) : ACall P f args k [] (.ms k v2 size 0 0) [(k, .mrow v2 e size [])] := by
  obtain ⟨h1, h2, h3, h4⟩ := h
  refine ⟨h1, h2, fun q hq => by simp at hq; subst hq; exact .inl rfl, fun W0 g σ n w vals hS hvv hr hf hn hpre => (h4 W0 g σ n w vals hS hvv hr hf hn hpre).mono ?_⟩
  rintro e' w' ⟨u, rfl, g', hg, hS', hu⟩
  cases hu
  obtain ⟨hle1, hS1⟩ := hS'.addM (k := k) (e := e) (size := size) (u := .slice none 0 0) (xs := []) (vs := []) hf hn (ownsR_nil w' _ e size) rfl rfl (fun i x v h _ => by simp at h) (fun v hv => by simp at hv) (fun b hb => by simp [Value.ownBlock] at hb) (fun b hb => by simp [Value.ownBlock] at hb)
  obtain ⟨g2, hle2, hS2, hm2, _⟩ := hS1.turnM (id := k) (ver := 0) (ver' := v2) (e := e) (size := size) (xs := []) (u := .slice none 0 0) (u' := .slice none 0 0) (xs' := []) (vs' := []) (w' := w') (by simp only [wr_nil, upd_same]) (by simp only [upd_same]) (.inr hv) (ownsR_nil w' _ e size) rfl rfl (fun i x v h _ => by simp at h) (fun v hv => by simp at hv) rfl rfl rfl (Nat.le_refl _) (.inl rfl) (fun _ _ _ => rfl)
  rw [upd_twice] at hS2
  refine ⟨.slice none 0 0, rfl, g2, (hg.trans hle1).trans hle2, hS2, ?_⟩
  exact .ms k v2 size 0 0 v2 _ none 0 hm2 (Nat.le_refl _) (Nat.le_refl _) (by unfold maxLen; omega) fun _ => ⟨_, _, _, rfl, by omega, fun _ => ⟨rfl, rfl⟩, fun h => absurd h (by omega)⟩
end Go.Ab
