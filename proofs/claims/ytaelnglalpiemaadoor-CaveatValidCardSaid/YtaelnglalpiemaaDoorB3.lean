/- Contracts: what a call of a function comes to (ACall); that it follows from the walk of the body; how a call is met in a walk. -/
import Derived.Test.YtaelnglalpiemaaDoorB2
namespace Go.Ab
open Go.RowKit

mutual
def AV.ren (f : Nat → Option Nat) : AV → AV
  | .any => .any
  | .lit v => .lit v
  | .nils => .nils
  | .slice own xs => .slice (own.bind f) (AV.renl f xs)
  | .agg xs => .agg (AV.renl f xs)
  | .ptr id p o => match f id with
    | some j => .ptr j p o
    | none => .any
  | .view x => .view (AV.ren f x)
  | .fn g xs => .fn g (AV.renl f xs)
  | .tup xs => .tup (AV.renl f xs)
  | .clip xs => .clip (AV.renl f xs)
  | .ms id ver size lo len => match f id with
    | some j => .ms j ver size lo len
    | none => .any
  | .mp id ver p o => match f id with
    | some j => .mp j ver p o
    | none => .any
  | .bs id p lo o len => match f id with
    | some j => .bs j p lo o len
    | none => .any
  | .iface t x => .iface t (AV.ren f x)
def AV.renl (f : Nat → Option Nat) : List AV → List AV
  | [] => []
  | x :: r => AV.ren f x :: AV.renl f r
end

theorem AV.renl_map (f : Nat → Option Nat) (xs : List AV) : AV.renl f xs = xs.map (AV.ren f) := by
  induction xs with
  | nil => rfl
  | cons x r ih => simp [AV.renl, ih]

def Ent.ren (f : Nat → Option Nat) : Ent → Ent
  | .none => .none
  | .box t x => .box t (x.ren f)
  | .fbox t x => .fbox t (x.ren f)
  | .row e s n => .row e s n
  | .mrow ver e s xs => .mrow ver e s (AV.renl f xs)
  | .glob h x => .glob h (x.ren f)

theorem renl_at {f : Nat → Option Nat} {xs : List AV} {i : Nat} {x : AV} (h : (AV.renl f xs)[i]? = some x) : ∃ y, xs[i]? = some y ∧ x = y.ren f := by
  rw [AV.renl_map, List.getElem?_map] at h
  cases hy : xs[i]? with
  | none => rw [hy] at h; cases h
  | some y => rw [hy] at h; cases h; exact ⟨y, rfl, rfl⟩

theorem Rep.ren {g g2 : Ghost} {f : Nat → Option Nat} (hG : ∀ b o u, g.G b o = some u → g2.G b o = some u) (hl : ∀ id j, f id = some j → ∀ b, g.loc id = some b → g2.loc j = some b) (hr : ∀ id j, f id = some j → ∀ u, g.row id = some u → g2.row j = some u) (hm : ∀ id j, f id = some j → ∀ u, g.mr id = some u → g2.mr j = some u)
    {x : AV} {v : Value} (h : Rep g x v) : Rep g2 (x.ren f) v := by
  induction h with
  | any v h => exact .any v h
  | lit v h => exact .lit v h
  | nils => exact .nils
  | slice own xs vs A c size hvl hc hmx _ hs hcell hown ih =>
    have hlen : (AV.renl f xs).length = xs.length := by rw [AV.renl_map, List.length_map]
    have := Rep.slice (g := g2) (own.bind f) (AV.renl f xs) vs A c size (by rw [hlen]; exact hvl) (by rw [hlen]; exact hc) hmx (fun i x v hx hv => by obtain ⟨y, hy, rfl⟩ := renl_at hx; exact ih i y v hy hv) hs
      (by rw [hlen]; exact hcell.imp id fun ⟨b, o, hA, hG'⟩ => ⟨b, o, hA, fun j u hu => hG _ _ _ (hG' j u hu)⟩) (fun id hid => by
        cases own with
        | none => cases hid
        | some i =>
          obtain ⟨u, h1, h2, h3⟩ := hown i rfl
          exact ⟨u, hr i id hid u h1, by rw [hlen]; exact h2, fun he => by rw [hlen] at he ⊢; exact h3 he⟩)
    rw [hlen] at this
    exact this
  | agg xs vs hvl _ ih => exact .agg (AV.renl f xs) vs (by rw [AV.renl_map, List.length_map]; exact hvl) fun i x v hx hv => by obtain ⟨y, hy, rfl⟩ := renl_at hx; exact ih i y v hy hv
  | ptr id path off b h =>
    simp only [AV.ren]
    split
    · rename_i j hj; exact .ptr j path off b (hl id j hj b h)
    · exact .any _ rfl
  | view x v b o _ hc ih => exact .view _ v b o ih fun j u hu => hG _ _ _ (hc j u hu)
  | fn k xs vs hvl _ ih => exact .fn k (AV.renl f xs) vs (by rw [AV.renl_map, List.length_map]; exact hvl) fun i x v hx hv => by obtain ⟨y, hy, rfl⟩ := renl_at hx; exact ih i y v hy hv
  | tup xs vs hvl _ ih => exact .tup (AV.renl f xs) vs (by rw [AV.renl_map, List.length_map]; exact hvl) fun i x v hx hv => by obtain ⟨y, hy, rfl⟩ := renl_at hx; exact ih i y v hy hv
  | clip xs A n _ ih => exact .clip _ A n ih
  | ms id ver size lo len ver' u A c hmr hv hlc hc h =>
    simp only [AV.ren]
    split
    · rename_i j hj; exact .ms j ver size lo len ver' u A c (hm id j hj _ hmr) hv hlc hc h
    · exact .any _ rfl
  | mp id ver path off ver' u a hmr hv h =>
    simp only [AV.ren]
    split
    · rename_i j hj; exact .mp j ver path off ver' u a (hm id j hj _ hmr) hv h
    · exact .any _ rfl
  | bs id path lo off len b c h hlc hc =>
    simp only [AV.ren]
    split
    · rename_i j hj; exact .bs j path lo off len b c (hl id j hj b h) hlc hc
    · exact .any _ rfl
  | iface t x v _ ih => exact .iface t _ v ih

theorem renl_id {f : Nat → Option Nat} {xs : List AV} (h : ∀ (i : Nat) (x : AV), xs[i]? = some x → x.ren f = x) : AV.renl f xs = xs := by
  rw [AV.renl_map]
  apply List.ext_getElem?
  intro i
  rw [List.getElem?_map]
  cases hx : xs[i]? with
  | none => rfl
  | some x => simp [h i x hx]

theorem Rep.ren_id {g : Ghost} {f : Nat → Option Nat} (hl : ∀ id b, g.loc id = some b → f id = some id) (hr : ∀ id u, g.row id = some u → f id = some id) (hmr : ∀ id u, g.mr id = some u → f id = some id) {x : AV} {v : Value} (h : Rep g x v) : x.ren f = x := by
  have sub : ∀ {xs : List AV} {vs : List Value}, vs.length = xs.length → (∀ (i : Nat) (x : AV) (v : Value), xs[i]? = some x → vs[i]? = some v → x.ren f = x) → AV.renl f xs = xs := fun {xs vs} hvl ih =>
    renl_id fun i x hx => by
      have hlt : i < vs.length := by rw [hvl]; exact (List.getElem?_eq_some_iff.1 hx).1
      exact ih i x _ hx (List.getElem?_eq_getElem hlt)
  induction h with
  | any v h => rfl
  | lit v h => rfl
  | nils => rfl
  | slice own xs vs A c size hvl hc hm _ hs hcell hown ih =>
    simp only [AV.ren, sub hvl ih]
    cases own with
    | none => rfl
    | some i =>
      obtain ⟨u, h1, _⟩ := hown i rfl
      simp [hr i u h1]
  | agg xs vs hvl _ ih => simp only [AV.ren, sub hvl ih]
  | ptr id path off b h => simp only [AV.ren, hl id b h]
  | view x v b o _ hc ih => simp only [AV.ren, ih]
  | fn k xs vs hvl _ ih => simp only [AV.ren, sub hvl ih]
  | tup xs vs hvl _ ih => simp only [AV.ren, sub hvl ih]
  | clip xs A n _ ih => simp only [AV.ren, AV.slice.injEq] at ih ⊢; rw [ih.2]
  | ms id ver size lo len ver' u A c hm hv hl hc h => simp only [AV.ren, hmr id _ hm]
  | mp id ver path off ver' u a hm hv h => simp only [AV.ren, hmr id _ hm]
  | bs id path lo off len b c h hlc hc => simp only [AV.ren, hl id b h]
  | iface t x v _ ih => simp only [AV.ren, ih]

/-- An entity under other numbers. -/
theorem EntOK.ren {W0 : World} {g g2 : Ghost} {w : World} {f : Nat → Option Nat} {i j : Nat} {E : Ent} (h : EntOK W0 g w i E) (hG : g2.G = g.G) (hl : g2.loc j = g.loc i) (hr : g2.row j = g.row i) (ho : g2.own j = g.own i) (hm : g2.mr j = g.mr i)
    (hrep : ∀ x v, Rep g x v → Rep g2 (x.ren f) v) : EntOK W0 g2 w j (E.ren f) := by
  cases E with
  | none => exact ⟨hl.trans h.1, hr.trans h.2.1, ho.trans h.2.2.1, hm.trans h.2.2.2⟩
  | glob q x => exact ⟨hl.trans h.1, hr.trans h.2.1, ho.trans h.2.2.1, hm.trans h.2.2.2.1, hrep (.view x) _ h.2.2.2.2⟩
  | box t x =>
    obtain ⟨k1, k2, k3, b, v, k4, k5, k6, k7⟩ := h
    exact ⟨hr.trans k1, ho.trans k2, hm.trans k3, b, v, hl.trans k4, hrep _ _ k5, k6, fun o => by rw [hG]; exact k7 o⟩
  | fbox t x =>
    obtain ⟨k1, k2, k3, b, v, k4, k5, k6, k7⟩ := h
    exact ⟨hr.trans k1, ho.trans k2, hm.trans k3, b, v, hl.trans k4, hrep _ _ k5, k6, fun o => by rw [hG]; exact k7 o⟩
  | row e size k =>
    obtain ⟨k1, u, cells, k3, k4, k5⟩ := h
    refine ⟨hl.trans k1, u, cells, hr.trans k3, k4, ?_⟩
    rw [ho, hG]
    exact k5
  | mrow ver e size xs =>
    obtain ⟨k1, k2, k3, u, vs, k4, k5, k6, k7, k8, k9, k10⟩ := h
    have hlen : (AV.renl f xs).length = xs.length := by rw [AV.renl_map, List.length_map]
    refine ⟨hl.trans k1, hr.trans k2, ho.trans k3, u, vs, hm.trans k4, by rw [hlen]; exact k5, by rw [hlen]; exact k6, fun i x v hx hv => ?_, k8, by rw [hlen]; exact k9, by rw [hG]; exact k10⟩
    obtain ⟨y, hy, rfl⟩ := renl_at hx
    exact hrep _ _ (k7 i y v hy hv)

theorem EntOK.ren_id {W0 : World} {g : Ghost} {w : World} {f : Nat → Option Nat} {i : Nat} {E : Ent} (h : EntOK W0 g w i E) (hrep : ∀ x v, Rep g x v → x.ren f = x) : E.ren f = E := by
  cases E with
  | none => rfl
  | glob q x => have := hrep (.view x) _ h.2.2.2.2; simp only [AV.ren, AV.view.injEq] at this; simp only [Ent.ren, this]
  | box t x => obtain ⟨_, _, _, b, v, _, k5, _⟩ := h; simp only [Ent.ren, hrep _ _ k5]
  | fbox t x => obtain ⟨_, _, _, b, v, _, k5, _⟩ := h; simp only [Ent.ren, hrep _ _ k5]
  | row e size k => rfl
  | mrow ver e size xs =>
    obtain ⟨_, _, _, u, vs, _, _, k6, k7, _⟩ := h
    simp only [Ent.ren]
    rw [renl_id fun i x hx => ?_]
    have hlt : i < vs.length := by rw [k6]; exact (List.getElem?_eq_some_iff.1 hx).1
    exact hrep _ _ (k7 i x _ hx (List.getElem?_eq_getElem hlt))

/-! ### Contracts -/
def callable (P : Program) (f : FuncId) : Bool :=
  match P.funcs[f]? with
  | some fn => !(fn.name == "runtime.NumGoroutine") && fn.body.isSome
  | none => false

/-- What a call comes to: 'k': a number that is free for what it makes and hands back; 'pre': what it asks of the entities; 'r': its result; 'post': what it leaves of them. -/
def ACall (P : Program) (f : FuncId) (args : List AV) (k : Nat) (pre : Foot) (r : AV) (post : Foot) : Prop :=
  callable P f = true ∧ (∀ p ∈ pre, p.2 ≠ .none) ∧ (∀ q ∈ post, q.1 = k ∨ ∃ p ∈ pre, p.1 = q.1) ∧
  ∀ (W0 : World) (g : Ghost) (σ : Nat → Ent) (n : Nat) (w : World) (vals : List Value), Sim W0 g σ n w → vals.length = args.length → (∀ (i : Nat) (x : AV) (v : Value), args[i]? = some x → vals[i]? = some v → Rep g x v) →
    σ k = .none → k < n → (∀ p ∈ pre, σ p.1 = p.2) →
    Calls P f vals.toArray w fun e w' => ∃ u, e = .returned u ∧ ∃ g', g.le g' ∧ Sim W0 g' (wr σ post) n w' ∧ Rep g' r u

section
variable {P : Program} {o : Oper} {s : Slots} {id : Nat}

theorem run_callFunc {f : FuncId} {args : Array Value} {w : World} (h : callable P f = true) : (callFunc f args).run P w = .ok (.enter f args) w := by
  unfold callable at h
  split at h
  · rename_i fn hfn
    simp only [Bool.and_eq_true, Bool.not_eq_true'] at h
    unfold callFunc
    simp only [Sem.run_bind, run_program, Result.andThen_ok, hfn]
    rw [if_neg (by simp [h.1])]
    cases hb : fn.body with
    | none => rw [hb] at h; simp at h
    | some c => simp
  · cases h

theorem holds_call {x : Operand} {args : Array Operand} {ts : Array TypeId} {f : FuncId} {caps : List AV} {pre post : Foot} {r : AV} (ho : o.op = .call { callee := .value x, args := args, argTypes := ts }) (hx : aeval s x = .fn f caps)
    (h : ACall P f (args.toList.map (aeval s) ++ caps) id pre r post) : OpHolds P o s id pre r post := by
  obtain ⟨hc, hp, hq, hrun⟩ := h
  refine ⟨hp, hq, fun W0 g σ n w a hS hr hf hn hpre => ?_⟩
  have h1 := hr x (by simp [ho, Op.operands, Call.operands])
  have h2 : ∀ y ∈ args, Rep g (aeval s y) (a.eval y) := fun y hy => hr y (by simp [ho, Op.operands, Call.operands, hy])
  rw [hx] at h1
  generalize hv : a.eval x = v at h1
  cases h1 with
  | fn _ _ vs hvl hvr =>
    have hexec : (execOp a.eval o).run P w = .ok (.enter f ((args.toList.map a.eval ++ vs).toArray)) w := by
      simp only [execOp, ho, resolve, hv, Deferred.ofValue, Sem.run_bind, Sem.run_pure, Result.andThen_ok, invoke]
      rw [run_callFunc hc]
      congr 2
      simp [← Array.toList_map]
    unfold runsTo
    rw [hexec]
    refine (hrun W0 g σ n w (args.toList.map a.eval ++ vs) hS (by simp [hvl]) (fun i y u hy hu => ?_) hf hn hpre).mono fun e w' h => h
    by_cases hi : i < args.toList.length
    · rw [List.getElem?_append_left (by simpa using hi), List.getElem?_map] at hy hu
      cases hz : args.toList[i]? with
      | none => rw [hz] at hy; cases hy
      | some z =>
        rw [hz] at hy hu
        cases hy; cases hu
        exact h2 z (by have := List.mem_of_getElem? hz; simpa using this)
    · rw [List.getElem?_append_right (by simpa using hi)] at hy hu
      simp only [List.length_map] at hy hu
      exact hvr _ y u hy hu

/-- A call, met by its contract. -/
theorem astepX_call {c : Cfg} {k : Step → Prop} {x : Operand} {args : Array Operand} {ts : Array TypeId} {f : FuncId} {caps : List AV} {pre post : Foot} {r : AV} (ho : o.op = .call { callee := .value x, args := args, argTypes := ts }) (hx : aeval c.s x = .fn f caps)
    (h : ACall P f (args.toList.map (aeval c.s) ++ caps) id pre r post) (hp : ∀ p ∈ pre, c.σ p.1 = p.2) (hk : k ⟨pre, r, post⟩) : AStepX P o c id k :=
  ⟨⟨pre, r, post⟩, ⟨holds_call ho hx h, hp⟩, hk⟩
end

/-! ### From the body's walk to the contract -/
def initS (args : List AV) : Slots := fun t => args.getD t (.tup [])

theorem initS_zero (a : AV) (l : List AV) : initS (a :: l) 0 = a := rfl
theorem initS_succ (a : AV) (l : List AV) (n : Nat) : initS (a :: l) (n + 1) = initS l n := rfl
theorem initS_nil (n : Nat) : initS [] n = .tup [] := rfl

def aresult1 (P : Program) (c : Cfg) : ResultVar → Option AV
  | .tmp t => some (c.s t)
  | .cell a t => match c.s a with
    | .ptr i p q => match evBox c.σ i with
      | some (_, x, _) => match x.get p with
        | some y => if x.offs p = q ∧ tyInfo P t = some (y.isAgg, y.sz) then some y else none
        | none => none
      | none => none
    | _ => none

def aresultL (P : Program) (c : Cfg) : List ResultVar → Option (List AV)
  | [] => some []
  | x :: r => match aresult1 P c x, aresultL P c r with
    | some y, some ys => some (y :: ys)
    | _, _ => none

def aresults (P : Program) (c : Cfg) (rs : List ResultVar) : Option AV :=
  match aresultL P c rs with
  | some [x] => some x
  | some xs => some (.tup xs)
  | none => none

/-- The numbers of the caller stay; the one entity that is handed back takes the number kept free for it; all others are forgotten. -/
def rn (n0 k : Nat) (fresh : Option Nat) : Nat → Option Nat := fun id => if id < n0 then some id else if fresh = some id then some k else none

def renF (f : Nat → Option Nat) (ws : Foot) : Foot := ws.map fun q => (q.1, q.2.ren f)


def ARet (P : Program) (rs : List ResultVar) (k : Nat) (σ0 : Nat → Ent) (n0 : Nat) (pre : Foot) (r : AV) (post : Foot) (c : Cfg) : Prop :=
  ∃ (r0' r' : AV) (ws : Foot) (fresh : Option Nat), aresults P c rs = some r0' ∧ AV.le r0' r' ∧ r = r'.ren (rn n0 k fresh) ∧ (∀ id, id < n0 → c.σ id = wr σ0 ws id) ∧ (∀ q ∈ ws, ∃ p ∈ pre, p.1 = q.1) ∧
    (match fresh with
      | some r0 => n0 ≤ r0 ∧ post = renF (rn n0 k (some r0)) ws ++ [(k, (c.σ r0).ren (rn n0 k (some r0)))]
      | none => post = renF (rn n0 k none) ws)

def aRet (P : Program) (rs : List ResultVar) (k : Nat) (σ0 : Nat → Ent) (n0 : Nat) (pre : Foot) (r : AV) (post : Foot) : AExit → Cfg → Prop
  | .exit _, _ => False
  | _, c => ARet P rs k σ0 n0 pre r post c

def resVal (a : Act) : ResultVar → Sem Value
  | .tmp t => pure (a.tmps.getD t undef)
  | .cell b t => do loadVar t (← asAddr (a.tmps.getD b undef))

theorem results_eq (fn : Func) (a : Act) : results fn a.tmps = (do let vs ← fn.results.mapM (resVal a); pure (if h : vs.size = 1 then vs[0] else .tuple vs)) := by
  unfold results
  have : (fun (x : ResultVar) => (match x with
    | .tmp t => pure (a.tmps.getD t undef)
    | .cell b t => do loadVar t (← asAddr (a.tmps.getD b undef)) : Sem Value)) = resVal a := by
    funext x; cases x <;> rfl
  rw [← this]
  rfl

@[congr] theorem aRet_congr {c c' : Cfg} (h : c = c') (P : Program) (rs : List ResultVar) (k : Nat) (σ0 : Nat → Ent) (n0 : Nat) (pre : Foot) (r : AV) (post : Foot) (e : AExit) : aRet P rs k σ0 n0 pre r post e c = aRet P rs k σ0 n0 pre r post e c' := by rw [h]

theorem aresult1_sound {P : Program} {W0 : World} {g : Ghost} {N : Nat} {c : Cfg} {a : Act} {w : World} (hS : SimA W0 g N c a w) {x : ResultVar} {y : AV} (h : aresult1 P c x = some y) :
    ∃ u, Rep g y u ∧ (resVal a x).run P w = .ok u w := by
  cases x with
  | tmp t =>
    simp only [aresult1, Option.some.injEq] at h
    subst h
    exact ⟨_, hS.slots t, rfl⟩
  | cell b t =>
    have hr := hS.slots b
    simp only [aresult1] at h
    split at h
    · rename_i i p q hb
      rw [hb] at hr
      split at h
      · rename_i bt x bb hbox
        split at h
        · rename_i y' hy
          split at h
          · rename_i hc
            cases h
            generalize hv : a.tmps.getD b undef = v at hr
            cases hr with
            | ptr _ _ _ blk hblk =>
              have key : ∃ v, Rep g x v ∧ w.heap[blk]? = some (.cells v.cells bt (0, 0)) := by
                rcases evBox_sound hbox with ⟨_, he⟩ | ⟨_, he⟩
                · obtain ⟨b', v, h1, _, h3, h4, _⟩ := hS.sim.box i bt x he
                  rw [hblk] at h1; cases h1; exact ⟨v, h3, h4⟩
                · obtain ⟨b', v, h1, _, h3, h4, _⟩ := hS.sim.fbox i bt x he
                  rw [hblk] at h1; cases h1; exact ⟨v, h3, h4⟩
              obtain ⟨v, hrep, hheap⟩ := key
              obtain ⟨u, hu, _, hcu⟩ := hrep.get hy
              refine ⟨u, hu, ?_⟩
              have := run_loadAt (P := P) hu (tyInfo_sound hc.2).1 (b := blk) (off := q) (w := w) fun j z hz => by
                rw [cell_of_row w blk _ _ _ _ hheap, ← Array.getElem?_toList, ← hc.1]
                exact hcu j z hz
              simp only [Instr.loadAt, Instr.sureAddr, Sem.run_bind, Sem.run_pure, Result.andThen_ok] at this
              simp only [resVal, hv, asAddr, Sem.run_bind, Sem.run_pure, Result.andThen_ok, this]
          · cases h
        · cases h
      · cases h
    · cases h

theorem aresultL_sound {P : Program} {W0 : World} {g : Ghost} {N : Nat} {c : Cfg} {a : Act} {w : World} (hS : SimA W0 g N c a w) : ∀ {rs : List ResultVar} {ys : List AV}, aresultL P c rs = some ys →
    ∃ us : List Value, us.length = ys.length ∧ (∀ (i : Nat) (x : AV) (v : Value), ys[i]? = some x → us[i]? = some v → Rep g x v) ∧ (rs.mapM (resVal a)).run P w = .ok us w
  | [], ys, h => by simp [aresultL] at h; subst h; exact ⟨[], rfl, fun i x v h _ => by simp at h, by simp⟩
  | x :: r, ys, h => by
    simp only [aresultL] at h
    split at h
    · rename_i y ys' h1 h2
      cases h
      obtain ⟨u, hu, hrun⟩ := aresult1_sound hS h1
      obtain ⟨us, k1, k2, k3⟩ := aresultL_sound hS h2
      refine ⟨u :: us, by simp [k1], fun i x v hx hv => ?_, ?_⟩
      · cases i with
        | zero => simp at hx hv; subst hx; subst hv; exact hu
        | succ i => exact k2 i x v (by simpa using hx) (by simpa using hv)
      · simp only [List.mapM_cons, Sem.run_bind, Sem.run_pure]
        rw [hrun]
        simp only [Result.andThen_ok]
        rw [k3]
        rfl
    · cases h

theorem aresults_sound {P : Program} {W0 : World} {g : Ghost} {N : Nat} {c : Cfg} {a : Act} {w : World} (hS : SimA W0 g N c a w) {fn : Func} {y : AV} (h : aresults P c fn.results.toList = some y) :
    ∃ u, Rep g y u ∧ (results fn a.tmps).run P w = .ok u w := by
  unfold aresults at h
  have key : ∀ ys, aresultL P c fn.results.toList = some ys → ∃ us : List Value, us.length = ys.length ∧ (∀ (i : Nat) (x : AV) (v : Value), ys[i]? = some x → us[i]? = some v → Rep g x v) ∧
      (results fn a.tmps).run P w = .ok (if h : us.toArray.size = 1 then us.toArray[0] else .tuple us.toArray) w := by
    intro ys hys
    obtain ⟨us, k1, k2, k3⟩ := aresultL_sound hS hys
    refine ⟨us, k1, k2, ?_⟩
    rw [results_eq, Sem.run_bind, Array.mapM_eq_mapM_toList]
    simp only [Sem.run_map, k3, Result.andThen_ok, Sem.run_pure]
  split at h
  · rename_i x hx
    cases h
    obtain ⟨us, k1, k2, k3⟩ := key _ hx
    match us, k1 with
    | [u], _ => exact ⟨u, k2 0 _ _ rfl rfl, by simpa using k3⟩
  · rename_i xs hne hx
    cases h
    obtain ⟨us, k1, k2, k3⟩ := key _ hx
    have hl : us.length ≠ 1 := by
      intro he
      rw [k1] at he
      match xs, he with
      | [x], _ => exact hne x rfl
    refine ⟨.tuple us.toArray, .tup xs us k1 k2, ?_⟩
    rw [k3, dif_neg (by simpa using hl)]
  · cases h

theorem wr_at (i : Nat) : ∀ ws : Foot, ((∀ σ : Nat → Ent, wr σ ws i = σ i) ∧ (∀ f (σ : Nat → Ent), wr σ (renF f ws) i = σ i) ∧ ∀ q ∈ ws, q.1 ≠ i) ∨
    (∃ q ∈ ws, q.1 = i ∧ (∀ σ : Nat → Ent, wr σ ws i = q.2) ∧ ∀ f (σ : Nat → Ent), wr σ (renF f ws) i = q.2.ren f)
  | [] => .inl ⟨fun _ => rfl, fun _ _ => rfl, fun q hq => (by cases hq)⟩
  | p :: r => by
    have e1 : ∀ σ : Nat → Ent, wr σ (p :: r) = wr (upd σ p.1 p.2) r := fun _ => rfl
    have e2 : ∀ f (σ : Nat → Ent), wr σ (renF f (p :: r)) = wr (upd σ p.1 (p.2.ren f)) (renF f r) := fun _ _ => rfl
    rcases wr_at i r with ⟨h1, h2, h3⟩ | ⟨q, hq, h1, h2, h3⟩
    · by_cases hp : p.1 = i
      · refine .inr ⟨p, List.mem_cons_self .., hp, fun σ => by rw [e1, h1, hp, upd_same], fun f σ => by rw [e2, h2, hp, upd_same]⟩
      · refine .inl ⟨fun σ => by rw [e1, h1, upd_ne _ _ _ _ (Ne.symm hp)], fun f σ => by rw [e2, h2, upd_ne _ _ _ _ (Ne.symm hp)], fun q hq => ?_⟩
        rcases List.mem_cons.1 hq with rfl | hq
        · exact hp
        · exact h3 q hq
    · exact .inr ⟨q, List.mem_cons_of_mem _ hq, h1, fun σ => by rw [e1, h2], fun f σ => by rw [e2, h3]⟩

theorem wr_append (σ : Nat → Ent) (p q : Foot) : wr σ (p ++ q) = wr (wr σ p) q := by simp [wr, List.foldl_append]

theorem ren_none {f : Nat → Option Nat} {E : Ent} (h : E.ren f = .none) : E = .none := by cases E <;> simp [Ent.ren] at h; rfl

/-- Behind the body: the caller's numbers, the one that is handed back; all others are forgotten. -/
theorem Sim.leave {W0 : World} {g g' : Ghost} {σ0 σ' : Nat → Ent} {n0 n' k : Nat} {w w' : World} (hS : Sim W0 g σ0 n0 w) (hS' : Sim W0 g' σ' n' w') (hle : g.le g') (hk : σ0 k = .none) (hkn : k < n0) {ws post : Foot} {fresh : Option Nat}
    (hag : ∀ id, id < n0 → σ' id = wr σ0 ws id) (hws : ∀ q ∈ ws, σ0 q.1 ≠ .none)
    (hpost : match fresh with
      | some r0 => n0 ≤ r0 ∧ post = renF (rn n0 k (some r0)) ws ++ [(k, (σ' r0).ren (rn n0 k (some r0)))]
      | none => post = renF (rn n0 k none) ws) :
    ∃ g2, g.le g2 ∧ Sim W0 g2 (wr σ0 post) n0 w' ∧ ∀ x v, Rep g' x v → Rep g2 (x.ren (rn n0 k fresh)) v := by
  let f := rn n0 k fresh
  have hfdef : f = rn n0 k fresh := rfl
  let pick : {α : Type} → (Nat → Option α) → Nat → Option α := fun F id => if id = k then fresh.bind F else if id < n0 then F id else none
  let g2 : Ghost := { G := g'.G, loc := pick g'.loc, row := pick g'.row, own := pick g'.own, mr := pick g'.mr }
  have hlive : ∀ id, σ0 id ≠ .none → id < n0 ∧ id ≠ k := fun id hid => by
    refine ⟨?_, fun e => hid (e ▸ hk)⟩
    rcases Nat.lt_or_ge id n0 with h | h
    · exact h
    · exact absurd (hS.bound id h) hid
  have hloc0 : ∀ id b, g.loc id = some b → σ0 id ≠ .none := fun id b hb hn => by rw [(hS.free id hn).1] at hb; cases hb
  have hrow0 : ∀ id u, g.row id = some u → σ0 id ≠ .none := fun id u hu hn => by rw [(hS.free id hn).2.1] at hu; cases hu
  have hmr0 : ∀ id u, g.mr id = some u → σ0 id ≠ .none := fun id u hu hn => by rw [(hS.free id hn).2.2.2] at hu; cases hu
  have hk' : σ' k = .none := by
    rw [hag k hkn]
    rcases wr_at k ws with ⟨h1, _⟩ | ⟨q, hq, h1, _⟩
    · rw [h1]; exact hk
    · exact absurd (h1 ▸ hk) (hws q hq)
  obtain ⟨kl, kr, ko, km⟩ := hS'.free k hk'
  have hfresh_ge : ∀ r0, fresh = some r0 → n0 ≤ r0 := fun r0 hr => by subst hr; exact hpost.1
  have f_old : ∀ id, id < n0 → f id = some id := fun id h => by simp [f, rn, h]
  have f_fresh : ∀ r0, fresh = some r0 → f r0 = some k := fun r0 hr => by simp only [f, rn, if_neg (Nat.not_lt.2 (hfresh_ge r0 hr)), hr, if_true]
  have f_inv : ∀ id j, f id = some j → (id < n0 ∧ j = id) ∨ (fresh = some id ∧ j = k) := by
    intro id j hj
    simp only [f, rn] at hj
    split at hj
    · rename_i h; cases hj; exact .inl ⟨h, rfl⟩
    · split at hj
      · rename_i h; cases hj; exact .inr ⟨h, rfl⟩
      · cases hj
  have pick_old : ∀ {α : Type} (F : Nat → Option α) id, id < n0 → id ≠ k → pick F id = F id := fun F id h1 h2 => by simp only [pick, if_neg h2, if_pos h1]
  have pick_fresh : ∀ {α : Type} (F : Nat → Option α) r0, fresh = some r0 → pick F k = F r0 := fun F r0 hr => by simp [pick, hr]
  have pick_hi : ∀ {α : Type} (F : Nat → Option α) id, n0 ≤ id → pick F id = none := fun F id h => by simp only [pick, if_neg (show id ≠ k by omega), if_neg (Nat.not_lt.2 h)]
  have pick_none : ∀ {α : Type} (F : Nat → Option α), fresh = none → pick F k = none := fun F h => by simp [pick, h]
  have carry : ∀ {α : Type} (F : Nat → Option α), F k = none → ∀ id j, f id = some j → ∀ b, F id = some b → pick F j = some b := by
    intro α F hFk id j hj b hb
    rcases f_inv id j hj with ⟨h1, rfl⟩ | ⟨h1, rfl⟩
    · have hne : j ≠ k := fun e => by rw [e, hFk] at hb; cases hb
      rw [pick_old F j h1 hne]; exact hb
    · rw [pick_fresh F id h1]; exact hb
  have rep2 : ∀ x v, Rep g' x v → Rep g2 (x.ren f) v := fun x v h => Rep.ren (g := g') (g2 := g2) (fun b o u h => h) (carry _ kl) (carry _ kr) (carry _ km) h
  have rep_id : ∀ x v, Rep g x v → x.ren f = x := fun x v h => Rep.ren_id (fun id b hb => f_old id (hlive id (hloc0 id b hb)).1) (fun id u hu => f_old id (hlive id (hrow0 id u hu)).1) (fun id u hu => f_old id (hlive id (hmr0 id u hu)).1) h
  have hle2 : g.le g2 := by
    refine ⟨fun b o v h => hle.G b o v h, fun id b hb => ?_, fun id u hu => ?_, fun id u hu => ?_⟩
    · obtain ⟨h1, h2⟩ := hlive id (hloc0 id b hb)
      exact (pick_old g'.loc id h1 h2).trans (hle.loc id b hb)
    · obtain ⟨h1, h2⟩ := hlive id (hrow0 id u hu)
      obtain ⟨u', k1, k2⟩ := hle.row id u hu
      exact ⟨u', (pick_old g'.row id h1 h2).trans k1, k2⟩
    · obtain ⟨h1, h2⟩ := hlive id (hmr0 id u hu)
      obtain ⟨u', k1, k2⟩ := hle.mr id u hu
      exact ⟨u', (pick_old g'.mr id h1 h2).trans k1, k2⟩
  -- what stands at a number behind the call
  have at_k : fresh = none → wr σ0 post k = .none := by
    intro hfr
    subst hfr
    have hp : post = renF (rn n0 k none) ws := hpost
    rw [hp]
    rcases wr_at k ws with ⟨_, h2, _⟩ | ⟨q, hq, h1, _⟩
    · rw [h2]; exact hk
    · exact absurd (h1 ▸ hk) (hws q hq)
  have at_ks : ∀ r0, fresh = some r0 → wr σ0 post k = (σ' r0).ren f := by
    intro r0 hfr
    subst hfr
    rw [hpost.2, wr_append]
    simp [wr, upd_same, hfdef]
  have at_old : ∀ id, id < n0 → id ≠ k → wr σ0 post id = (σ' id).ren f := by
    intro id hid hne
    have base : wr σ0 post id = wr σ0 (renF f ws) id := by
      cases fresh with
      | none => simp only at hpost; rw [hpost]
      | some r0 => rw [hpost.2, wr_append]; simp [wr, upd_ne _ _ _ _ hne, hfdef]
    rcases wr_at id ws with ⟨h1, h2, _⟩ | ⟨q, hq, h1, h2, h3⟩
    · rw [base, h2, hag id hid, h1, (hS.ents id).ren_id rep_id]
    · rw [base, h3, hag id hid, h2]
  have at_hi : ∀ id, n0 ≤ id → wr σ0 post id = .none := by
    intro id hid
    rw [wr_other]
    · exact hS.bound id hid
    · intro q hq e
      have hws' : ∀ q ∈ renF f ws, q.1 < n0 := fun q hq => by
        obtain ⟨p, hp, rfl⟩ := List.mem_map.1 hq
        exact (hlive p.1 (hws p hp)).1
      cases fresh with
      | none => simp only at hpost; rw [hpost] at hq; have := hws' q hq; omega
      | some r0 =>
        rw [hpost.2] at hq
        rcases List.mem_append.1 hq with hq | hq
        · have := hws' q hq; omega
        · simp at hq; subst hq; simp at e; omega
  have blk2 : ∀ id b, g2.blk id = some b → ∃ i0, f i0 = some id ∧ g'.blk i0 = some b := by
    intro id b hb
    by_cases hik : id = k
    · subst hik
      cases hfr : fresh with
      | none => simp [Ghost.blk, g2, pick_none _ hfr] at hb
      | some r0 =>
        refine ⟨r0, f_fresh r0 hfr, ?_⟩
        simpa only [Ghost.blk, g2, pick_fresh _ r0 hfr] using hb
    · by_cases hid : id < n0
      · refine ⟨id, f_old id hid, ?_⟩
        simpa only [Ghost.blk, g2, pick_old _ id hid hik] using hb
      · simp [Ghost.blk, g2, pick_hi _ id (Nat.not_lt.1 hid)] at hb
  refine ⟨g2, hle2, ⟨hS'.below, hS'.imm, at_hi, fun id => ?_, fun i j b hi hj => ?_, fun i b hi => ?_⟩, rep2⟩
  · rcases Nat.lt_or_ge id n0 with hid | hid
    · by_cases hik : id = k
      · subst hik
        cases hfr : fresh with
        | none => rw [at_k hfr]; exact ⟨pick_none _ hfr, pick_none _ hfr, pick_none _ hfr, pick_none _ hfr⟩
        | some r0 => rw [at_ks r0 hfr]; exact (hS'.ents r0).ren rfl (pick_fresh _ r0 hfr) (pick_fresh _ r0 hfr) (pick_fresh _ r0 hfr) (pick_fresh _ r0 hfr) rep2
      · rw [at_old id hid hik]; exact (hS'.ents id).ren rfl (pick_old _ id hid hik) (pick_old _ id hid hik) (pick_old _ id hid hik) (pick_old _ id hid hik) rep2
    · rw [at_hi id hid]; exact ⟨pick_hi _ id hid, pick_hi _ id hid, pick_hi _ id hid, pick_hi _ id hid⟩
  · obtain ⟨i0, a1, a2⟩ := blk2 i b hi
    obtain ⟨j0, b1, b2⟩ := blk2 j b hj
    have := hS'.sep i0 j0 b a2 b2
    subst this
    rw [a1] at b1; injection b1
  · obtain ⟨i0, a1, a2⟩ := blk2 i b hi
    exact hS'.fresh i0 b a2

/-- **From the walk of the body to the contract.** -/
theorem ACall.of_body {P : Program} {f : FuncId} {fn : Func} {body : Code} {args : List AV} {k : Nat} {pre post : Foot} {r : AV} (hmix : P.follows .mixedOrders = true) (hf : P.funcs[f]? = some fn) (hb : fn.body = some body)
    (hname : (fn.name == "runtime.NumGoroutine") = false) {N : Nat} (hN : fn.ntmps = N) (hok : codeOK N body = true) {rs : List ResultVar} (hrs : fn.results.toList = rs) (hargs : args.length ≤ N) (hpre : ∀ p ∈ pre, p.2 ≠ .none) (hpost : ∀ q ∈ post, q.1 = k ∨ ∃ p ∈ pre, p.1 = q.1)
    (h : ∀ (σ : Nat → Ent) (n : Nat), (∀ p ∈ pre, σ p.1 = p.2) → (∀ p ∈ pre, p.1 < n) → σ k = .none → k < n → (∀ id, n ≤ id → σ id = .none) → aw P N body (aRet P rs k σ n pre r post) ⟨initS args, σ, n⟩) :
    ACall P f args k pre r post := by
  refine ⟨by simp [callable, hf, hb, hname], hpre, hpost, fun W0 g σ n w vals hS hl hv hk hkn hp => ?_⟩
  have hpn : ∀ p ∈ pre, p.1 < n := fun p hpm => by
    rcases Nat.lt_or_ge p.1 n with h' | h'
    · exact h'
    · exact absurd ((hp p hpm).symm.trans (hS.bound p.1 h')) (hpre p hpm)
  have haw := h σ n hp hpn hk hkn hS.bound
  subst hN
  let a : Act := { tmps := vals.toArray ++ Array.replicate (fn.ntmps - vals.toArray.size) undef, defers := [] }
  have hSA : SimA W0 g fn.ntmps ⟨initS args, σ, n⟩ a w := by
    refine ⟨hS, by simp [a]; omega, rfl, fun t => ?_⟩
    show Rep g (args.getD t (.tup [])) (a.tmps.getD t undef)
    by_cases ht : t < args.length
    · have ht' : t < vals.length := by omega
      have := hv t args[t] vals[t] (List.getElem?_eq_getElem ht) (List.getElem?_eq_getElem ht')
      have e1 : args.getD t (.tup []) = args[t] := by simp [List.getD, List.getElem?_eq_getElem ht]
      have e2 : a.tmps.getD t undef = vals[t] := by simp [a, Array.getElem?_append, ht']
      rw [e1, e2]; exact this
    · have e1 : args.getD t (.tup []) = .tup [] := by simp [List.getD, List.getElem?_eq_none (Nat.not_lt.1 ht)]
      have e2 : a.tmps.getD t undef = undef := by
        simp only [a]
        rw [Array.getD_eq_getD_getElem?, Array.getElem?_append]
        rw [if_neg (by simp; omega), Array.getElem?_replicate]
        split <;> rfl
      rw [e1, e2]
      exact .tup [] [] rfl fun i x v h _ => by simp at h
  refine calls_of_wp hf hb (wp_mono (haw hok hmix W0 g a w hSA) fun e a' w' hq => ?_)
  obtain ⟨c', g', hle, hS', hq⟩ := hq
  have fin : ARet P rs k σ n pre r post c' → a'.defers = [] ∧ ∃ v, (results fn a'.tmps).run P w' = .ok v w' ∧ ∃ u, Ending.returned v = .returned u ∧ ∃ g', g.le g' ∧ Sim W0 g' (wr σ post) n w' ∧ Rep g' r u := by
    rintro ⟨r0', r', ws, fresh, h1, hrle, h2, h3, h4, h5⟩
    obtain ⟨u, hu, hrun⟩ := aresults_sound (fn := fn) hS' (by rw [hrs]; exact h1)
    obtain ⟨g2, hle2, hS2, hrep⟩ := hS.leave hS'.sim hle hk hkn h3 (fun q hq => by obtain ⟨p, hp1, hp2⟩ := h4 q hq; rw [← hp2, hp p hp1]; exact hpre p hp1) h5
    exact ⟨hS'.defers, u, hrun, u, rfl, g2, hle2, hS2, by rw [h2]; exact hrep _ _ (hrle _ _ hu)⟩
  cases e with
  | normal => exact fin hq
  | ret => exact fin hq
  | exit id => exact hq.elim
  | goto => exact hq.elim
  | panic => exact hq.elim
  | outgrown => exact hq.elim

/-! ### A reading that says less -/
theorem AV.le_nils : AV.le .nils (.slice none []) := fun g v h => by
  cases h
  exact .slice none [] [] none 0 0 rfl (Nat.le_refl _) (by unfold maxLen; omega) (fun i x v h _ => by simp at h) (fun v hv => by simp at hv) (.inl rfl) (fun id hid => by cases hid)
theorem AV.le_own (o : Option Nat) (xs : List AV) : AV.le (.slice o xs) (.slice none xs) := fun g v h => by
  cases h with
  | slice own xs vs A c size hvl hc hm hr hs hcell hown => exact .slice none xs vs A c size hvl hc hm hr hs hcell (fun id hid => by cases hid)
inductive ALe : List AV → List AV → Prop where
  | nil : ALe [] []
  | cons {x y : AV} {xs ys : List AV} : AV.le x y → ALe xs ys → ALe (x :: xs) (y :: ys)
theorem ALe.at {xs ys : List AV} (h : ALe xs ys) : xs.length = ys.length ∧ ∀ (i : Nat) (y : AV), ys[i]? = some y → ∃ x, xs[i]? = some x ∧ AV.le x y := by
  induction h with
  | nil => exact ⟨rfl, fun i y hy => by simp at hy⟩
  | cons h _ ih =>
    refine ⟨by simp [ih.1], fun i y hy => ?_⟩
    cases i with
    | zero => simp at hy; subst hy; exact ⟨_, rfl, h⟩
    | succ i => simpa using ih.2 i y (by simpa using hy)

theorem AV.sub_tup {xs ys : List AV} (h : ALe xs ys) : AV.le (.tup xs) (.tup ys) := fun g v hr => by
  cases hr with
  | tup _ vs hvl hvr =>
    obtain ⟨h1, h2⟩ := h.at
    exact .tup ys vs (by rw [hvl, h1]) fun i y v hy hv => by obtain ⟨x, hx, hxy⟩ := h2 i y hy; exact hxy g v (hvr i x v hx hv)

section
variable {P : Program} {f : FuncId} {args args' : List AV} {k : Nat} {pre post : Foot} {r r' : AV}
theorem ACall.weaken (h : ACall P f args' k pre r post) (hle : ALe args args') : ACall P f args k pre r post := by
  obtain ⟨h1, h2, h3, h4⟩ := h
  obtain ⟨hl, hle⟩ := hle.at
  refine ⟨h1, h2, h3, fun W0 g σ n w vals hS hv hr hf hn hpre => h4 W0 g σ n w vals hS (by rw [hv, hl]) (fun i y v hy hv' => ?_) hf hn hpre⟩
  obtain ⟨x, hx, hxy⟩ := hle i y hy
  exact hxy g v (hr i x v hx hv')
theorem ACall.result (h : ACall P f args k pre r post) (hle : AV.le r r') : ACall P f args k pre r' post := by
  obtain ⟨h1, h2, h3, h4⟩ := h
  refine ⟨h1, h2, h3, fun W0 g σ n w vals hS hv hr hf hn hpre => (h4 W0 g σ n w vals hS hv hr hf hn hpre).mono ?_⟩
  rintro e w' ⟨u, rfl, g', hg, hS', hu⟩
  exact ⟨u, rfl, g', hg, hS', hle _ _ hu⟩
/-- Nil, as a row of its own with no element. -/
theorem ACall.nilrow {e : TypeId} {size : Nat} (h : ACall P f args k [] .nils []) : ACall P f args k [] (.slice (some k) []) [(k, .row e size 0)] := by
  obtain ⟨h1, h2, h3, h4⟩ := h
  refine ⟨h1, h2, fun q hq => by simp at hq; subst hq; exact .inl rfl, fun W0 g σ n w vals hS hv hr hf hn hpre => (h4 W0 g σ n w vals hS hv hr hf hn hpre).mono ?_⟩
  rintro e' w' ⟨u, rfl, g', hg, hS', hu⟩
  cases hu
  obtain ⟨g1, hle1, hS1, hrow1, _⟩ := hS'.addRow (k := k) (e := e) (size := size) (m := 0) (u := .slice none 0 0) (cells := []) hf hn (ownsR_nil w' _ e size) rfl (fun b hb => by simp [Value.ownBlock] at hb) (fun b hb => by simp [Value.ownBlock] at hb)
  refine ⟨.slice none 0 0, rfl, g1, hg.trans hle1, hS1, ?_⟩
  exact .slice (some k) [] [] none 0 0 rfl (Nat.le_refl _) (by unfold maxLen; omega) (fun i x v h _ => by simp at h) (fun v hv => by simp at hv) (.inl rfl) (fun id hid => by cases hid; exact ⟨_, hrow1, Nat.le_refl _, fun _ => rfl⟩)
/-- One argument is a slice without elements: it is what it is. -/
theorem ACall.empty {own : Option Nat} (h : ∀ A c, ACall P f [.lit (.slice A 0 c)] k pre r post) : ACall P f [.slice own []] k pre r post := by
  obtain ⟨h1, h2, h3, _⟩ := h none 0
  refine ⟨h1, h2, h3, fun W0 g σ n w vals hS hv hr hf hn hpre => ?_⟩
  match vals, hv with
  | [v], _ =>
    have := hr 0 _ v rfl rfl
    cases this with
    | slice _ _ vs A c size hvl hc hm _ hs hcell hown =>
      exact (h A c).2.2.2 W0 g σ n w [.slice A 0 c] hS rfl (fun i x v hx hv => by
        cases i with
        | zero => simp at hx hv; subst hx; subst hv; exact .lit _ rfl
        | succ i => simp at hx) hf hn hpre
end

theorem wrap_i64 {x : Int} (h1 : -9223372036854775808 ≤ x) (h2 : x ≤ 9223372036854775807) : IntKind.i64.wrap x = x := by rw [IntKind.wrap_i64]; omega

/-- evBin is unfolded last: rules on values of a known kind come first. -/
@[go_sem low] theorem evBuild_unf : type_of% @evBuild.eq_def := @evBuild.eq_def
@[go_sem low] theorem fillA_nil (place : Nat → Option (Nat × Nat)) (zs : List AV) : fillA place zs [] = some zs := by cases zs <;> rfl
@[go_sem low] theorem fillA_cons (place : Nat → Option (Nat × Nat)) (zs : List AV) (i : Nat) (z : AV) (r : List (Nat × AV)) : fillA place zs ((i, z) :: r) = match zs[i]? with
    | some y => if y.sz == z.sz && place i == some (AV.szl (zs.take i), z.sz) then fillA place (zs.set i z) r else none
    | none => none := by cases zs <;> rfl
@[go_sem low] theorem evBin_unf : type_of% @evBin.eq_def := @evBin.eq_def
attribute [go_sem] evalOp evPick evExtract evNilCheck evMakeFunc evNilEq nilAV isNilV evUn evConvert evIndex evFieldAddr evLoad evStore evAlloc evIndexAddr evBuildSlice evSlice evMakeSlice evLen evMin evMax evAppend evBuiltin evCall evBox evMrow evSliceBox evAppendZ evCopy evClear copySrc evEqA eqA eqAs bytesOf0 bytesOf0_map assertT aeval litBin litInt litUn litStr pickAV upd_same upd_ne sput bnd initS_zero initS_succ initS_nil wrap_i64 wr_nil wr_cons addT aresults aresultL aresult1

/-! ### Steps for a walk by hand -/
def pureOp : Op → Bool
  | .move _ | .assign _ | .pick .. | .extract .. | .nilCheck _ | .makeFunc .. | .binOp .. | .unOp .. | .convert .. | .index .. | .fieldAddr .. | .indexAddr .. | .build .. | .slice .. | .makeInterface .. | .typeAssert .. => true
  | .call { callee := .builtin .len, .. } | .call { callee := .builtin .min, .. } | .call { callee := .builtin .max, .. } => true
  | _ => false
def newOp : Op → Bool
  | .box .. | .alloc _ | .buildSlice .. | .makeSlice .. => true
  | _ => false

section
variable {P : Program} {ops : Array Oper} {m i n : Nat} {T : Trace} {k : Cfg → Trace → Prop} {op : Op} {ty : TypeId} {pos : String} {after : Array Edge} {r : List Oper} {s : Slots} {σ : Nat → Ent} {gd : Option (Nat × Bool)} {d : Option Tmp}

theorem go_pure {t : Tmp} {v : AV} (_hp : pureOp op = true) (he : evalOp P op s σ (m + i) = some ⟨[], v, []⟩) (h : aops P ops m r (i + 1) T k ⟨upd s t v, σ, n⟩) : aops P ops m (⟨some t, op, ty, pos, after, none⟩ :: r) i T k ⟨s, σ, n⟩ := by
  rw [aops_cons, wantedG_none, aguard_true]; exact ⟨_, evalOp_sound he, h⟩
theorem go_move {t : Tmp} {v : AV} {x : Operand} (he : aeval s x = v) (h : aops P ops m r (i + 1) T k ⟨upd s t v, σ, n⟩) : aops P ops m (⟨some t, .move x, ty, pos, after, none⟩ :: r) i T k ⟨s, σ, n⟩ := by
  subst he; exact go_pure rfl rfl h
theorem go_assign {t : Tmp} {v : AV} {x : Operand} (he : aeval s x = v) (h : aops P ops m r (i + 1) T k ⟨upd s t v, σ, n⟩) : aops P ops m (⟨some t, .assign x, ty, pos, after, none⟩ :: r) i T k ⟨s, σ, n⟩ := by
  subst he; exact go_pure rfl rfl h
theorem go_load {t : Tmp} {t' : TypeId} {x : Operand} {v : AV} {p : Nat × Ent} (he : evLoad P σ t' (aeval s x) = some ⟨[p], v, []⟩) (h : aops P ops m r (i + 1) ((i, [p], []) :: T) k ⟨upd s t v, σ, n⟩) : aops P ops m (⟨some t, .load t' x, ty, pos, after, none⟩ :: r) i T k ⟨s, σ, n⟩ := by
  have he' : evalOp P (.load t' x) s σ (m + i) = some ⟨[p], v, []⟩ := he
  rw [aops_cons, wantedG_none, aguard_true]; exact ⟨_, evalOp_sound he', h⟩
theorem go_loadv {t : Tmp} {t' : TypeId} {x : Operand} {v : AV} (he : evLoad P σ t' (aeval s x) = some ⟨[], v, []⟩) (h : aops P ops m r (i + 1) T k ⟨upd s t v, σ, n⟩) : aops P ops m (⟨some t, .load t' x, ty, pos, after, none⟩ :: r) i T k ⟨s, σ, n⟩ := by
  have he' : evalOp P (.load t' x) s σ (m + i) = some ⟨[], v, []⟩ := he
  rw [aops_cons, wantedG_none, aguard_true]; exact ⟨_, evalOp_sound he', h⟩
theorem go_new {t : Tmp} {v : AV} {q : Nat × Ent} (_hp : newOp op = true) (he : evalOp P op s σ (m + i) = some ⟨[], v, [q]⟩) (h : aops P ops m r (i + 1) ((i, [], [q]) :: T) k ⟨upd s t v, upd σ q.1 q.2, n⟩) : aops P ops m (⟨some t, op, ty, pos, after, none⟩ :: r) i T k ⟨s, σ, n⟩ := by
  rw [aops_cons, wantedG_none, aguard_true]; exact ⟨_, evalOp_sound he, h⟩
theorem go_read1 {t : Tmp} {v : AV} {p : Nat × Ent} (_hp : pureOp op = true) (he : evalOp P op s σ (m + i) = some ⟨[p], v, []⟩) (h : aops P ops m r (i + 1) ((i, [p], []) :: T) k ⟨upd s t v, σ, n⟩) : aops P ops m (⟨some t, op, ty, pos, after, none⟩ :: r) i T k ⟨s, σ, n⟩ := by
  rw [aops_cons, wantedG_none, aguard_true]; exact ⟨_, evalOp_sound he, h⟩
theorem go_rw1 {t : Tmp} {v : AV} {p q : Nat × Ent} (_hp : pureOp op = true) (he : evalOp P op s σ (m + i) = some ⟨[p], v, [q]⟩) (h : aops P ops m r (i + 1) ((i, [p], [q]) :: T) k ⟨upd s t v, upd σ q.1 q.2, n⟩) : aops P ops m (⟨some t, op, ty, pos, after, none⟩ :: r) i T k ⟨s, σ, n⟩ := by
  rw [aops_cons, wantedG_none, aguard_true]; exact ⟨_, evalOp_sound he, h⟩
theorem go_new1 {t : Tmp} {v : AV} {q : Nat × Ent} (_hp : pureOp op = true) (he : evalOp P op s σ (m + i) = some ⟨[], v, [q]⟩) (h : aops P ops m r (i + 1) ((i, [], [q]) :: T) k ⟨upd s t v, upd σ q.1 q.2, n⟩) : aops P ops m (⟨some t, op, ty, pos, after, none⟩ :: r) i T k ⟨s, σ, n⟩ := by
  rw [aops_cons, wantedG_none, aguard_true]; exact ⟨_, evalOp_sound he, h⟩
theorem go_appendz {t : Tmp} {x y : Operand} {t' tn : TypeId} {v : AV} {p q : Nat × Ent} (hne : (t' == tn) = false) (he : evAppendZ P σ t' tn (aeval s x) (aeval s y) = some ⟨[p], v, [q]⟩) (h : aops P ops m r (i + 1) ((i, [p], [q]) :: T) k ⟨upd s t v, upd σ q.1 q.2, n⟩) :
    aops P ops m (⟨some t, .call { callee := .builtin .append, args := #[x, y], argTypes := #[t', tn] }, ty, pos, after, none⟩ :: r) i T k ⟨s, σ, n⟩ := by
  have he' : evalOp P (.call { callee := .builtin .append, args := #[x, y], argTypes := #[t', tn] }) s σ (m + i) = some ⟨[p], v, [q]⟩ := by
    have : t' ≠ tn := by simpa using hne
    simp only [evalOp, evCall, evBuiltin, if_neg this]; exact he
  rw [aops_cons, wantedG_none, aguard_true]; exact ⟨_, evalOp_sound he', h⟩
theorem go_copy {t : Tmp} {x y : Operand} {t1 t2 : TypeId} {v : AV} {p q : Nat × Ent} (he : evCopy P σ t1 (aeval s x) (aeval s y) = some ⟨[p], v, [q]⟩) (h : aops P ops m r (i + 1) ((i, [p], [q]) :: T) k ⟨upd s t v, upd σ q.1 q.2, n⟩) :
    aops P ops m (⟨some t, .call { callee := .builtin .copy, args := #[x, y], argTypes := #[t1, t2] }, ty, pos, after, none⟩ :: r) i T k ⟨s, σ, n⟩ := by
  have he' : evalOp P (.call { callee := .builtin .copy, args := #[x, y], argTypes := #[t1, t2] }) s σ (m + i) = some ⟨[p], v, [q]⟩ := he
  rw [aops_cons, wantedG_none, aguard_true]; exact ⟨_, evalOp_sound he', h⟩
theorem go_copy0 {x y : Operand} {t1 t2 : TypeId} {v : AV} {p q : Nat × Ent} (he : evCopy P σ t1 (aeval s x) (aeval s y) = some ⟨[p], v, [q]⟩) (h : aops P ops m r (i + 1) ((i, [p], [q]) :: T) k ⟨s, upd σ q.1 q.2, n⟩) :
    aops P ops m (⟨none, .call { callee := .builtin .copy, args := #[x, y], argTypes := #[t1, t2] }, ty, pos, after, none⟩ :: r) i T k ⟨s, σ, n⟩ := by
  have he' : evalOp P (.call { callee := .builtin .copy, args := #[x, y], argTypes := #[t1, t2] }) s σ (m + i) = some ⟨[p], v, [q]⟩ := he
  rw [aops_cons, wantedG_none, aguard_true]; exact ⟨_, evalOp_sound he', h⟩
theorem go_clear0 {x : Operand} {t1 : TypeId} {v : AV} {p q : Nat × Ent} (he : evClear P σ t1 (aeval s x) = some ⟨[p], v, [q]⟩) (h : aops P ops m r (i + 1) ((i, [p], [q]) :: T) k ⟨s, upd σ q.1 q.2, n⟩) :
    aops P ops m (⟨none, .call { callee := .builtin .clear, args := #[x], argTypes := #[t1] }, ty, pos, after, none⟩ :: r) i T k ⟨s, σ, n⟩ := by
  have he' : evalOp P (.call { callee := .builtin .clear, args := #[x], argTypes := #[t1] }) s σ (m + i) = some ⟨[p], v, [q]⟩ := he
  rw [aops_cons, wantedG_none, aguard_true]; exact ⟨_, evalOp_sound he', h⟩
/-- An operation, by whatever law of its own. -/
theorem go_own {t : Tmp} {st : Step} (hg : ∀ o : Oper, o.op = op → Gives P o s σ (m + i) st) (h : aops P ops m r (i + 1) (addT i st T) k ⟨upd s t st.v, wr σ st.post, n⟩) : aops P ops m (⟨some t, op, ty, pos, after, none⟩ :: r) i T k ⟨s, σ, n⟩ := by
  rw [aops_cons, wantedG_none, aguard_true]; exact ⟨_, hg _ rfl, h⟩
theorem go_store {t' : TypeId} {x y : Operand} {p q : Nat × Ent} (he : evStore P σ t' (aeval s x) (aeval s y) = some ⟨[p], .tup [], [q]⟩) (h : aops P ops m r (i + 1) ((i, [p], [q]) :: T) k ⟨s, upd σ q.1 q.2, n⟩) : aops P ops m (⟨none, .store t' x y, ty, pos, after, none⟩ :: r) i T k ⟨s, σ, n⟩ := by
  have he' : evalOp P (.store t' x y) s σ (m + i) = some ⟨[p], .tup [], [q]⟩ := he
  rw [aops_cons, wantedG_none, aguard_true]; exact ⟨_, evalOp_sound he', h⟩
theorem go_append {t : Tmp} {x y : Operand} {t' : TypeId} {v : AV} {p q : Nat × Ent} (he : evAppend P σ (m + i) t' (aeval s x) (aeval s y) = some ⟨[p], v, [q]⟩) (h : aops P ops m r (i + 1) ((i, [p], [q]) :: T) k ⟨upd s t v, upd σ q.1 q.2, n⟩) :
    aops P ops m (⟨some t, .call { callee := .builtin .append, args := #[x, y], argTypes := #[t', t'] }, ty, pos, after, none⟩ :: r) i T k ⟨s, σ, n⟩ := by
  have he' : evalOp P (.call { callee := .builtin .append, args := #[x, y], argTypes := #[t', t'] }) s σ (m + i) = some ⟨[p], v, [q]⟩ := by
    simp only [evalOp, evCall, evBuiltin, if_true]; exact he
  rw [aops_cons, wantedG_none, aguard_true]; exact ⟨_, evalOp_sound he', h⟩
theorem go_append0 {t : Tmp} {x y : Operand} {t' : TypeId} {v : AV} {q : Nat × Ent} (he : evAppend P σ (m + i) t' (aeval s x) (aeval s y) = some ⟨[], v, [q]⟩) (h : aops P ops m r (i + 1) ((i, [], [q]) :: T) k ⟨upd s t v, upd σ q.1 q.2, n⟩) :
    aops P ops m (⟨some t, .call { callee := .builtin .append, args := #[x, y], argTypes := #[t', t'] }, ty, pos, after, none⟩ :: r) i T k ⟨s, σ, n⟩ := by
  have he' : evalOp P (.call { callee := .builtin .append, args := #[x, y], argTypes := #[t', t'] }) s σ (m + i) = some ⟨[], v, [q]⟩ := by
    simp only [evalOp, evCall, evBuiltin, if_true]; exact he
  rw [aops_cons, wantedG_none, aguard_true]; exact ⟨_, evalOp_sound he', h⟩
/-- A guarded operation: it is carried out, or it is not. -/
theorem go_guardT {g : Nat × Bool} (hw : wantedG ops (some g) s = some true) (h : aops P ops m (⟨d, op, ty, pos, after, none⟩ :: r) i T k ⟨s, σ, n⟩) : aops P ops m (⟨d, op, ty, pos, after, some g⟩ :: r) i T k ⟨s, σ, n⟩ := by
  rw [aops_cons] at h ⊢
  rw [wantedG_none, aguard_true] at h
  rw [hw, aguard_true]
  exact h
theorem go_guardF {g : Nat × Bool} {t : Tmp} (hw : wantedG ops (some g) s = some false) (h : aops P ops m r (i + 1) T k ⟨upd s t (.tup []), σ, n⟩) : aops P ops m (⟨some t, op, ty, pos, after, some g⟩ :: r) i T k ⟨s, σ, n⟩ := by
  rw [aops_cons, hw, aguard_false]; exact h
theorem wantedG_bool {j t : Nat} {want b : Bool} (hd : (ops[j]?).bind (·.dst) = some t) (hs : s t = .lit (.bool b)) : wantedG ops (some (j, want)) s = some (b == want) := by
  simp [wantedG, hd, hs]
theorem wantedG_tup {j t : Nat} {want : Bool} (hd : (ops[j]?).bind (·.dst) = some t) (hs : s t = .tup []) : wantedG ops (some (j, want)) s = some false := by
  simp [wantedG, hd, hs]
theorem go_guard {j g : Nat} {want b : Bool} {t : Tmp} (hd : (ops[j]?).bind (·.dst) = some g) (hs : s g = .lit (.bool b)) (h1 : b = want → aops P ops m (⟨some t, op, ty, pos, after, none⟩ :: r) i T k ⟨s, σ, n⟩) (h2 : b = !want → aops P ops m r (i + 1) T k ⟨upd s t (.tup []), σ, n⟩) :
    aops P ops m (⟨some t, op, ty, pos, after, some (j, want)⟩ :: r) i T k ⟨s, σ, n⟩ := by
  have hw := wantedG_bool (want := want) hd hs
  cases hb : (b == want) with
  | true => rw [hb] at hw; exact go_guardT hw (h1 (by simpa using hb))
  | false => rw [hb] at hw; exact go_guardF hw (h2 (by cases b <;> cases want <;> simp_all))
theorem go_guard_in {j g : Nat} {want : Bool} {t : Tmp} (hd : (ops[j]?).bind (·.dst) = some g) (hs : s g = .lit (.bool want)) (h1 : aops P ops m (⟨some t, op, ty, pos, after, none⟩ :: r) i T k ⟨s, σ, n⟩) :
    aops P ops m (⟨some t, op, ty, pos, after, some (j, want)⟩ :: r) i T k ⟨s, σ, n⟩ := go_guardT (by rw [wantedG_bool hd hs]; simp) h1
theorem go_guard_out {j g : Nat} {want b : Bool} {t : Tmp} (hd : (ops[j]?).bind (·.dst) = some g) (hs : s g = .lit (.bool b)) (hb : b = !want) (h2 : aops P ops m r (i + 1) T k ⟨upd s t (.tup []), σ, n⟩) :
    aops P ops m (⟨some t, op, ty, pos, after, some (j, want)⟩ :: r) i T k ⟨s, σ, n⟩ := go_guardF (by rw [wantedG_bool hd hs, hb]; simp) h2
theorem go_guard_no {j g : Nat} {want : Bool} {t : Tmp} (hd : (ops[j]?).bind (·.dst) = some g) (hs : s g = .tup []) (h2 : aops P ops m r (i + 1) T k ⟨upd s t (.tup []), σ, n⟩) :
    aops P ops m (⟨some t, op, ty, pos, after, some (j, want)⟩ :: r) i T k ⟨s, σ, n⟩ := go_guardF (wantedG_tup hd hs) h2

/-- A guarded operation that only computes: its value, where it is carried out. -/
theorem go_guardS {j g : Nat} {want b : Bool} {t : Tmp} {v : AV} (_hp : pureOp op = true) (hd : (ops[j]?).bind (·.dst) = some g) (hs : s g = .lit (.bool b)) (he : b = want → evalOp P op s σ (m + i) = some ⟨[], v, []⟩) (h : aops P ops m r (i + 1) T k ⟨upd s t (bif b == want then v else .tup []), σ, n⟩) :
    aops P ops m (⟨some t, op, ty, pos, after, some (j, want)⟩ :: r) i T k ⟨s, σ, n⟩ := by
  refine go_guard hd hs (fun hb => go_pure _hp (he hb) ?_) (fun hb => ?_)
  · have : (b == want) = true := by simpa using hb
    rw [this] at h; exact h
  · have : (b == want) = false := by subst hb; cases want <;> rfl
    rw [this] at h; exact h

/-- A call, by its contract. -/
theorem go_call {t : Tmp} {x : Operand} {args : Array Operand} {ts : Array TypeId} {f : FuncId} {caps : List AV} {pre post : Foot} {v : AV} (hx : aeval s x = .fn f caps) (hc : ACall P f (args.toList.map (aeval s) ++ caps) (m + i) pre v post) (hp : ∀ p ∈ pre, σ p.1 = p.2)
    (h : aops P ops m r (i + 1) (addT i ⟨pre, v, post⟩ T) k ⟨upd s t v, wr σ post, n⟩) : aops P ops m (⟨some t, .call { callee := .value x, args := args, argTypes := ts }, ty, pos, after, none⟩ :: r) i T k ⟨s, σ, n⟩ := by
  rw [aops_cons, wantedG_none, aguard_true]
  exact astepX_call (c := ⟨s, σ, n⟩) rfl hx hc hp h
theorem go_nil {c : Cfg} (h : k c T) : aops P ops m [] i T k c := h
end

section
variable {P : Program} {N : Nat} {Q : AExit → Cfg → Prop} {c : Cfg}
theorem go_then {next : Cfg → Prop} (h : next c) : aThen next Q .normal c := h
theorem go_then_exit {next : Cfg → Prop} {id : Nat} (h : Q (.exit id) c) : aThen next Q (.exit id) c := h
theorem go_then_ret {next : Cfg → Prop} (h : Q .ret c) : aThen next Q .ret c := h
theorem go_blk {id : Nat} (h : Q .normal c) : aBlk id Q .normal c := h
theorem go_blk_ret {id : Nat} (h : Q .ret c) : aBlk id Q .ret c := h
theorem go_blk_here {id : Nat} (h : Q .normal c) : aBlk id Q (.exit id) c := by simp [aBlk]; exact h
theorem go_blk_there {id id' : Nat} (hne : (id' == id) = false) (h : Q (.exit id') c) : aBlk id Q (.exit id') c := by
  simp at hne
  simp [aBlk, hne]; exact h
theorem go_kreg {ops : Array Oper} {T : Trace} (h : Q .normal c) : kReg ops false Q c T := by rw [kReg_false]; exact h
theorem go_kreg0 {ops : Array Oper} (h : Q .normal c) : kReg ops true Q c [] := by rw [kReg_true]; exact ⟨trivial, h⟩
theorem go_kreg1 {ops : Array Oper} {x : Nat × Foot × Foot} (h : Q .normal c) : kReg ops true Q c [x] := by rw [kReg_true, CF_one]; exact ⟨trivial, h⟩
theorem go_kregT {ops : Array Oper} {T : Trace} (hT : CF ops T) (h : Q .normal c) : kReg ops true Q c T := by rw [kReg_true]; exact ⟨hT, h⟩
end

/-! ### The end of a walk -/
theorem go_result {P : Program} {rs : List ResultVar} {k : Nat} {σ0 : Nat → Ent} {n0 : Nat} {pre : Foot} {r r' : AV} {c : Cfg} (h1 : aresults P c rs = some r') (h2 : r'.ren (rn n0 k none) = r) (h3 : ∀ id, id < n0 → c.σ id = σ0 id) : aRet P rs k σ0 n0 pre r [] .ret c :=
  ⟨r', r', [], none, h1, AV.le_refl _, h2.symm, h3, (fun q hq => (by cases hq)), rfl⟩
/-- The same, its result read as saying less. -/
theorem go_resultL {P : Program} {rs : List ResultVar} {k : Nat} {σ0 : Nat → Ent} {n0 : Nat} {pre : Foot} {r r0 r' : AV} {c : Cfg} (h1 : aresults P c rs = some r0) (hle : AV.le r0 r') (h2 : r'.ren (rn n0 k none) = r) (h3 : ∀ id, id < n0 → c.σ id = σ0 id) : aRet P rs k σ0 n0 pre r [] .ret c :=
  ⟨r0, r', [], none, h1, hle, h2.symm, h3, (fun q hq => (by cases hq)), rfl⟩
/-- One row, or one box, of the callee's own is handed back. -/
theorem go_result1 {P : Program} {rs : List ResultVar} {k r0 : Nat} {σ0 : Nat → Ent} {n0 : Nat} {pre : Foot} {r r' : AV} {E E' : Ent} {c : Cfg} (h1 : aresults P c rs = some r') (h0 : n0 ≤ r0) (h2 : r'.ren (rn n0 k (some r0)) = r) (h3 : ∀ id, id < n0 → c.σ id = σ0 id)
    (h4 : c.σ r0 = E') (h5 : E'.ren (rn n0 k (some r0)) = E) : aRet P rs k σ0 n0 pre r [(k, E)] .ret c :=
  ⟨r', r', [], some r0, h1, AV.le_refl _, h2.symm, h3, (fun q hq => (by cases hq)), h0, by rw [h4, h5]; rfl⟩
/-- Boxes of the caller's are left as 'ws' says. -/
theorem go_resultW {P : Program} {rs : List ResultVar} {k : Nat} {σ0 : Nat → Ent} {n0 : Nat} {pre post : Foot} {r r' : AV} {c : Cfg} (ws : Foot) (h1 : aresults P c rs = some r') (h2 : r'.ren (rn n0 k none) = r) (h3 : ∀ id, id < n0 → c.σ id = wr σ0 ws id)
    (h4 : ∀ q ∈ ws, ∃ p ∈ pre, p.1 = q.1) (h5 : renF (rn n0 k none) ws = post) : aRet P rs k σ0 n0 pre r post .ret c :=
  ⟨r', r', ws, none, h1, AV.le_refl _, h2.symm, h3, h4, h5.symm⟩

theorem ren_byteAV (f : Nat → Option Nat) (b : UInt8) : (byteAV b).ren f = byteAV b := rfl
theorem renl_bytes (f : Nat → Option Nat) (bs : List UInt8) : AV.renl f (bs.map byteAV) = bs.map byteAV := by
  rw [AV.renl_map, List.map_map]; rfl
theorem renl_append (f : Nat → Option Nat) (xs ys : List AV) : AV.renl f (xs ++ ys) = AV.renl f xs ++ AV.renl f ys := by simp only [AV.renl_map, List.map_append]
@[go_sem] theorem ent_ren_box (f : Nat → Option Nat) (t : TypeId) (x : AV) : (Ent.box t x).ren f = .box t (x.ren f) := rfl
@[go_sem] theorem ent_ren_fbox (f : Nat → Option Nat) (t : TypeId) (x : AV) : (Ent.fbox t x).ren f = .fbox t (x.ren f) := rfl
@[go_sem] theorem ent_ren_row (f : Nat → Option Nat) (e : TypeId) (size n : Nat) : (Ent.row e size n).ren f = .row e size n := rfl
@[go_sem] theorem ent_ren_glob (f : Nat → Option Nat) (h : Nat) (x : AV) : (Ent.glob h x).ren f = .glob h (x.ren f) := rfl
@[go_sem] theorem ent_ren_mrow (f : Nat → Option Nat) (ver : Nat) (e : TypeId) (size : Nat) (xs : List AV) : (Ent.mrow ver e size xs).ren f = .mrow ver e size (AV.renl f xs) := rfl
theorem rn_lt {n0 k id : Nat} {fresh : Option Nat} (h : id < n0) : rn n0 k fresh id = some id := by simp [rn, h]
theorem rn_fresh {n0 k id : Nat} (h : n0 ≤ id) : rn n0 k (some id) id = some k := by simp [rn, Nat.not_lt.2 h]
theorem rn_out {n0 k id : Nat} {fresh : Option Nat} (h : n0 ≤ id) (hne : fresh ≠ some id) : rn n0 k fresh id = none := by simp [rn, Nat.not_lt.2 h, hne]
theorem pick_or (b r : Bool) : pickAV b (.lit (.bool true)) (bif (b == false) then .lit (.bool r) else .tup []) = .lit (.bool (b || r)) := by cases b <;> rfl
theorem pick_and (b r : Bool) : pickAV b (bif (b == true) then .lit (.bool r) else .tup []) (.lit (.bool false)) = .lit (.bool (b && r)) := by cases b <;> rfl
theorem pick_or' (b r : Bool) : pickAV b (.lit (.bool true)) (bif b then .tup [] else .lit (.bool r)) = .lit (.bool (b || r)) := by cases b <;> rfl
theorem pick_and' (b r : Bool) : pickAV b (bif b then .lit (.bool r) else .tup []) (.lit (.bool false)) = .lit (.bool (b && r)) := by cases b <;> rfl
@[go_sem] theorem isAgg_agg (xs : List AV) : (AV.agg xs).isAgg = true := rfl
@[go_sem] theorem isAgg_any : AV.any.isAgg = false := rfl
@[go_sem] theorem isAgg_lit (v : Value) : (AV.lit v).isAgg = false := rfl
@[go_sem] theorem isAgg_nils : AV.nils.isAgg = false := rfl
@[go_sem] theorem isAgg_slice (o : Option Nat) (xs : List AV) : (AV.slice o xs).isAgg = false := rfl
@[go_sem] theorem isAgg_ptr (i : Nat) (p : List Nat) (q : Nat) : (AV.ptr i p q).isAgg = false := rfl
@[go_sem] theorem isAgg_view (x : AV) : (AV.view x).isAgg = false := rfl
@[go_sem] theorem isAgg_fn (f : FuncId) (xs : List AV) : (AV.fn f xs).isAgg = false := rfl
@[go_sem] theorem isAgg_tup (xs : List AV) : (AV.tup xs).isAgg = false := rfl
@[go_sem] theorem isAgg_clip (xs : List AV) : (AV.clip xs).isAgg = false := rfl
@[go_sem] theorem isAgg_ms (a b c d e : Nat) : (AV.ms a b c d e).isAgg = false := rfl
@[go_sem] theorem isAgg_mp (a b : Nat) (p : List Nat) (q : Nat) : (AV.mp a b p q).isAgg = false := rfl
@[go_sem] theorem isAgg_bs (a : Nat) (p : List Nat) (b c d : Nat) : (AV.bs a p b c d).isAgg = false := rfl
@[go_sem] theorem isAgg_iface (t : TypeId) (x : AV) : (AV.iface t x).isAgg = false := rfl
attribute [go_sem] AV.get AV.offs AV.put evBox AV.sz AV.szl AV.cell AV.celll byteAV_sz byteAV_cell if_pos AV.elems AV.ren renl_bytes renl_append AV.renl rn_lt rn_fresh renF

theorem bytes_all1 (bs : List UInt8) : (bs.map byteAV).all (fun x => x.sz == 1) = true := by
  rw [List.all_eq_true]; intro x hx; obtain ⟨b, _, rfl⟩ := List.mem_map.1 hx; rfl
theorem bytes_all2 (bs : List UInt8) : (bs.map byteAV).all (fun x => x.sz == 1 && x.cell) = true := by
  rw [List.all_eq_true]; intro x hx; obtain ⟨b, _, rfl⟩ := List.mem_map.1 hx; rfl
end Go.Ab
