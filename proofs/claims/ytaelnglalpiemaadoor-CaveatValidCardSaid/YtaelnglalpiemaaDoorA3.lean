/- Regions: what one operation does to the values and the entities (OpHolds), the walk of a region in the text's order (aops), and that it serves every order that the region's edges allow (wp_region_ab). -/
import Derived.Test.YtaelnglalpiemaaDoorA2
import Derived.Still
namespace Go.Ab
open Go.RowKit

abbrev Slots := Nat → AV
abbrev Foot := List (Nat × Ent)
structure Cfg where
  s : Slots
  σ : Nat → Ent
  n : Nat

def wr (σ : Nat → Ent) (post : Foot) : Nat → Ent := post.foldl (fun σ p => upd σ p.1 p.2) σ
theorem wr_nil (σ : Nat → Ent) : wr σ [] = σ := rfl
theorem wr_cons (σ : Nat → Ent) (p : Nat × Ent) (q : Foot) : wr σ (p :: q) = wr (upd σ p.1 p.2) q := rfl
theorem wr_other (post : Foot) : ∀ (σ : Nat → Ent) (i : Nat), (∀ q ∈ post, q.1 ≠ i) → wr σ post i = σ i := by
  induction post with
  | nil => intro σ i _; rfl
  | cons p r ih =>
    intro σ i h
    rw [wr_cons, ih _ _ fun q hq => h q (List.mem_cons_of_mem _ hq), upd_ne _ _ _ _ (Ne.symm (h p (List.mem_cons_self ..)))]
theorem wr_upd_comm (post : Foot) : ∀ (σ : Nat → Ent) (i : Nat) (E : Ent), (∀ q ∈ post, q.1 ≠ i) → wr (upd σ i E) post = upd (wr σ post) i E := by
  induction post with
  | nil => intro σ i E _; rfl
  | cons p r ih =>
    intro σ i E h
    rw [wr_cons, wr_cons, upd_comm _ _ _ _ _ (Ne.symm (h p (List.mem_cons_self ..))), ih _ _ _ fun q hq => h q (List.mem_cons_of_mem _ hq)]
theorem wr_comm (p q : Foot) : ∀ σ : Nat → Ent, (∀ x ∈ p, ∀ y ∈ q, x.1 ≠ y.1) → wr (wr σ p) q = wr (wr σ q) p := by
  induction p with
  | nil => intro σ _; rfl
  | cons x r ih =>
    intro σ h
    rw [wr_cons, wr_cons, ih _ fun y hy => h y (List.mem_cons_of_mem _ hy), wr_upd_comm q _ _ _ fun y hy => Ne.symm (h x (List.mem_cons_self ..) y hy)]

def sput (s : Slots) (d : Option Tmp) (v : AV) : Slots :=
  match d with
  | some d => upd s d v
  | none => s

def aeval (s : Slots) : Operand → AV
  | .tmp t => s t
  | .const (.slice none 0 0) => .nils
  | .const v => .lit v
  | .func f => .fn f []
  | .global g => .lit (.pointer (some ⟨g, 0, none⟩))

def opndOK : Operand → Bool
  | .const (.agg _) | .const (.tuple _) => false
  | _ => true

structure SimA (W0 : World) (g : Ghost) (N : Nat) (c : Cfg) (a : Act) (w : World) : Prop where
  sim : Sim W0 g c.σ c.n w
  size : a.tmps.size = N
  defers : a.defers = []
  slots : ∀ t, Rep g (c.s t) (a.tmps.getD t undef)

theorem SimA.eval {W0 : World} {g : Ghost} {N : Nat} {c : Cfg} {a : Act} {w : World} (h : SimA W0 g N c a w) {x : Operand} (hx : opndOK x = true) : Rep g (aeval c.s x) (a.eval x) := by
  cases x with
  | tmp t => exact h.slots t
  | const v =>
    cases v with
    | slice A n c' =>
      cases A with
      | some ad => exact .lit _ rfl
      | none =>
        cases n with
        | zero => cases c' with
          | zero => exact .nils
          | succ => exact .lit _ rfl
        | succ => exact .lit _ rfl
    | agg => simp [opndOK] at hx
    | tuple => simp [opndOK] at hx
    | _ => exact .lit _ rfl
  | func f => exact .fn f [] [] rfl (fun i x v h _ => by simp at h)
  | global g' => exact .lit _ rfl

/-- What carrying out an operation comes to: one value, in one world; a call hands it back. -/
def runsUpon (P : Program) (R : Value → World → Prop) : Result Next → Prop
  | .ok (.value u) w' => R u w'
  | .ok .skip w' => R undef w'
  | .ok (.enter f args) w' => Calls P f args w' (fun e w'' => ∃ u, e = .returned u ∧ R u w'')
  | _ => False

def runsTo (P : Program) (o : Oper) (a : Act) (w : World) (R : Value → World → Prop) : Prop := runsUpon P R ((execOp a.eval o).run P w)

theorem wp_of_runsTo {P : Program} {o : Oper} {a : Act} {w : World} {R : Value → World → Prop} {K : Act → World → Prop} {Q : Exit → Act → World → Prop}
    (h : runsTo P o a w R) (hk : ∀ u w', R u w' → K (a.put o.dst u) w') : o.wp P a w K Q := by
  unfold runsTo at h
  unfold Oper.wp
  generalize (execOp a.eval o).run P w = r at *
  cases r with
  | ok x w' =>
    cases x <;> simp only [runsUpon] at h <;> simp only [Oper.upon]
    · exact hk _ _ h
    · exact hk _ _ h
    · refine h.mono fun e w'' ⟨u, he, hu⟩ => ?_
      subst he
      exact hk _ _ hu
  | halt x w' => simp [runsUpon] at h

/-- One operation, by its footprint: what it asks of the entities ('pre'), its value, what it leaves of them ('post'). 'id': the number that is kept free for what it makes. -/
def OpHolds (P : Program) (o : Oper) (s : Slots) (id : Nat) (pre : Foot) (v : AV) (post : Foot) : Prop :=
  (∀ p ∈ pre, p.2 ≠ .none) ∧ (∀ q ∈ post, q.1 = id ∨ ∃ p ∈ pre, p.1 = q.1) ∧
  ∀ (W0 : World) (g : Ghost) (σ : Nat → Ent) (n : Nat) (w : World) (a : Act), Sim W0 g σ n w → (∀ x ∈ o.op.operands, Rep g (aeval s x) (a.eval x)) → σ id = .none → id < n → (∀ p ∈ pre, σ p.1 = p.2) →
    runsTo P o a w fun u w' => ∃ g', g.le g' ∧ Sim W0 g' (wr σ post) n w' ∧ Rep g' v u

theorem OpHolds.congr {P : Program} {o : Oper} {s s' : Slots} {id : Nat} {pre post : Foot} {v : AV} (h : OpHolds P o s id pre v post) (hs : ∀ x ∈ o.op.operands, aeval s x = aeval s' x) : OpHolds P o s' id pre v post :=
  ⟨h.1, h.2.1, fun W0 g σ n w a hS hx => h.2.2 W0 g σ n w a hS fun x hm => by rw [hs x hm]; exact hx x hm⟩

def wantedA (ops : Array Oper) (o : Oper) (s : Slots) : Option Bool :=
  match o.guard with
  | none => some true
  | some (j, want) =>
    match (ops[j]?).bind (·.dst) with
    | none => none
    | some d =>
      match s d with
      | .lit (.bool b) => some (b == want)
      | .tup [] => some false
      | _ => none

theorem wantedA_sound {W0 : World} {g : Ghost} {N : Nat} {c : Cfg} {a : Act} {w : World} (h : SimA W0 g N c a w) {ops : Array Oper} {o : Oper} {b : Bool} (hw : wantedA ops o c.s = some b) :
    Region.wanted o (yielded ops a.tmps) = b := by
  unfold wantedA at hw
  unfold Region.wanted
  cases hg : o.guard with
  | none => rw [hg] at hw; simpa using hw
  | some jw =>
    obtain ⟨j, want⟩ := jw
    rw [hg] at hw
    simp only at hw ⊢
    cases hd : (ops[j]?).bind (·.dst) with
    | none => rw [hd] at hw; cases hw
    | some d =>
      rw [hd] at hw
      simp only at hw
      have hr := h.slots d
      unfold yielded
      rw [hd]
      simp only [Option.bind_some]
      cases ht : a.tmps[d]? with
      | none =>
        have hv : a.tmps.getD d undef = undef := by simp [ht]
        rw [hv] at hr
        cases hs : c.s d with
        | lit v =>
          rw [hs] at hr hw
          cases v <;> simp at hw
          cases hr
        | tup xs =>
          rw [hs] at hw
          cases xs with
          | nil => simp at hw; subst hw; rfl
          | cons => simp at hw
        | _ => rw [hs] at hw; simp at hw
      | some v =>
        have hv : a.tmps.getD d undef = v := by simp [ht]
        rw [hv] at hr
        cases hs : c.s d with
        | lit v' =>
          rw [hs] at hr hw
          cases hr
          cases v <;> simp at hw
          subst hw
          rfl
        | tup xs =>
          rw [hs] at hw hr
          cases xs with
          | nil =>
            simp at hw
            subst hw
            cases hr with
            | tup _ vs hl _ => simp
          | cons => simp at hw
        | _ => rw [hs] at hw; simp at hw

/-! ### One operation of a region -/

structure Step where
  pre : Foot
  v : AV
  post : Foot

instance : Inhabited Step := ⟨⟨[], .tup [], []⟩⟩

def Cfg.after (c : Cfg) (d : Option Tmp) (st : Step) : Cfg := ⟨sput c.s d st.v, wr c.σ st.post, c.n⟩

def StepOK (P : Program) (ops : Array Oper) (o : Oper) (id : Nat) (st : Step) (c : Cfg) : Prop :=
  (wantedA ops o c.s = some true ∧ OpHolds P o c.s id st.pre st.v st.post ∧ ∀ p ∈ st.pre, c.σ p.1 = p.2) ∨
  (wantedA ops o c.s = some false ∧ st = ⟨[], .tup [], []⟩)

def Disj (x y : Step) : Prop := (∀ p ∈ x.post, ∀ q ∈ y.pre ++ y.post, p.1 ≠ q.1) ∧ (∀ p ∈ x.pre, ∀ q ∈ y.post, p.1 ≠ q.1)

theorem Disj.symm {x y : Step} (h : Disj x y) : Disj y x :=
  ⟨fun p hp q hq => (List.mem_append.1 hq).elim (fun hq => Ne.symm (h.2 q hq p hp)) (fun hq => Ne.symm (h.1 q hq p (List.mem_append_right _ hp))),
   fun p hp q hq => Ne.symm (h.1 q hq p (List.mem_append_left _ hp))⟩

theorem sput_comm (s : Slots) {x y : Option Tmp} (v u : AV) (h : ∀ d, x = some d → y ≠ some d) : sput (sput s x v) y u = sput (sput s y u) x v := by
  cases x with
  | none => rfl
  | some d =>
    cases y with
    | none => rfl
    | some e => exact upd_comm _ _ _ _ _ (fun he => h d rfl (by rw [he]))

theorem aeval_sput {s : Slots} {d : Option Tmp} {v : AV} {x : Operand} (h : ∀ e, d = some e → x ≠ .tmp e) : aeval (sput s d v) x = aeval s x := by
  cases d with
  | none => rfl
  | some d =>
    cases x with
    | tmp t => exact upd_ne _ _ _ _ (fun e => h d rfl (by rw [e]))
    | const v =>
      cases v with
      | slice A n c' => cases A <;> cases n <;> cases c' <;> rfl
      | _ => rfl
    | _ => rfl

theorem wantedA_sput {ops : Array Oper} (o : Oper) (s : Slots) (d : Option Tmp) (v : AV) (h : ∀ e, d = some e → e ∉ o.looksAt ops) : wantedA ops o (sput s d v) = wantedA ops o s := by
  unfold wantedA
  cases hg : o.guard with
  | none => rfl
  | some jw =>
    obtain ⟨j, want⟩ := jw
    simp only
    cases ht : (ops[j]?).bind (·.dst) with
    | none => rfl
    | some t =>
      have : sput s d v t = s t := by
        cases d with
        | none => rfl
        | some e => exact upd_ne _ _ _ _ (fun he => h e rfl (by subst he; simp [Oper.looksAt, hg, ht]))
      simp only [this]

theorem OpHolds.sput_iff {P : Program} {ops : Array Oper} {o : Oper} {s : Slots} {id : Nat} {pre post : Foot} {v u : AV} {d : Option Tmp} (h : ∀ e, d = some e → e ∉ o.looksAt ops) :
    OpHolds P o (sput s d u) id pre v post ↔ OpHolds P o s id pre v post := by
  have key : ∀ x ∈ o.op.operands, aeval (sput s d u) x = aeval s x := fun x hx => aeval_sput fun e he hxe => h e he (by
    subst hxe
    exact List.mem_append_left _ (List.mem_filterMap.2 ⟨.tmp e, by simpa using hx, rfl⟩))
  exact ⟨fun h => h.congr key, fun h => h.congr fun x hx => (key x hx).symm⟩

/-- What stands apart from an operation does not turn it. -/
theorem StepOK.after_iff {P : Program} {ops : Array Oper} {oi oj : Oper} {id : Nat} {x y : Step} {c : Cfg} (hap : ∀ e, oi.dst = some e → e ∉ oj.looksAt ops) (hd : ∀ p ∈ x.post, ∀ q ∈ y.pre, p.1 ≠ q.1) :
    StepOK P ops oj id y (c.after oi.dst x) ↔ StepOK P ops oj id y c := by
  unfold StepOK
  simp only [Cfg.after]
  rw [wantedA_sput oj c.s oi.dst x.v hap]
  have hp : (∀ p ∈ y.pre, wr c.σ x.post p.1 = p.2) ↔ (∀ p ∈ y.pre, c.σ p.1 = p.2) :=
    ⟨fun h p hp => by rw [← h p hp, wr_other]; exact fun q hq => hd q hq p hp, fun h p hp => by rw [← h p hp, wr_other]; exact fun q hq => hd q hq p hp⟩
  rw [OpHolds.sput_iff (ops := ops) hap, hp]

theorem Cfg.after_comm {ops : Array Oper} {oi oj : Oper} {x y : Step} (c : Cfg) (hap : oi.apart ops oj = true) (hd : Disj x y) : (c.after oi.dst x).after oj.dst y = (c.after oj.dst y).after oi.dst x := by
  obtain ⟨_, h2, _⟩ := Oper.apart_spec hap
  unfold Cfg.after
  simp only [Cfg.mk.injEq, and_true]
  exact ⟨sput_comm _ _ _ h2, wr_comm _ _ _ fun p hp q hq => hd.1 p hp q (List.mem_append_right _ hq)⟩

/-! ### Any order -/

section
variable (P : Program) (ops : Array Oper) (m : Nat) (out : Nat → Step)

def anyA (Q : Cfg → Prop) : Nat → Array Bool → Cfg → Prop
  | 0, listed, c => Region.ready .any ops listed = [] ∧ Q c
  | fuel + 1, listed, c =>
    (Region.ready .any ops listed = [] → Q c) ∧
    ∀ i ∈ Region.ready .any ops listed, ∃ o, ops[i]? = some o ∧ StepOK P ops o (m + i) (out i) c ∧ anyA Q fuel (listed.setIfInBounds i true) (c.after o.dst (out i))

/-- Behind 'j' waits 'i', by a chain of edges. -/
inductive Dep (ops : Array Oper) : Nat → Nat → Prop where
  | edge (i j : Nat) (o : Oper) (e : Edge) (ho : ops[j]? = some o) (he : e ∈ o.after) (hb : Region.binds .any e = true) (hi : e.on = i) : Dep ops i j
  | trans (i k j : Nat) (h1 : Dep ops i k) (h2 : Dep ops k j) : Dep ops i j

def Closed (listed : Array Bool) : Prop := ∀ (k : Nat) (o : Oper), ops[k]? = some o → listed.getD k false = true → ∀ e ∈ o.after, Region.binds .any e = true → listed.getD e.on false = true

variable {P ops m out}

theorem Dep.listed {i j : Nat} (h : Dep ops i j) {listed : Array Bool} (hc : Closed ops listed) (hj : listed.getD j false = true) : listed.getD i false = true := by
  induction h with
  | edge i j o e ho he hb hi => exact hi ▸ hc j o ho hj e he hb
  | trans i k j _ _ ih1 ih2 => exact ih1 (ih2 hj)

theorem Dep.ready {i j : Nat} (h : Dep ops i j) {listed : Array Bool} (hc : Closed ops listed) (hj : j ∈ Region.ready .any ops listed) : listed.getD i false = true := by
  induction h with
  | edge i j o' e ho' he hb hi =>
    obtain ⟨_, o, ho, hall⟩ := mem_ready.1 hj
    rw [ho] at ho'
    cases ho'
    exact hi ▸ hall e he hb
  | trans i k j h1 _ _ ih2 => exact h1.listed hc (ih2 hj)

theorem Closed.set {listed : Array Bool} (hc : Closed ops listed) {j : Nat} (hj : j ∈ Region.ready .any ops listed) : Closed ops (listed.setIfInBounds j true) := by
  intro k o ho hk e he hb
  by_cases hkj : k = j
  · subst hkj
    obtain ⟨_, o', ho', hall⟩ := mem_ready.1 hj
    rw [ho] at ho'
    cases ho'
    exact getD_set_true (hall e he hb)
  · rw [getD_set_ne false (Ne.symm hkj)] at hk
    exact getD_set_true (hc k o ho hk e he hb)

theorem not_listed_of {listed : Array Bool} {i : Nat} (h : listed.getD i true = false) : listed.getD i false = false := by
  rcases Nat.lt_or_ge i listed.size with h' | h'
  · simpa [h'] using h
  · simp [Array.getElem?_eq_none h'] at h

theorem anyA_first {Q : Cfg → Prop} {i : Nat} {oi : Oper} (hi : ops[i]? = some oi) :
    ∀ (fuel : Nat) (listed : Array Bool) (c : Cfg), Closed ops listed →
      (∀ j oj, ops[j]? = some oj → j ≠ i → listed.getD j true = false → (∀ e ∈ oj.after, Region.binds .any e = true → e.on ≠ i) → oi.apart ops oj = true) →
      (∀ j, j ≠ i → listed.getD j true = false → ¬ Dep ops i j → Disj (out i) (out j)) →
      i ∈ Region.ready .any ops listed → StepOK P ops oi (m + i) (out i) c →
      anyA P ops m out Q fuel (listed.setIfInBounds i true) (c.after oi.dst (out i)) → anyA P ops m out Q (fuel + 1) listed c := by
  intro fuel
  induction fuel with
  | zero =>
    intro listed c _ _ _ hr hy H
    refine ⟨fun h => (by rw [h] at hr; cases hr), fun j hj => ?_⟩
    by_cases hji : j = i
    · subst hji; exact ⟨oi, hi, hy, H⟩
    · have := ready_mono hj hji
      rw [H.1] at this
      cases this
  | succ fuel ih =>
    intro listed c hcl hfree hdis hr hy H
    refine ⟨fun h => (by rw [h] at hr; cases hr), fun j hj => ?_⟩
    by_cases hji : j = i
    · subst hji; exact ⟨oi, hi, hy, H⟩
    · obtain ⟨oj, hoj, hsj, hrest⟩ := H.2 j (ready_mono hj hji)
      obtain ⟨hjun, oj', hoj', hall⟩ := mem_ready.1 hj
      rw [hoj] at hoj'
      cases hoj'
      have hiun := not_listed_of (mem_ready.1 hr).1
      have hnot : ∀ e ∈ oj.after, Region.binds .any e = true → e.on ≠ i := fun e he hb heq => by
        have h1 := hall e he hb
        rw [heq, hiun] at h1
        cases h1
      have hnd : ¬ Dep ops i j := fun hd => by
        have := hd.ready hcl hj
        rw [hiun] at this
        cases this
      have hap := hfree j oj hoj hji hjun hnot
      have hd := hdis j hji hjun hnd
      obtain ⟨h1, _, h3⟩ := Oper.apart_spec hap
      have hsj' : StepOK P ops oj (m + j) (out j) c := (StepOK.after_iff h1 fun p hp q hq => hd.1 p hp q (List.mem_append_left _ hq)).1 hsj
      have hsi' : StepOK P ops oi (m + i) (out i) (c.after oj.dst (out j)) := (StepOK.after_iff h3 fun p hp q hq => Ne.symm (hd.2 q hq p hp)).2 hy
      refine ⟨oj, hoj, hsj', ih (listed.setIfInBounds j true) _ (hcl.set hj) ?_ ?_ (ready_mono hr (Ne.symm hji)) hsi' ?_⟩
      · intro k ok hk hki hun hno
        refine hfree k ok hk hki ?_ hno
        by_cases hjk : j = k
        · subst hjk; exact hjun
        · rw [getD_set_ne true hjk] at hun; exact hun
      · intro k hki hun hno
        refine hdis k hki ?_ hno
        by_cases hjk : j = k
        · subst hjk; exact hjun
        · rw [getD_set_ne true hjk] at hun; exact hun
      · rw [Array.setIfInBounds_comm _ _ hji, ← Cfg.after_comm c hap hd]
        exact hrest

def lexA (P : Program) (ops : Array Oper) (m : Nat) (out : Nat → Step) (Q : Cfg → Prop) : List Oper → Nat → Cfg → Prop
  | [], _, c => Q c
  | o :: r, k, c => StepOK P ops o (m + k) (out k) c ∧ lexA P ops m out Q r (k + 1) (c.after o.dst (out k))

theorem anyA_lex {Q : Cfg → Prop} (hdis : ∀ i j, i < j → ¬ Dep ops i j → Disj (out i) (out j)) : ∀ (l : List Oper) (k : Nat) (listed : Array Bool) (c : Cfg), (∀ j, l[j]? = ops[k + j]?) → Closed ops listed →
    (∀ j, j < k → listed.getD j true = true) → Region.lexFrom .any ops l.length k listed = true → lexA P ops m out Q l k c → anyA P ops m out Q l.length listed c
  | [], _, _, _, _, _, _, hB, h => ⟨by simpa [Region.lexFrom] using hB, h⟩
  | o :: l, k, listed, c, hl, hcl, hlow, hB, h => by
    have h0 : ops[k]? = some o := by simpa using (hl 0).symm
    simp only [List.length_cons, Region.lexFrom, Bool.and_eq_true] at hB
    obtain ⟨⟨hr, hf⟩, hB'⟩ := hB
    have hr' : k ∈ Region.ready .any ops listed := by simpa using hr
    refine anyA_first h0 l.length listed c hcl (Region.free_spec h0 hf) (fun j hj hun hno => ?_) hr' h.1 ?_
    · refine hdis k j ?_ hno
      rcases Nat.lt_trichotomy j k with h' | h' | h'
      · rw [hlow j h'] at hun; cases hun
      · exact absurd h' hj
      · exact h'
    · refine anyA_lex hdis l (k + 1) _ _ (fun j => by have := hl (j + 1); simpa [Nat.add_assoc, Nat.add_comm 1 j] using this) (hcl.set hr') (fun j hj => ?_) hB' h.2
      by_cases hjk : j = k
      · subst hjk
        rcases Nat.lt_or_ge j listed.size with h' | h'
        · simp [h']
        · simp
      · rw [getD_set_ne true (Ne.symm hjk)]; exact hlow j (by omega)
end

/-! ### From the values to the world -/

theorem putA_rep {g : Ghost} {s : Slots} {a : Act} {N : Nat} (hs : ∀ t, Rep g (s t) (a.tmps.getD t undef)) (hN : a.tmps.size = N) {d : Option Tmp} (hd : ∀ e, d = some e → e < N) {x : AV} {u : Value} (hx : Rep g x u) :
    ∀ t, Rep g (sput s d x t) ((a.put d u).tmps.getD t undef) := by
  intro t
  cases d with
  | none => exact hs t
  | some d =>
    by_cases htd : t = d
    · subst htd
      have : t < a.tmps.size := by rw [hN]; exact hd t rfl
      simp [Act.put, sput, upd_same, this]
      exact hx
    · have h1 : sput s (some d) x t = s t := upd_ne _ _ _ _ htd
      rw [h1]
      have := hs t
      simpa [Act.put, Array.getElem?_setIfInBounds_ne (Ne.symm htd)] using this

theorem put_size (a : Act) (d : Option Tmp) (u : Value) : (a.put d u).tmps.size = a.tmps.size := by cases d <;> simp [Act.put]
theorem put_defers (a : Act) (d : Option Tmp) (u : Value) : (a.put d u).defers = a.defers := by cases d <;> rfl

/-- The operations' own shape: constants of one cell, slots that lie in the frame. -/
def shapeOK (N : Nat) (ops : Array Oper) : Bool := ops.all fun o => o.op.operands.all opndOK && (match o.dst with | some d => decide (d < N) | none => true)

theorem shapeOK_at {N : Nat} {ops : Array Oper} (h : shapeOK N ops = true) {i : Nat} {o : Oper} (hi : ops[i]? = some o) : (∀ x ∈ o.op.operands, opndOK x = true) ∧ (∀ d, o.dst = some d → d < N) := by
  have := Array.all_eq_true_iff_forall_mem.1 h o (Array.mem_of_getElem? hi)
  simp only [Bool.and_eq_true] at this
  refine ⟨fun x hx => Array.all_eq_true_iff_forall_mem.1 this.1 x hx, fun d hd => ?_⟩
  have h2 := this.2
  rw [hd] at h2
  simpa using h2

section
variable {P : Program} {ops : Array Oper} {m N : Nat} {out : Nat → Step} {W0 : World}

/-- One step, in the world. -/
theorem StepOK.run {o : Oper} {i : Nat} {c : Cfg} {g : Ghost} {a : Act} {w : World} {K : Act → World → Prop} {Q' : Exit → Act → World → Prop} (hi : ops[i]? = some o) (hN : shapeOK N ops = true) (h : StepOK P ops o (m + i) (out i) c)
    (hS : SimA W0 g N c a w) (hfree : c.σ (m + i) = .none) (hlt : m + i < c.n)
    (hK : ∀ g' a' w', g.le g' → SimA W0 g' N (c.after o.dst (out i)) a' w' → K a' w') : wpOp P ops Q' i K a w := by
  obtain ⟨hop, hdst⟩ := shapeOK_at hN hi
  unfold wpOp
  simp only [hi]
  rcases h with ⟨hw, ho, hp⟩ | ⟨hw, hst⟩
  · rw [wantedA_sound hS hw, if_pos rfl]
    refine .inl (wp_of_runsTo (ho.2.2 W0 g c.σ c.n w a hS.sim (fun x hx => hS.eval (hop x hx)) hfree hlt hp) fun u w' ⟨g', hle, hsim, hrep⟩ => ?_)
    exact hK g' _ _ hle ⟨hsim, by rw [put_size]; exact hS.size, by rw [put_defers]; exact hS.defers, putA_rep (fun t => (hS.slots t).mono hle) hS.size hdst hrep⟩
  · rw [wantedA_sound hS hw, if_neg (by simp)]
    refine hK g _ _ g.le_refl ⟨?_, by rw [put_size]; exact hS.size, by rw [put_defers]; exact hS.defers, ?_⟩
    · rw [hst]; exact hS.sim
    · rw [hst]
      exact putA_rep hS.slots hS.size hdst (.tup [] [] rfl fun i x v h _ => by simp at h)

theorem StepOK.post_ids {o : Oper} {i : Nat} {st : Step} {c : Cfg} (h : StepOK P ops o (m + i) st c) : ∀ q ∈ st.post, q.1 = m + i ∨ c.σ q.1 ≠ .none := by
  rcases h with ⟨_, ho, hp⟩ | ⟨_, rfl⟩
  · intro q hq
    rcases ho.2.1 q hq with h1 | ⟨p, hpm, hpq⟩
    · exact .inl h1
    · exact .inr (by rw [← hpq, hp p hpm]; exact ho.1 p hpm)
  · intro q hq; cases hq

theorem anyA_sound {Q : Cfg → Prop} {Q' : Exit → Act → World → Prop} (g0 : Ghost) (hN : shapeOK N ops = true) (hQ : ∀ c g a w, g0.le g → SimA W0 g N c a w → Q c → Q' .normal a w) :
    ∀ (fuel : Nat) (listed : Array Bool) (c : Cfg) (g : Ghost) (a : Act) (w : World), g0.le g → SimA W0 g N c a w → m + ops.size ≤ c.n → (∀ j, j < ops.size → listed.getD j true = false → c.σ (m + j) = .none) →
      anyA P ops m out Q fuel listed c → wpAny P .any ops Q' fuel listed a w
  | 0, _, c, g, a, w, hg, hS, _, _, h => ⟨h.1, hQ c g a w hg hS h.2⟩
  | fuel + 1, listed, c, g, a, w, hg, hS, hn, hf, h => by
    refine ⟨fun h0 => hQ c g a w hg hS (h.1 h0), fun i hi => ?_⟩
    obtain ⟨o, ho, hst, hrest⟩ := h.2 i hi
    have hlt : i < ops.size := (Array.getElem?_eq_some_iff.1 ho).1
    have hun := (mem_ready.1 hi).1
    refine hst.run ho hN hS (hf i hlt hun) (by omega) fun g' a' w' hle hS' => ?_
    refine anyA_sound g0 hN hQ fuel _ _ g' a' w' (hg.trans hle) hS' hn (fun j hj hjun => ?_) hrest
    have hji : j ≠ i := by
      rintro rfl
      rcases Nat.lt_or_ge j listed.size with h' | h'
      · simp [h'] at hjun
      · simp at hjun
    have hjun' : listed.getD j true = false := by rw [getD_set_ne true (Ne.symm hji)] at hjun; exact hjun
    have hnone := hf j hj hjun'
    show wr c.σ (out i).post (m + j) = .none
    rw [wr_other]
    · exact hnone
    · intro q hq he
      rcases hst.post_ids q hq with h1 | h1
      · omega
      · rw [he] at h1; exact h1 hnone

theorem lexA_sound {Q : Cfg → Prop} {Q' : Exit → Act → World → Prop} (g0 : Ghost) (hN : shapeOK N ops = true) (hQ : ∀ c g a w, g0.le g → SimA W0 g N c a w → Q c → Q' .normal a w) :
    ∀ (l : List Oper) (k : Nat) (c : Cfg) (g : Ghost) (a : Act) (w : World), (∀ j, l[j]? = ops[k + j]?) → k + l.length = ops.size → g0.le g → SimA W0 g N c a w → m + ops.size ≤ c.n → (∀ j, k ≤ j → j < ops.size → c.σ (m + j) = .none) →
      lexA P ops m out Q l k c → wpOps P ops Q' (List.range' k l.length) a w
  | [], k, c, g, a, w, _, _, hg, hS, _, _, h => by simpa [wpOps] using hQ c g a w hg hS h
  | o :: l, k, c, g, a, w, hl, hk, hg, hS, hn, hf, h => by
    have h0 : ops[k]? = some o := by simpa using (hl 0).symm
    simp only [List.length_cons] at hk ⊢
    rw [List.range'_succ, wpOps_cons]
    refine h.1.run h0 hN hS (hf k (Nat.le_refl _) (by omega)) (by omega) fun g' a' w' hle hS' => ?_
    refine lexA_sound g0 hN hQ l (k + 1) _ g' a' w' (fun j => by have := hl (j + 1); simpa [Nat.add_assoc, Nat.add_comm 1 j] using this) (by omega) (hg.trans hle) hS' hn (fun j hj hjs => ?_) h.2
    have hnone := hf j (by omega) hjs
    show wr c.σ (out k).post (m + j) = .none
    rw [wr_other]
    · exact hnone
    · intro q hq he
      rcases h.1.post_ids q hq with h1 | h1
      · omega
      · rw [he] at h1; exact h1 hnone
end
end Go.Ab
