/- Shared: fields: Field, field.Append, field.Read, the specified ones. -/
import Derived.Test.YtaelnglalpiemaaDoorN2
namespace Go.Proofs.YtaelnglalpiemaaDoor
open Go.Ab
attribute [local irreducible] Go.Ab.tyAV Go.Ab.aw Go.Ab.aops Go.Ab.kReg Go.Ab.aThen Go.Ab.aBlk Go.Ab.acond Go.Ab.aguard Go.Ab.astep Go.Ab.AStepX Go.Ab.aRet

def fieldB (x : List UInt8) : List UInt8 := leb x.length ++ x

theorem Field_spec (x : List UInt8) (hx : x.length ≤ 10000000) (k : Nat) : ACall Tryd.prog 73 [.slice none (x.map byteAV)] k [] (.slice (some k) ((fieldB x).map byteAV)) [(k, .row 5 1 ((leb x.length).length + x.length))] := by
  have hl := leb_len x.length 8 (by omega)
  have hc := Number_spec x.length
  have hn9 : x.length < 128 ^ 9 := by omega
  unfold fieldB
  refine ACall.of_body mixed Tryd.func73 rfl (by kernel_rfl) Tryd.ntmps73 (by kernel_rfl) rfl (by simp) (by simp) (by simp) fun σ N hp hpn hk hkn hfree => ?_
  refine Wk ?_
  refine go_callw (hc _ hn9) (by simp (disch := omega) [go_sem, *, -List.reduceReplicate]; try rfl) (by simp (disch := omega) [go_sem, *, -List.reduceReplicate]; repeat' first | exact ALe.nil | exact AV.le_refl _ | exact AV.le_nils | exact AV.le_own _ _ | apply ALe.cons | apply AV.sub_agg) (by simp (disch := omega) [go_sem, *, -List.reduceReplicate]) ?_
  refine Wk ?_
  refine go_result1 (r0 := N+3) (by simp (disch := omega) [go_sem, *, -List.reduceReplicate]; rfl) (by omega) (by simp (disch := omega) [go_sem]; try rfl) (fun id hid => by simp (disch := omega) only [upd_ne, wr_cons, wr_nil]; try exact hlow id hid) (by simp (disch := omega) only [upd_same, upd_ne]; rfl) (by simp (disch := omega) [go_sem])

theorem field_bad (b x : List UInt8) (hx : 1024 < x.length) (k : Nat) : ACall Tryd.prog 70 [.slice none (b.map byteAV), .slice none (x.map byteAV)] k [] (.tup [.nils, .lit (.int .i64 2)]) [] := by
  have hx' : (1024 : Int) < (x.length : Int) := by omega
  refine ACall.of_body mixed Tryd.func70 rfl (by kernel_rfl) Tryd.ntmps70 (by kernel_rfl) rfl (by simp) (by simp) (by simp) fun σ N hp hpn hk hkn hfree => ?_
  exact W0

theorem field_ok (b x : List UInt8) (hb : b.length ≤ 10000000) (hx : x.length ≤ 1024) (k : Nat) : ACall Tryd.prog 70 [.slice none (b.map byteAV), .slice none (x.map byteAV)] k []
    (.tup [.slice (some k) ((b ++ fieldB x).map byteAV), .lit (.int .i64 0)]) [(k, .row 5 1 (b ++ fieldB x).length)] := by
  have hl := leb_len x.length 2 (by omega)
  have hx' : ¬ (1024 : Int) < (x.length : Int) := by omega
  have hc := Append_ok b (by omega) x.length (by omega)
  have hf : (b ++ fieldB x) = b ++ leb x.length ++ x := by simp [fieldB]
  rw [hf, List.length_append, List.length_append]
  refine ACall.of_body mixed Tryd.func70 rfl (by kernel_rfl) Tryd.ntmps70 (by kernel_rfl) rfl (by simp) (by simp) (by simp) fun σ N hp hpn hk hkn hfree => ?_
  have hcs := And.intro hc True.intro
  refine Wk ?_
  refine go_result1 (r0 := N+8) (by simp (disch := omega) [go_sem, *, -List.reduceReplicate]; rfl) (by omega) (by simp (disch := omega) [go_sem]; try rfl) (fun id hid => by simp (disch := omega) only [upd_ne, wr_cons, wr_nil]; try exact hlow id hid) (by simp (disch := omega) only [upd_same, upd_ne]; rfl) (by simp (disch := omega) [go_sem])

theorem Field_spec_f (x : List UInt8) (hx : x.length ≤ 10000000) (k : Nat) : ACall Tryd.prog 73 [.slice none (x.map byteAV)] k [] (.slice none ((fieldB x).map byteAV)) [] := by
  have hl := leb_len x.length 8 (by omega)
  have hc := Number_spec x.length
  have hn9 : x.length < 128 ^ 9 := by omega
  unfold fieldB
  refine ACall.of_body mixed Tryd.func73 rfl (by kernel_rfl) Tryd.ntmps73 (by kernel_rfl) rfl (by simp) (by simp) (by simp) fun σ N hp hpn hk hkn hfree => ?_
  refine Wk ?_
  refine go_callw (hc _ hn9) (by simp (disch := omega) [go_sem, *, -List.reduceReplicate]; try rfl) (by simp (disch := omega) [go_sem, *, -List.reduceReplicate]; repeat' first | exact ALe.nil | exact AV.le_refl _ | exact AV.le_nils | exact AV.le_own _ _ | apply ALe.cons | apply AV.sub_agg) (by simp (disch := omega) [go_sem, *, -List.reduceReplicate]) ?_
  exact WM

theorem field_ok_f (b x : List UInt8) (hb : b.length ≤ 10000000) (hx : x.length ≤ 1024) (k : Nat) : ACall Tryd.prog 70 [.slice none (b.map byteAV), .slice none (x.map byteAV)] k []
    (.tup [.slice none ((b ++ fieldB x).map byteAV), .lit (.int .i64 0)]) [] := by
  have hl := leb_len x.length 2 (by omega)
  have hx' : ¬ (1024 : Int) < (x.length : Int) := by omega
  have hc := Append_ok b (by omega) x.length (by omega)
  have hf : (b ++ fieldB x) = b ++ leb x.length ++ x := by simp [fieldB]
  rw [hf]
  refine ACall.of_body mixed Tryd.func70 rfl (by kernel_rfl) Tryd.ntmps70 (by kernel_rfl) rfl (by simp) (by simp) (by simp) fun σ N hp hpn hk hkn hfree => ?_
  have hcs := And.intro hc True.intro
  exact WL

/-- The field at the beginning of bytes. -/
def rdF (b : List UInt8) : List UInt8 × Nat × Nat :=
  if (rdS b).2.2 ≠ 0 then ([], 0, (rdS b).2.2) else if 1024 < (rdS b).1 then ([], 0, 2) else if b.length - (rdS b).2.1 < (rdS b).1 then ([], 0, 3)
  else ((b.drop (rdS b).2.1).take (rdS b).1, (rdS b).2.1 + (rdS b).1, 0)
def rdFAV (r : List UInt8 × Nat × Nat) : AV := .tup [.slice none (r.1.map byteAV), .lit (.int .i64 r.2.1), .lit (.int .i64 r.2.2)]

theorem rdS_le (b : List UInt8) : (rdS b).2.1 ≤ b.length := by
  rcases rdS_bad b with h | ⟨e, h, _⟩
  · exact (rdS_ok b (n := (rdS b).1) (u := (rdS b).2.1) (by rw [← h])).2.1
  · rw [h]; simp

theorem take_drop_bytes (b : List UInt8) (u n : Nat) : ((b.map byteAV).take (u + n)).drop u = ((b.drop u).take n).map byteAV := by
  rw [List.map_take, List.map_drop, List.drop_take]
  congr 1
  omega

theorem fieldRead_spec (b : List UInt8) (hb : b.length ≤ 10000000) (k : Nat) : ACall Tryd.prog 101 [.slice none (b.map byteAV)] k [] (rdFAV (rdF b)) [] := by
  have c1 := Read_spec b (by omega)
  have hu := rdS_le b
  unfold rdF rdFAV
  generalize rdS b = r at *
  obtain ⟨n, u, e⟩ := r
  simp only [rdAV] at c1 hu ⊢
  by_cases h1 : e ≠ 0
  · rw [if_pos h1]
    have g1 : ¬ (e : Int) = 0 := by omega
    clear h1
    refine ACall.of_body mixed Tryd.func101 rfl (by kernel_rfl) Tryd.ntmps101 (by kernel_rfl) rfl (by simp) (by simp) (by simp) fun σ N hp hpn hk hkn hfree => ?_
    have hcs := And.intro c1 True.intro
    exact WL
  · rw [if_neg h1]
    have e0 : e = 0 := by omega
    subst e0
    clear h1
    by_cases h2 : 1024 < n
    · rw [if_pos h2]
      have g1 : (1024 : Int) < (n : Int) := by omega
      clear h2
      refine ACall.of_body mixed Tryd.func101 rfl (by kernel_rfl) Tryd.ntmps101 (by kernel_rfl) rfl (by simp) (by simp) (by simp) fun σ N hp hpn hk hkn hfree => ?_
      have hcs := And.intro c1 True.intro
      exact WL
    · rw [if_neg h2]
      have g1 : ¬ (1024 : Int) < (n : Int) := by omega
      by_cases h3 : b.length - u < n
      · rw [if_pos h3]
        have g2 : (b.length : Int) - (u : Int) < (n : Int) := by omega
        clear h3 h2
        refine ACall.of_body mixed Tryd.func101 rfl (by kernel_rfl) Tryd.ntmps101 (by kernel_rfl) rfl (by simp) (by simp) (by simp) fun σ N hp hpn hk hkn hfree => ?_
        have hcs := And.intro c1 True.intro
        exact WL
      · rw [if_neg h3]
        have g2 : ¬ (b.length : Int) - (u : Int) < (n : Int) := by omega
        have g3 : ((u : Int) + (n : Int)).toNat = u + n := by omega
        have g4 : u + n ≤ b.length := by omega
        have htd := take_drop_bytes b u n
        have c2 := SClone_spec ((b.drop u).take n) (by rw [List.length_take]; omega)
        have hl : ((b.drop u).take n).length = n := by rw [List.length_take, List.length_drop]; omega
        generalize (b.drop u).take n = y at *
        clear h3 h2
        refine ACall.of_body mixed Tryd.func101 rfl (by kernel_rfl) Tryd.ntmps101 (by kernel_rfl) rfl (by simp) (by simp) (by simp) fun σ N hp hpn hk hkn hfree => ?_
        have hcs := And.intro c1 (And.intro c2 True.intro)
        exact WL

theorem refReadField_spec (b : List UInt8) (hb : b.length ≤ 10000000) (k : Nat) : ACall Tryd.prog 104 [.slice none (b.map byteAV)] k [] (rdFAV (rdF b)) [] := by
  have c1 := refRead_spec b (by omega)
  have hu := rdS_le b
  unfold rdF rdFAV
  generalize rdS b = r at *
  obtain ⟨n, u, e⟩ := r
  simp only [rdAV] at c1 hu ⊢
  by_cases h1 : e ≠ 0
  · rw [if_pos h1]
    have g1 : ¬ (e : Int) = 0 := by omega
    clear h1
    refine ACall.of_body mixed Tryd.func104 rfl (by kernel_rfl) Tryd.ntmps104 (by kernel_rfl) rfl (by simp) (by simp) (by simp) fun σ N hp hpn hk hkn hfree => ?_
    have hcs := And.intro c1 True.intro
    exact WL
  · rw [if_neg h1]
    have e0 : e = 0 := by omega
    subst e0
    clear h1
    by_cases h2 : 1024 < n
    · rw [if_pos h2]
      have g1 : (1024 : Int) < (n : Int) := by omega
      clear h2
      refine ACall.of_body mixed Tryd.func104 rfl (by kernel_rfl) Tryd.ntmps104 (by kernel_rfl) rfl (by simp) (by simp) (by simp) fun σ N hp hpn hk hkn hfree => ?_
      have hcs := And.intro c1 True.intro
      exact WL
    · rw [if_neg h2]
      have g1 : ¬ (1024 : Int) < (n : Int) := by omega
      by_cases h3 : b.length - u < n
      · rw [if_pos h3]
        have g2 : (b.length : Int) - (u : Int) < (n : Int) := by omega
        clear h3 h2
        refine ACall.of_body mixed Tryd.func104 rfl (by kernel_rfl) Tryd.ntmps104 (by kernel_rfl) rfl (by simp) (by simp) (by simp) fun σ N hp hpn hk hkn hfree => ?_
        have hcs := And.intro c1 True.intro
        exact WL
      · rw [if_neg h3]
        have g2 : ¬ (b.length : Int) - (u : Int) < (n : Int) := by omega
        have g3 : ((u : Int) + (n : Int)).toNat = u + n := by omega
        have g4 : u + n ≤ b.length := by omega
        have htd := take_drop_bytes b u n
        have hl : ((b.drop u).take n).length = n := by rw [List.length_take, List.length_drop]; omega
        generalize (b.drop u).take n = y at *
        clear h3 h2
        refine ACall.of_body mixed Tryd.func104 rfl (by kernel_rfl) Tryd.ntmps104 (by kernel_rfl) rfl (by simp) (by simp) (by simp) fun σ N hp hpn hk hkn hfree => ?_
        have hcs := And.intro c1 True.intro
        exact WL
end Go.Proofs.YtaelnglalpiemaaDoor
