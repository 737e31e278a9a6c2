/- Predicates: Encode, as specified. -/
import Derived.Test.YtaelnglalpiemaaDoorK7
namespace Go.Proofs.YtaelnglalpiemaaDoor
open Go.Ab
attribute [local irreducible] Go.Ab.tyAV Go.Ab.aw Go.Ab.aops Go.Ab.kReg Go.Ab.aThen Go.Ab.aBlk Go.Ab.acond Go.Ab.aguard Go.Ab.astep Go.Ab.AStepX Go.Ab.aRet

set_option maxHeartbeats 4000000 in
theorem Enc_span (kn f t : Nat) (hk : kn = 4 ∨ kn = 5) (hf : f ≤ 67108864) (ht : t ≤ 67108864) (hp0 : PrOk ⟨kn, 0, f, t, [], 0⟩) (h : predB ⟨kn, 0, f, t, [], 0⟩ = true) (d k : Nat) :
    ACall Tryd.prog 68 [prAV ⟨kn, 0, f, t, [], 0⟩] k [(d, bitsG)] (.tup [.slice none ((leb kn ++ (leb f ++ leb t)).map byteAV), .lit (.int .i64 0)]) [] := by
  have c1 := predValid_spec _ hp0 d
  rw [h] at c1
  have c2 := numbers_spec [kn] [] (by simp) (by simp) (by simp; omega) (leb kn) (by simp)
  have hl := leb_len kn 7 (by omega)
  have c3 := numbers_spec [f, t] (leb kn) (by simp) (by simp; omega) (by simp; omega) (leb kn ++ (leb f ++ leb t)) (by simp)
  simp only [List.map_nil, List.map_cons] at c2 c3
  generalize leb kn ++ (leb f ++ leb t) = R at *
  generalize leb kn = L at *
  simp only [prAV] at *
  rcases hk with rfl | rfl
  · refine ACall.of_body mixed Tryd.func68 rfl (by kernel_rfl) Tryd.ntmps68 (by kernel_rfl) rfl (by simp) (by simp) (by simp) fun σ N hp hpn hk hkn hfree => ?_
    have hd := hp _ (List.mem_singleton.2 rfl); have hdn := hpn _ (List.mem_singleton.2 rfl); simp only at hd hdn; clear hp hpn
    have hcs := And.intro c1 (And.intro c2 (And.intro c3 True.intro))
    clear c1 c2 c3
    exact WL
  · refine ACall.of_body mixed Tryd.func68 rfl (by kernel_rfl) Tryd.ntmps68 (by kernel_rfl) rfl (by simp) (by simp) (by simp) fun σ N hp hpn hk hkn hfree => ?_
    have hd := hp _ (List.mem_singleton.2 rfl); have hdn := hpn _ (List.mem_singleton.2 rfl); simp only at hd hdn; clear hp hpn
    have hcs := And.intro c1 (And.intro c2 (And.intro c3 True.intro))
    clear c1 c2 c3
    exact WL
theorem nameB_len {n : List UInt8} (h : nameB n = true) : 1 ≤ n.length ∧ n.length ≤ 16 := by
  unfold nameB at h
  simp only [Bool.and_eq_true, decide_eq_true_eq] at h
  exact h.1
set_option maxHeartbeats 4000000 in
theorem Enc_holder (n : List UInt8) (hn : nameB n = true) (hp0 : PrOk ⟨6, 0, 0, 0, n, 0⟩) (h : predB ⟨6, 0, 0, 0, n, 0⟩ = true) (d k : Nat) :
    ACall Tryd.prog 68 [prAV ⟨6, 0, 0, 0, n, 0⟩] k [(d, bitsG)] (.tup [.slice none ((leb 6 ++ fieldB n).map byteAV), .lit (.int .i64 0)]) [] := by
  have c1 := predValid_spec _ hp0 d
  rw [h] at c1
  have hnl := nameB_len hn
  have c2 := numbers_spec [6] [] (by simp) (by simp) (by simp) (leb 6) (by simp)
  have hl := leb_len 6 7 (by omega)
  have c3 := field_ok_f (leb 6) n (by omega) (by omega)
  simp only [List.map_nil, List.map_cons] at c2 c3
  generalize leb 6 ++ fieldB n = R at *
  generalize leb 6 = L at *
  simp only [prAV] at *
  refine ACall.of_body mixed Tryd.func68 rfl (by kernel_rfl) Tryd.ntmps68 (by kernel_rfl) rfl (by simp) (by simp) (by simp) fun σ N hp hpn hk hkn hfree => ?_
  have hd := hp _ (List.mem_singleton.2 rfl); have hdn := hpn _ (List.mem_singleton.2 rfl); simp only at hd hdn; clear hp hpn
  have hcs := And.intro c1 (And.intro c2 (And.intro c3 True.intro))
  clear c1 c2 c3
  exact WL
set_option maxHeartbeats 4000000 in
theorem Enc_rides (x : Nat) (hx : x ≤ 1000000) (hp0 : PrOk ⟨7, 0, 0, 0, [], x⟩) (h : predB ⟨7, 0, 0, 0, [], x⟩ = true) (d k : Nat) :
    ACall Tryd.prog 68 [prAV ⟨7, 0, 0, 0, [], x⟩] k [(d, bitsG)] (.tup [.slice none ((leb 7 ++ leb x).map byteAV), .lit (.int .i64 0)]) [] := by
  have c1 := predValid_spec _ hp0 d
  rw [h] at c1
  have c2 := numbers_spec [7] [] (by simp) (by simp) (by simp) (leb 7) (by simp)
  have hl := leb_len 7 7 (by omega)
  have c3 := numbers_spec [x] (leb 7) (by simp) (by simp; omega) (by simp; omega) (leb 7 ++ leb x) (by simp)
  simp only [List.map_nil, List.map_cons] at c2 c3
  generalize leb 7 ++ leb x = R at *
  generalize leb 7 = L at *
  simp only [prAV] at *
  refine ACall.of_body mixed Tryd.func68 rfl (by kernel_rfl) Tryd.ntmps68 (by kernel_rfl) rfl (by simp) (by simp) (by simp) fun σ N hp hpn hk hkn hfree => ?_
  have hd := hp _ (List.mem_singleton.2 rfl); have hdn := hpn _ (List.mem_singleton.2 rfl); simp only at hd hdn; clear hp hpn
  have hcs := And.intro c1 (And.intro c2 (And.intro c3 True.intro))
  clear c1 c2 c3
  exact WL
theorem encP_mask {kn : Nat} {m : Int} (hk : kn = 1 ∨ kn = 2 ∨ kn = 3) : encP ⟨kn, m, 0, 0, [], 0⟩ = leb kn ++ eightB m := by
  unfold encP
  simp only
  rw [if_neg (by omega), if_neg (by omega), if_neg (by omega)]
  rfl
theorem encP_span {kn f t : Nat} (hk : kn = 4 ∨ kn = 5) : encP ⟨kn, 0, f, t, [], 0⟩ = leb kn ++ (leb f ++ leb t) := by
  unfold encP
  simp only
  rw [if_pos (by omega)]
  rfl
theorem encP_holder (n : List UInt8) : encP ⟨6, 0, 0, 0, n, 0⟩ = leb 6 ++ fieldB n := rfl
theorem encP_rides (x : Nat) : encP ⟨7, 0, 0, 0, [], x⟩ = leb 7 ++ leb x := rfl
/-- The bytes of a valid predicate. -/
theorem Enc_spec (p : Pr) (hp0 : PrOk p) (h : predB p = true) (d k : Nat) :
    ACall Tryd.prog 68 [prAV p] k [(d, bitsG)] (.tup [.slice none ((encP p).map byteAV), .lit (.int .i64 0)]) [] := by
  cases PV.of h with
  | mask kn m hk hm => rw [encP_mask (by omega)]; exact Enc_mask kn m (by omega) hp0 h d k
  | span kn f t hk => rw [encP_span (by omega)]; exact Enc_span kn f t (by omega) (by omega) (by omega) hp0 h d k
  | holder n hn => exact Enc_holder n hn hp0 h d k
  | rides x hx => exact Enc_rides x hx hp0 h d k

set_option maxHeartbeats 4000000 in
theorem refEnc_mask (kn : Nat) (m : Int) (hk : kn = 1 ∨ kn = 2 ∨ kn = 3) (hp0 : PrOk ⟨kn, m, 0, 0, [], 0⟩) (h : predB ⟨kn, m, 0, 0, [], 0⟩ = true) (k : Nat) :
    ACall Tryd.prog 71 [prAV ⟨kn, m, 0, 0, [], 0⟩] k [] (.tup [.slice none ((leb kn ++ eightB m).map byteAV), .lit (.int .i64 0)]) [] := by
  have c1 := refPred_spec _ hp0
  rw [h] at c1
  have c2 := Number_spec kn
  have hk9 : kn < 128 ^ 9 := by omega
  have hl := leb_len kn 7 (by omega)
  have c3 := Eight_spec m hp0.m0 hp0.m1
  have h8 := eightB_len m
  generalize leb kn = L at *
  generalize eightB m = E at *
  simp only [prAV] at *
  rcases hk with rfl | rfl | rfl
  all_goals (
    refine ACall.of_body mixed Tryd.func71 rfl (by kernel_rfl) Tryd.ntmps71 (by kernel_rfl) rfl (by simp) (by simp) (by simp) fun σ N hp hpn hk hkn hfree => ?_
    have hcs := And.intro c1 (And.intro (fun k => c2 k hk9) (And.intro c3 True.intro))
    clear c1 c2 c3
    exact WL)
set_option maxHeartbeats 4000000 in
theorem refEnc_span (kn f t : Nat) (hk : kn = 4 ∨ kn = 5) (hf : f ≤ 67108864) (ht : t ≤ 67108864) (hp0 : PrOk ⟨kn, 0, f, t, [], 0⟩) (h : predB ⟨kn, 0, f, t, [], 0⟩ = true) (k : Nat) :
    ACall Tryd.prog 71 [prAV ⟨kn, 0, f, t, [], 0⟩] k [] (.tup [.slice none ((leb kn ++ (leb f ++ leb t)).map byteAV), .lit (.int .i64 0)]) [] := by
  have c1 := refPred_spec _ hp0
  rw [h] at c1
  have c2 := Number_spec kn
  have c3 := Number_spec_f f
  have c4 := Number_spec_f t
  have hk9 : kn < 128 ^ 9 := by omega
  have hf9 : f < 128 ^ 9 := by omega
  have ht9 : t < 128 ^ 9 := by omega
  have hl := leb_len kn 7 (by omega)
  have hl2 := leb_len f 7 (by omega)
  have hl3 := leb_len t 7 (by omega)
  generalize leb kn = L at *
  generalize leb f = L1 at *
  generalize leb t = L2 at *
  simp only [prAV] at *
  rcases hk with rfl | rfl
  all_goals (
    refine ACall.of_body mixed Tryd.func71 rfl (by kernel_rfl) Tryd.ntmps71 (by kernel_rfl) rfl (by simp) (by simp) (by simp) fun σ N hp hpn hk hkn hfree => ?_
    have hcs := And.intro c1 (And.intro (fun k => c2 k hk9) (And.intro (fun k => c3 k hf9) (And.intro (fun k => c4 k ht9) True.intro)))
    clear c1 c2 c3 c4
    exact WL)
set_option maxHeartbeats 4000000 in
theorem refEnc_holder (n : List UInt8) (hn : nameB n = true) (hp0 : PrOk ⟨6, 0, 0, 0, n, 0⟩) (h : predB ⟨6, 0, 0, 0, n, 0⟩ = true) (k : Nat) :
    ACall Tryd.prog 71 [prAV ⟨6, 0, 0, 0, n, 0⟩] k [] (.tup [.slice none ((leb 6 ++ fieldB n).map byteAV), .lit (.int .i64 0)]) [] := by
  have c1 := refPred_spec _ hp0
  rw [h] at c1
  have hnl := nameB_len hn
  have c2 := Number_spec 6
  have c3 := Field_spec_f n (by omega)
  have h69 : 6 < 128 ^ 9 := by omega
  have hl := leb_len 6 7 (by omega)
  have hl2 := leb_len n.length 2 (by omega)
  have hf : (fieldB n).length ≤ 30 := by simp only [fieldB, List.length_append]; omega
  generalize leb 6 = L at *
  generalize fieldB n = L1 at *
  simp only [prAV] at *
  refine ACall.of_body mixed Tryd.func71 rfl (by kernel_rfl) Tryd.ntmps71 (by kernel_rfl) rfl (by simp) (by simp) (by simp) fun σ N hp hpn hk hkn hfree => ?_
  have hcs := And.intro c1 (And.intro (fun k => c2 k h69) (And.intro c3 True.intro))
  clear c1 c2 c3
  exact WL
set_option maxHeartbeats 4000000 in
theorem refEnc_rides (x : Nat) (hx : x ≤ 1000000) (hp0 : PrOk ⟨7, 0, 0, 0, [], x⟩) (h : predB ⟨7, 0, 0, 0, [], x⟩ = true) (k : Nat) :
    ACall Tryd.prog 71 [prAV ⟨7, 0, 0, 0, [], x⟩] k [] (.tup [.slice none ((leb 7 ++ leb x).map byteAV), .lit (.int .i64 0)]) [] := by
  have c1 := refPred_spec _ hp0
  rw [h] at c1
  have c2 := Number_spec 7
  have c3 := Number_spec_f x
  have h79 : 7 < 128 ^ 9 := by omega
  have hx9 : x < 128 ^ 9 := by omega
  have hl := leb_len 7 7 (by omega)
  have hl2 := leb_len x 7 (by omega)
  generalize leb 7 = L at *
  generalize leb x = L1 at *
  simp only [prAV] at *
  refine ACall.of_body mixed Tryd.func71 rfl (by kernel_rfl) Tryd.ntmps71 (by kernel_rfl) rfl (by simp) (by simp) (by simp) fun σ N hp hpn hk hkn hfree => ?_
  have hcs := And.intro c1 (And.intro (fun k => c2 k h79) (And.intro (fun k => c3 k hx9) True.intro))
  clear c1 c2 c3
  exact WL
theorem refEnc_spec (p : Pr) (hp0 : PrOk p) (h : predB p = true) (k : Nat) :
    ACall Tryd.prog 71 [prAV p] k [] (.tup [.slice none ((encP p).map byteAV), .lit (.int .i64 0)]) [] := by
  cases PV.of h with
  | mask kn m hk hm => rw [encP_mask (by omega)]; exact refEnc_mask kn m (by omega) hp0 h k
  | span kn f t hk => rw [encP_span (by omega)]; exact refEnc_span kn f t (by omega) (by omega) (by omega) hp0 h k
  | holder n hn => exact refEnc_holder n hn hp0 h k
  | rides x hx => exact refEnc_rides x hx hp0 h k
end Go.Proofs.YtaelnglalpiemaaDoor
