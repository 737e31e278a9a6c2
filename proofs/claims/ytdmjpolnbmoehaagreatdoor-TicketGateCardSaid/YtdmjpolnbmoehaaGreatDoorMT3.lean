/- Texts W2, Q6, W8, W9, X12, joined. -/
import Derived.Test.YtdmjpolnbmoehaaGreatDoorMT2

namespace Go.Proofs.YtdmjpolnbmoehaaGreatDoor
open Go.Ab
attribute [local irreducible] Go.Ab.tyAV Go.Ab.aw Go.Ab.aops Go.Ab.kReg Go.Ab.aThen Go.Ab.aBlk Go.Ab.acond Go.Ab.aguard Go.Ab.astep Go.Ab.AStepX Go.Ab.aRet
attribute [local irreducible] shaG
section
variable [W : W32]
end

section
variable [W : W32]
theorem Look_spec (a : Alg) (key : Tg) (msg : List UInt8) (hl : a.macs.length ≤ 1000000) (hm : ∀ e ∈ a.macs, e.msg.length ≤ 100000) (h0 : 0 < msg.length) (hmsg : msg.length ≤ 1000000) (g k : Nat) :
  ACall Tryz.prog 66 [algAV a, tagAV key, .slice none (msg.map byteAV)] k [(g, shaG)] (entAV (lookO a key msg)) [] := by
 have c1 := find_spec a.macs key msg hl hm hmsg
 obtain ⟨fr, sd, fs, L, B⟩ := a
 simp only at hl hm c1
 unfold lookO
 cases fr with
 | true =>
  simp only [if_true]
  cases he : entL key msg L with
  | none =>
   rw [fI_none L 0 he] at c1
   unfold entAV
   simp only [Option.getD_none, Option.isSome_none, algAV]
   clear hm he
   refine Bd Tryz.func66 Tryz.ntmps66 fun σ N hp hpn hk hkn hfree => ?_
   obtain ⟨hd, hdn⟩ := HD0 hp hpn; clear hp hpn
   have hcs := And.intro c1 True.intro
   clear c1
   exact W0
  | some t =>
   obtain ⟨i, hi, hfi, hti⟩ := fI_some L 0 he
   rw [hfi, Nat.zero_add] at c1
   obtain ⟨z, hz⟩ : ∃ z, L[i] = z := ⟨_, rfl⟩
   rw [hz] at hti
   obtain ⟨zk, zm, zt⟩ := z
   simp only at hti
   subst hti
   have hzd : macAV ⟨zk, zm, zt⟩ = .agg [tagAV zk, bAV zm, tagAV zt] := rfl
   have hi0 : ¬ (i : Int) < 0 := by omega
   unfold entAV
   simp only [Option.getD_some, Option.isSome_some, algAV]
   clear hm he hfi
   refine Bd Tryz.func66 Tryz.ntmps66 fun σ N hp hpn hk hkn hfree => ?_
   obtain ⟨hd, hdn⟩ := HD0 hp hpn; clear hp hpn
   have hcs := And.intro c1 True.intro
   clear c1
   exact W0
 | false =>
  simp only [Bool.false_eq_true, if_false]
  clear c1 hm
  by_cases h1 : 4096 < msg.length
  ·rw [if_pos h1]
   have h1i : (4096 : Int) < (msg.length : Int) := by omega
   unfold entAV
   simp only [Option.getD_none, Option.isSome_none, algAV]
   refine Bd Tryz.func66 Tryz.ntmps66 fun σ N hp hpn hk hkn hfree => ?_
   obtain ⟨hd, hdn⟩ := HD0 hp hpn; clear hp hpn
   exact W0
  ·rw [if_neg h1]
   have h1i : ¬ (4096 : Int) < (msg.length : Int) := by omega
   have c2 := hmacOf_spec key.1 msg (by rw [key.2]; decide) h0 (by omega) g
   generalize hmacT key.1 msg = t at *
   have hs1 := tagAV_sz key
   have hs2 := tagAV_cell key
   obtain ⟨K, hK⟩ := key
   have hkA : tagAV ⟨K, hK⟩ = .agg (K.map byteAV) := rfl
   simp only [hkA] at hs1 hs2 c2 ⊢
   clear hkA
   have hs3 : AV.celll (K.map byteAV) = true := celll_bytes K
   have htk : (K.map byteAV).take 32 = K.map byteAV := List.take_of_length_le (by rw [List.length_map]; omega)
   unfold entAV
   simp only [Option.getD_some, Option.isSome_some, algAV]
   refine Bd Tryz.func66 Tryz.ntmps66 fun σ N hp hpn hk hkn hfree => ?_
   obtain ⟨hd, hdn⟩ := HD0 hp hpn; clear hp hpn
   have hcs := And.intro c2 True.intro
   clear c2
   exact W0
end

section
variable [W : W32]
end

section
variable [W : W32]
end

section
variable [W : W32]
theorem gate_ok {con : Co} {se : Int} {S : Ss} {n m : Nat} (h : Good con se S n m) (hm : m ≤ 1000) (hn : n ≤ 6) (c0 : 0 ≤ con.party) (c7 : con.party ≤ 7) {t : Te} (ht : teB t = true) :
  ∃ (a1 a4 : Alg) (kt t2 t4 : Tg) (tk bx : List UInt8), blankS S.A con t = (a1, ⟨con.party, kt, tk⟩, 0) ∧ AlgIn a1 (m + 2) ∧ tk.length ≤ 90 ∧
   addS a1 S.p ⟨con.party, kt, tk⟩ = (a4, ⟨S.p.epoch, S.p.serial, S.p.cavs ++ [⟨true, zeroPr, con.party, tk, bx⟩], t4⟩, 0) ∧ AlgIn a4 (m + 6) ∧ bx.length ≤ 90 ∧
   lookO a4 S.p.tag (sealM tk) = some t2 ∧ openS a4 t2 bx = (kt.1, 0) := by
 obtain ⟨hk, hb2, hB⟩ := blankS_ok h.ain (by omega) (c := con) (t := t) ht c0 c7
 have okk := h.ok.key
 have ok1 := okk.sealed con.key (keyS S.A).1.fresh (plainT (keyS S.A).2.1 t)
 have ink := keyS_in h.ain
 have in1 := sealS_in ink con.key (keyS S.A).1.fresh (plainT (keyS S.A).2.1 t)
 have hpl := plainT_len (keyS S.A).2.1 t ht
 have htl := sealS_box okk hb2
 clear hk
 generalize (keyS S.A).2.1 = kt at *
 generalize plainT kt t = pl at *
 generalize sealS (keyS S.A).1 con.key (keyS S.A).1.fresh pl = X at *
 obtain ⟨a1, tk, e1⟩ := X
 simp only at *
 have tk1 : 1 ≤ tk.length := by omega
 have tk2 : tk.length ≤ 90 := by omega
 obtain ⟨A1, A2, A3, A4⟩ := addS_ok ok1 in1 (by omega) (p := S.p) (b := ⟨con.party, kt, tk⟩) (by have := h.cl; omega) (by have := h.th; omega) c0 c7 tk1 (by simp only; omega)
 simp only at A1 A2 A3 A4
 have in2 := macS_in in1 S.p.tag (sealM tk)
 have ok2 := ok1.mac S.p.tag (sealM tk)
 have lk2 := look_mac ok1 A1
 generalize macS a1 S.p.tag (sealM tk) = Y at *
 obtain ⟨a2, t2, e2⟩ := Y
 simp only at *
 have in3 := sealS_in in2 t2 0 kt.1
 have lk3 := look_seal A2 S.p.tag (sealM tk)
 rw [lk2] at lk3
 have op3 := open_seal ok2 (by have := in2.bl; omega) A2
 have bxl := sealS_box ok2 A2
 rw [kt.2] at bxl
 generalize sealS a2 t2 0 kt.1 = Z at *
 obtain ⟨a3, bx, e3⟩ := Z
 simp only at *
 have hat := attS_ok in3 (by omega) (p := S.p) A3 (by have := h.cl; omega) (fun _ => by have := h.th; omega)
 have hcm := cavM_len ⟨true, zeroPr, con.party, tk, bx⟩
 obtain ⟨n1, n2, n3⟩ := nodeS_ok in3 (by omega) S.p.tag (msg := cavM ⟨true, zeroPr, con.party, tk, bx⟩) (by omega)
 have in4 := nodeS_in in3 S.p.tag (cavM ⟨true, zeroPr, con.party, tk, bx⟩)
 have op4 : openS (nodeS a3 S.p.tag (cavM ⟨true, zeroPr, con.party, tk, bx⟩)).1 t2 bx = (kt.1, 0) := by
  rw [n3]; simp only; rw [open_mac n2, open_mac n1]; exact op3
 have lk4 : lookO (nodeS a3 S.p.tag (cavM ⟨true, zeroPr, con.party, tk, bx⟩)).1 S.p.tag (sealM tk) = some t2 := by
  rw [n3]; simp only; exact look_mono n2 (look_mono n1 lk3)
 exact ⟨a1, _, kt, t2, _, tk, bx, hB, in1.more (by omega), tk2, A4.trans hat, in4.more (by omega), by omega, lk4, op4⟩
set_option maxHeartbeats 4000000 in
theorem TicketGate_core (xs : List Int) (hx : xs.length ≤ 9223372036854775807) (g h : Nat) (k : Nat) :
  ACall Tryz.prog 13 [.slice none (xs.map intAV)] k [(g, shaG), (h, bitsG)] (.lit (.bool true)) [] := by
 have c1 := New_spec xs
 obtain ⟨s, j, hs, hj, c2⟩ := Scene_ex xs 0 ⟨hx, Nat.zero_le _⟩
 obtain ⟨se, hG, s1, s2⟩ := hs.good
 obtain ⟨hp0, hp7⟩ := hs.cp
 have hcl := hG.cl
 have hth := hG.th
 have hcv := hG.cv
 obtain ⟨a1, a4, kt, t2, t4, tk, bx, f1, f2, f3, f4, f5, f6, f7, f8⟩ := gate_ok hG (by decide) (by decide) hp0 hp7 (t := ⟨0, 50⟩) rfl
 have c3 := refThirds_spec s.pass.cavs (by simp only at hcl; omega)
 have c4 := Blank_spec s.alg 1000 hG.ain (by decide) s.con ⟨0, 50⟩ g
 have c5 := Add_spec a1 1002 f2 (by decide) s.pass (by simp only at hcl; omega) (fun x hx => by have := hcv x hx; exact ⟨by omega, by omega⟩) ⟨s.con.party, kt, tk⟩ (by simp only; omega) g h
 have c6 := refSealM_spec tk (by omega)
 have c7 := Look_spec a4 s.pass.tag (sealM tk) (by have := f5.ml; omega) f5.mm (by simp [sealM]) (by simp [sealM]; omega) g
 have c8 := pOpen_spec a4 1006 f5 (by decide) t2 bx (by omega) g
 have c9 := Same_refl kt.1 (by rw [kt.2]; decide)
 have c10 := Same_refl tk (by omega)
 have c11 := awake14_spec g
 simp only at f1 f4 f7 hcl hth
 rw [f1] at c4
 rw [f4] at c5
 rw [f7] at c7
 rw [f8] at c8
 obtain ⟨sa, sr, sc, ⟨pe, ps, pc, pt⟩, sg, sq, sh, sm⟩ := s
 simp only at *
 obtain ⟨K, hK⟩ := kt
 have hs1 := tagAV_sz ⟨K, hK⟩
 have hs2 := tagAV_cell ⟨K, hK⟩
 have hkA : tagAV ⟨K, hK⟩ = .agg (K.map byteAV) := rfl
 have hs3 : AV.celll (K.map byteAV) = true := celll_bytes K
 have htk : (K.map byteAV).take 32 = K.map byteAV := List.take_of_length_le (by rw [List.length_map]; omega)
 have hzp : prAV zeroPr = .agg [.lit (.int .i64 0), .lit (.int .u64 0), .lit (.int .i64 0), .lit (.int .i64 0), .lit (.string ⟨#[]⟩), .lit (.int .i64 0)] := rfl
 have hsA : scAV ⟨sa, sr, sc, ⟨pe, ps, pc, pt⟩, sg, sq, sh, sm⟩ = .agg [algAV sa, rgAV sr, concAV sc, .agg [.lit (.int .i64 pe), .lit (.int .i64 ps), .slice none (pc.map caAV), tagAV pt], .slice none (sg.map diAV), rqAV sq, .lit (.string ⟨sh.toArray⟩), .lit (.int .i64 sm)] := rfl
 have hpA : paAV ⟨pe, ps, pc, pt⟩ = .agg [.lit (.int .i64 pe), .lit (.int .i64 ps), .slice none (pc.map caAV), tagAV pt] := rfl
 have hpB : paAV ⟨pe, ps, pc ++ [(⟨true, zeroPr, sc.party, tk, bx⟩ : Ca)], t4⟩ = .agg [.lit (.int .i64 pe), .lit (.int .i64 ps), .slice none ((pc ++ [(⟨true, zeroPr, sc.party, tk, bx⟩ : Ca)]).map caAV), tagAV t4] := rfl
 have hbA : blAV ⟨sc.party, ⟨K, hK⟩, tk⟩ = .agg [.lit (.int .i64 sc.party), .agg (K.map byteAV), .slice none (tk.map byteAV)] := rfl
 have hte : teAV ⟨0, 50⟩ = .agg [.lit (.int .i64 0), .lit (.int .i64 50)] := rfl
 have e0 : ((0 : Nat) : Int) = 0 := rfl
 unfold mlAV at c4
 unfold mpAV at c5
 unfold entAV at c7
 unfold soAV at c8
 simp only [Option.getD_some, Option.isSome_some] at c4 c5 c7 c8
 rw [hsA] at c2
 rw [hbA, hte] at c4
 rw [hpA, hpB, hbA] at c5
 simp only [e0] at c4 c5 c8
 have g4 : ((pc ++ [(⟨true, zeroPr, sc.party, tk, bx⟩ : Ca)]).map caAV)[pc.length]? = some (.agg [.lit (.bool true), prAV zeroPr, .lit (.int .i64 sc.party), .slice none (tk.map byteAV), .slice none (bx.map byteAV)]) := by
  rw [List.getElem?_map, List.getElem?_append_right (Nat.le_refl _), Nat.sub_self]; rfl
 have hCl : (pc ++ [(⟨true, zeroPr, sc.party, tk, bx⟩ : Ca)]).length = pc.length + 1 := by simp
 have g1 : (((pc ++ [(⟨true, zeroPr, sc.party, tk, bx⟩ : Ca)]).length : Nat) : Int) - 1 = ((pc.length : Nat) : Int) := by omega
 have g2 : ((((pc ++ [(⟨true, zeroPr, sc.party, tk, bx⟩ : Ca)]).length : Nat) : Int) != ((pc.length : Nat) : Int) + 1) = false := by rw [bne_eq_false_iff_eq]; omega
 have g3 : ¬ (8 : Int) ≤ ((thirdsS pc : Nat) : Int) := by omega
 have b1 : (pc ++ [(⟨true, zeroPr, sc.party, tk, bx⟩ : Ca)]).length ≤ 100 := by omega
 have b2 : pc.length ≤ 100 := by omega
 have b3 : pc.length < (pc ++ [(⟨true, zeroPr, sc.party, tk, bx⟩ : Ca)]).length := by omega
 clear f1 f2 f4 f5 f7 f8 hs hG hcv hj hsA hpA hpB hbA hte hCl hcl hth s1 s2 e0 hp0 hp7 hkA
 generalize pc ++ [(⟨true, zeroPr, sc.party, tk, bx⟩ : Ca)] = C at *
 generalize hpn0 : pc.length = n0 at *
 generalize thirdsS pc = tn at *
 generalize sc.party = scp at *
 generalize sealM tk = SM at *
 refine Bd Tryz.func13 Tryz.ntmps13 fun σ N hp hpn hk hkn hfree => ?_
 simp only [List.mem_cons, List.not_mem_nil, or_false, forall_eq_or_imp, forall_eq] at hp hpn; obtain ⟨hd1, hd2⟩ := hp; obtain ⟨hdn1, hdn2⟩ := hpn
 have hcs := And.intro c1 (And.intro (c2 (N + 1 + 1)) (And.intro c3 (And.intro c4 (And.intro c5 (And.intro c6 (And.intro c7 (And.intro c8 (And.intro c9 (And.intro c10 (And.intro c11 True.intro))))))))))
 clear c1 c2 c3 c4 c5 c6 c7 c8 c9 c10 c11
 exact W0
end
theorem TicketGate_spec (xs : List Int) (_ : ∀ n ∈ xs, (Lit.int .i64 n).wf = true) (hx : xs.length ≤ 9223372036854775807) (g h : Nat) (_ : g ≠ h) (k : Nat) :
  ACall Tryz.prog 13 [.slice none (xs.map intAV)] k [(g, shaG), (h, bitsG)] (.lit (.bool true)) [] :=
 @TicketGate_core w32 xs hx g h k
end Go.Proofs.YtdmjpolnbmoehaaGreatDoor
