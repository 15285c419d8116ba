/- Joined texts: T65 PU PZ PT T66. -/
import Derived.Test.YtpbbpmhahkeekaaSxTJ12
/- Raft: an act of a group's: a log is made short (Do, kind 9). -/
namespace Go.SX
open Go.Proofs
set_option maxRecDepth 1000000
variable {E : Env}

theorem safe_peelC {S : Setup} {k : List Frag} {st : St} {t : Nat} {c : Bool} {x : SV} (hl : look st.env t = some (.cnd c x)) (hc : c = true) (h : Safe S k ⟨(t, x) :: st.env, st.heap⟩) : Safe S k st := by
  subst hc
  exact safe_peel hl h
set_option maxHeartbeats 16000000 in
theorem c28p (b : Nat) (g : GL) (kp : Nat) (hkp : kp < 3) {N K J : Nat} {X : Rf.Gr} (hK : K ≤ 2 ^ 30) (hJ : J ≤ 100000) (hg : g.good N K 0 J) (hok : g.ok = true) (hcut : g.pl.cut kp = some X) :
    Spec Try.prog E 28 [.ptr 0 b 0, .agg [I 9, I 0, I kp]] (gO b g) (fun v hp => v = Bl true ∧ ∃ g' : GL, g'.pl = X ∧ g'.ok = true ∧ g'.good N K 0 J ∧ hp = gO b g') := by
  refine Spec.see2 ?_
  generalize hP : SeeP _ = P
  have hGN := hg.N'
  have hn1 := hg.inv.n1
  rw [hg.plN] at hn1
  obtain ⟨nb, n, hR, hRi, hnd, hinv⟩ := hg.node (show 0 < N by omega)
  have hRl := hg.Rl
  refine spec_of (keep := k28) (args' := [.ptr 0 b 0, .agg [I 9, I 0, I kp]]) Try.func28 rfl Try.ntmps28 s28_ok (by simp) ⟨rfl, fun _ h => h⟩ (fun _ _ h => h) (go_ok _ 20 _ _ ?_)
  simp only [go_sem, s28, k28, List.cons_append, List.nil_append, Nat.reduceBEq, Nat.reduceAdd, Nat.zero_add]
  intro b3
  refine (stp_call [] (args := [I 0, I g.N]) rfl rfl rfl ⟨_, Try.func21, rfl, rfl⟩ (c21 0 g.N (by omega) (by have := hg.inv.n7; rw [hg.plN] at this; omega)) rfl (fun _ h => h) rfl (fun _ _ h => h) ?_).safe trivial
  rintro v hp ⟨rfl, rfl⟩
  rw [Int.zero_emod]
  refine ⟨trivial, go_ok _ 7 _ _ ?_⟩
  simp only [go_sem, List.cons_append, List.nil_append, Nat.reduceBEq]
  have hnl : g.net.length ≤ J := by
    have h := hg.inv.nl
    have e : g.pl.net.length = g.net.length := List.length_map ..
    omega
  refine safe_code_mid (ι := Int) (fun q => ⟨[(0, .ptr 0 b 0), (3, .ptr 9 b3 0), (5, I 0), (6, I q)], gO b g ++ [.cells b3 73 [I 9, I 0, I kp]]⟩) ?_ ?_
  rotate_left
  · intro rest
    refine go_ok _ 10 _ _ ?_
    simp only [go_sem, List.cons_append, List.nil_append, Nat.reduceBEq, Nat.zero_add]
    refine ⟨fun hc => ?_, fun hc => ?_⟩
    · have hl : 0 < g.net.length := by have := of_decide_eq_true hc; omega
      refine go_ok _ 9 _ _ ?_
      simp only [go_sem, Nat.reduceBEq, Nat.zero_add]
      refine (stp_call [] (args := [I kp, I g.net.length]) rfl rfl rfl ⟨_, Try.func21, rfl, rfl⟩ (c21 kp g.net.length (by omega) (by omega)) rfl (fun _ h => h) rfl (fun _ _ h => h) ?_).safe trivial
      rintro v hp ⟨rfl, rfl⟩
      refine ⟨trivial, go_ok _ 2 _ _ ?_⟩
      simp only [go_sem, List.cons_append, List.nil_append, Nat.reduceBEq]
      refine Safe.sub ?_ (rest ((kp : Int) % g.net.length))
      exact Sub.front (X := []) (by simp [envSub, look]) rfl
    · refine go_ok _ 1 _ _ ?_
      simp only [go_sem]
      refine Safe.sub ?_ (rest 0)
      exact Sub.front (X := []) (by simp [envSub, look]) rfl
  intro q
  refine go_ok _ 9 _ _ ?_
  simp only [go_sem, List.cons_append, List.nil_append, Nat.reduceBEq, Nat.zero_add]
  refine (stp_call [] (args := [I 9, I 11]) rfl rfl rfl ⟨_, Try.func21, rfl, rfl⟩ (c21 9 11 (by decide) (by decide)) rfl (fun _ h => h) rfl (fun _ _ h => h) ?_).safe trivial
  rintro v hp ⟨rfl, rfl⟩
  rw [show (9 : Int) % 11 = 9 by decide]
  have e0 : decide ((9 : Int) = 0) = false := by decide
  have e1 : decide ((9 : Int) = 1) = false := by decide
  have e2 : decide ((9 : Int) = 2) = false := by decide
  have e3 : decide ((9 : Int) = 3) = false := by decide
  have e4 : decide ((9 : Int) = 4) = false := by decide
  have e5 : decide ((9 : Int) = 5) = false := by decide
  have e6 : decide ((9 : Int) = 6) = false := by decide
  have e7 : decide ((9 : Int) = 7) = false := by decide
  have e8 : decide ((9 : Int) = 8) = false := by decide
  have e9 : decide ((9 : Int) = 9) = true := by decide
  refine ⟨trivial, go_ok _ 100 _ _ ?_⟩
  simp only [go_sem, e0, e1, e2, e3, e4, e5, e6, e7, e8, List.cons_append, List.nil_append, Nat.reduceBEq, Nat.reduceAdd, Nat.zero_add]
  have hdl : g.D.length = N := by
    have h := hg.inv.lD
    rw [hg.plN] at h
    rw [← h]; exact (List.length_map ..).symm
  refine ⟨⟨⟨by omega, by omega, Nat.le_refl _⟩, ⟨by rw [Int.toNat_zero]; omega, by decide⟩, ?_⟩, fun h => absurd h (by decide)⟩
  refine (stp_call [] (args := [I kp, I 4]) rfl rfl rfl ⟨_, Try.func21, rfl, rfl⟩ (c21 kp 4 (by decide) (by decide)) rfl (fun _ h => h) rfl (fun _ _ h => h) ?_).safe trivial
  rintro v hp ⟨rfl, rfl⟩
  rw [show (kp : Int) % 4 = kp by omega]
  refine ⟨by
    simp only [recheck, recheck1, go_sem, Nat.reduceBEq, Nat.zero_add]
    exact ⟨⟨by omega, by omega, Nat.le_refl _⟩, by rw [Int.toNat_zero]; omega, by decide⟩, ?_⟩
  have hdone : (g.pl.done.getD 0 []).length = (g.D.getD 0 default).xs.length := by
    show ((g.D.map fun d => d.xs.map Ent.pl).getD 0 []).length = _
    rw [List.getD_eq_getElem?_getD, List.getD_eq_getElem?_getD, List.getElem?_map, List.getElem?_eq_getElem (show 0 < g.D.length by omega)]
    exact List.length_map ..
  have hdK := hg.inv.dn 0 (by rw [hg.plN]; omega)
  have haK := hg.inv.al
  rw [hdone] at hdK
  unfold Rf.Gr.cut at hcut
  rw [hdone] at hcut
  split at hcut
  · cases hcut
  rename_i hkl
  obtain ⟨nn, hnn, hnn0, hnnK⟩ : ∃ nn : Nat, (g.D.getD 0 default).xs.length - kp = nn ∧ 0 < nn ∧ nn ≤ K := ⟨_, rfl, by omega, by omega⟩
  rw [hnn, Option.bind_eq_some_iff] at hcut
  have hsub : ((g.D.getD 0 default).xs.length : Int) - kp = nn := by omega
  obtain ⟨P1, hc1, hc2⟩ := hcut
  have hP1 := Rf.cutS_inv hc1 hg.inv
  unfold Rf.Gr.cutS at hc1
  split at hc1
  rotate_left
  · cases hc1
  rename_i hcc
  obtain ⟨hcz, hs1, hs2⟩ := hcc
  rw [hnd] at hc1 hcz
  refine go_ok _ 3 _ _ ?_
  simp only [go_sem, Int.toNat_zero, List.cons_append, List.nil_append, Nat.reduceBEq]
  rw [hsub]
  have hd0 : decide (0 < (nn : Int)) = true := decide_eq_true (by omega)
  refine ⟨by simp only [inI64]; omega, ?_⟩
  refine go_ok _ 20 _ _ ?_
  simp only [go_sem, hd0, hRi, Int.toNat_zero, List.cons_append, List.nil_append, Nat.reduceBEq, Nat.zero_add]
  refine ⟨⟨by omega, by omega, Nat.le_refl _⟩, ⟨by omega, by decide⟩, ?_, fun h => absurd h (by decide), rfl⟩
  refine safe_peel (t := 319) rfl ?_
  refine Stp.safeOn (stp_bsl (cs := [.val (.int .u8 (IntKind.u8.wrap (nn : Int)))]) rfl fun b4 => ⟨trivial, ?_⟩) trivial
  refine safe_frzA (c := 10) (rowsV encB [by8 (nn : Int)]) rfl (fun i j hi hj => ?_) (by simp [frzOk, frzOk1]) ?_
  · obtain rfl : i = 0 := by omega
    obtain rfl : j = 0 := by omega
    simp only [litF, rowsB, List.getD_cons_zero, Nat.zero_mul, Nat.add_zero, by8_val]
  refine go_ok _ 2 _ _ ?_
  simp only [go_sem, List.cons_append, List.nil_append, Nat.reduceBEq, Nat.reduceAdd, Nat.zero_add]
  refine ⟨?_, fun h => absurd h (by decide), rfl⟩
  have hcok := c65p (E := E) nb n nn (some ⟨b4, 0, none⟩) 1 [by8 (nn : Int)] hinv.toFit hK (by omega) (by omega) (by simp)
  have hcg : Spec Try.prog E 65 [.ptr 0 nb 0, I nn, vB (some ⟨b4, 0, none⟩) 1 [by8 (nn : Int)]] (gO b g) (fun v hp => ∃ n' : NL, (v = I (n.nd.compact nn [by8 (nn : Int)]).1 ∧ n'.nd = (n.nd.compact nn [by8 (nn : Int)]).2) ∧ hp = gO b (g.setR 0 nb n')) :=
    Spec.node (hcok.post fun v hp ⟨h1, n', h2, h3⟩ => ⟨n', ⟨h1, h2⟩, h3⟩) b g hR
  refine Stp.safeOn ?_ trivial
  refine stp_call [0, 1, 2, 3, 4, 5, 6, 7, 8] (args := [.ptr 0 nb 0, I nn, vB (some ⟨b4, 0, none⟩) 1 [by8 (nn : Int)]]) rfl rfl rfl ⟨_, Try.func65, rfl, rfl⟩ hcg rfl (fun _ h => unc_oks h) (by simp [callIdx]) (fun _ _ h => h) ?_
  rintro v hp ⟨n1, ⟨rfl, hn1⟩, rfl⟩
  rw [show (n.nd.compact nn [by8 (nn : Int)]).1 = 0 from hcz]
  refine ⟨trivial, go_ok _ 20 _ _ ?_⟩
  simp only [go_sem, List.cons_append, List.nil_append, Nat.reduceBEq, Nat.reduceAdd, Nat.zero_add]
  have hSl : g.S.length = N := by
    have h := hg.inv.lS
    rw [hg.plN] at h
    rw [← h]; exact (List.length_map ..).symm
  have hsv := hg.inv.sv 0 (by rw [hg.plN]; omega)
  rw [getS_pl g (by omega)] at hs1 hs2 hc1 hsv
  obtain ⟨g1, hg1⟩ : ∃ g1, g1 = g.setR 0 nb n1 := ⟨_, rfl⟩
  have hS1 : g1.S = g.S := by rw [hg1]; rfl
  have hN1 : g1.N = N := by rw [hg1]; exact hGN
  have hR1 : g1.R[0]? = some (some (nb, n1)) := by rw [hg1]; exact List.getElem?_set_self (by omega)
  have hR1i : rowsV encR g1.R 0 0 = .ptr 0 nb 0 := encR_at hR1
  have hR1l : g1.R.length = N := by rw [hg1]; show (g.R.set _ _).length = N; rw [List.length_set]; exact hRl
  rw [← hg1]
  rw [← hS1] at hs1 hs2 hc1 hsv hSl
  generalize hs0 : g1.S.getD 0 default = s0 at *
  have hm0 : 0 ≤ s0.mi := hsv.i0
  have hm1 : s0.mi ≤ nn := hs1
  have hm2 : nn - s0.mi ≤ (s0.l.xs.length : Int) := by
    have e : s0.pl.l.length = s0.l.xs.length := List.length_map ..
    have q : nn - s0.pl.m.ix ≤ (s0.pl.l.length : Int) := hs2
    rw [e] at q
    exact q
  refine ⟨⟨⟨by omega, by omega, Nat.le_refl _⟩, ⟨by rw [Int.toNat_zero]; omega, by decide⟩, fun b5 b6 => ?_⟩, fun h => absurd h (by decide)⟩
  obtain ⟨c0, hc0⟩ : ∃ c0 : Nat, (nn : Int) - s0.mi = c0 := ⟨((nn : Int) - s0.mi).toNat, by omega⟩
  refine safe_cellview (c := 11) (kk := 7) rfl rfl fun hcap => ?_
  simp only [Int.toNat_zero, hs0] at hcap
  refine go_ok _ 20 _ _ ?_
  simp only [go_sem, hs0, Int.toNat_zero, Nat.reduceBEq, Nat.reduceAdd, Nat.zero_add]
  simp only [hc0, Int.toNat_natCast]
  refine ⟨by simp only [inI64]; omega, by and_intros <;> omega, ?_⟩
  have hdl : (s0.l.xs.drop c0).length = s0.l.xs.length - c0 := List.length_drop
  have hln : s0.l.xs.length ≤ 2 ^ 40 := by
    have q := hsv.i1
    have e : s0.pl.l.length = s0.l.xs.length := List.length_map ..
    have e2 : s0.pl.m.ix = s0.mi := rfl
    omega
  refine (stp_app2 (c := 12) (b := b6) (off := 0) (nl := false) (n := 0) (cap := 0) (gx := fun i => rowsV encE s0.l.xs (i + c0)) (m := s0.l.xs.length - c0) (f := litF 4 []) (f2 := rowsV encE (s0.l.xs.drop c0)) (N := s0.l.xs.length - c0) rfl rfl rfl rfl rfl (fun a j ha hj => ?_) (by omega) (by omega) (fun a j ha hj => ?_) fun nl2 b7 off2 cap2 => ?_).safe trivial
  · exact onesF_rows (enc := encE) (xs := s0.l.xs) (n := a + c0 + 1) (fun x => ⟨rfl, by simp [encE, ones, one, Value.oneCell']⟩) (a + c0) j (by omega) hj
  · rw [appF_zero]
    have e2 : (s0.l.xs.drop c0).getD a default = s0.l.xs.getD (a + c0) default := by
      rw [List.getD_eq_getElem?_getD, List.getD_eq_getElem?_getD, List.getElem?_drop, Nat.add_comm]
    simp only [rowsV, e2]
  refine ⟨trivial, ?_⟩
  refine safe_prune [340, 0, 3, 5, 6, 15, 16, 40] ?_
  simp only [go_sem, Nat.reduceBEq]
  rw [← hdl]
  refine safe_frzA (c := 12) (rowsV encE (s0.l.xs.drop c0)) rfl (fun _ _ _ _ => rfl) (by simp [frzOk, frzOk1]) ?_
  refine go_ok _ 15 _ _ ?_
  simp only [go_sem, hR1i, Int.toNat_zero, List.nil_append, Nat.reduceBEq, Nat.zero_add]
  refine ⟨⟨by omega, by omega, Nat.le_refl _⟩, ⟨by omega, by decide⟩, ?_⟩
  have hinv1 : n1.nd.inv K 0 := by rw [hn1]; exact Rf.inv_compact hinv _ (by simp)
  have hmg : Spec Try.prog E 30 [.ptr 0 nb 0] (gO b g1) (fun v hp => ∃ n' : NL, ((∃ a cap, v = .agg [I n1.nd.me.ix, I n1.nd.me.tm, vI a cap n1.nd.me.vs]) ∧ n' = n1) ∧ hp = gO b (g1.setR 0 nb n')) :=
    Spec.node ((c30n nb n1 hinv1.toFit).post fun v hp h => ⟨n1, ⟨h.1, rfl⟩, h.2⟩) b g1 hR1
  refine (stp_call [0, 1, 2, 3, 4, 5, 6, 7, 8] (args := [.ptr 0 nb 0]) rfl rfl rfl ⟨_, Try.func30, rfl, rfl⟩ hmg rfl (fun _ h => h) rfl (fun _ _ h => h) ?_).safe trivial
  rintro v hp ⟨n2, ⟨⟨a8, k8, rfl⟩, hn2⟩, rfl⟩
  rw [hn2, setR_same hR1]
  refine ⟨trivial, go_ok _ 3 _ _ ?_⟩
  simp only [go_sem, List.cons_append, List.nil_append, Nat.reduceBEq, Nat.reduceAdd, Nat.zero_add]
  intro b9
  refine safe_frzA (c := 13) (rowsV encB [by8 (nn : Int)]) rfl (fun i j hi hj => ?_) (by simp [frzOk, frzOk1]) ?_
  · obtain rfl : i = 0 := by omega
    obtain rfl : j = 0 := by omega
    simp only [litF, rowsB, List.getD_cons_zero, Nat.zero_mul, Nat.add_zero, by8_val]
  have hok1 : g1.ok = true := by rw [hg1]; exact hok
  refine go_ok _ 20 _ _ ?_
  simp only [go_sem, List.nil_append, Nat.reduceBEq, Nat.reduceAdd, Nat.zero_add]
  refine ⟨⟨by omega, by omega, Nat.le_refl _⟩, ⟨by rw [Int.toNat_zero]; omega, by decide⟩, ?_⟩
  obtain ⟨s1, hs1'⟩ : ∃ s1 : SvL, s1 = ⟨s0.hT, s0.hV, s0.hC, n1.nd.me.ix, n1.nd.me.tm, ⟨a8, k8, n1.nd.me.vs⟩, ⟨some ⟨b9, 0, none⟩, 1, [by8 (nn : Int)]⟩, ⟨if nl2 = true then none else some ⟨b7, off2, none⟩, cap2, s0.l.xs.drop c0⟩⟩ := ⟨_, rfl⟩
  obtain ⟨g2, hg2⟩ : ∃ g2 : GL, g2 = { g1 with S := g1.S.set 0 s1 } := ⟨_, rfl⟩
  have eS : (g1.S.set 0 s1).length = g1.S.length := List.length_set
  have hpl : g2.pl = P1 := by
    simp only [Option.some.injEq] at hc1
    rw [← hc1, hg2, hg1]
    unfold GL.pl GL.setR
    dsimp only
    have e1 : s1.pl = { s0.pl with l := s0.pl.l.drop ((nn : Int) - s0.mi).toNat, m := (n.nd.compact nn [by8 (nn : Int)]).2.me, d := [by8 (nn : Int)] } := by
      rw [hs1', ← hn1, hc0, Int.toNat_natCast]
      unfold SvL.pl
      dsimp only
      rw [List.map_drop]
    have e2 : RN.pl (some (nb, n1)) = (n.nd.compact nn [by8 (nn : Int)]).2 := hn1
    rw [pl_set, pl_set, e1, e2]
    rfl
  refine safe_sees (hp' := gO b g2 ++ [.cells b3 73 [I 9, I 0, I kp], .emp, .cells b5 108 (encS s1), .emp, .emp]) ?_ ?_
  · rw [hg2, hs1']
    simp only [gO, GL.cs, Rw.ch, Rw.sv, List.length_set, List.cons_append, List.nil_append]
    refine Sees.same (Sees.same (Sees.cons (fun ro H hh => ⟨H, [], by simp, ?_⟩) (Sees.refl _)))
    exact row_set (enc := encS) (xs := g1.S) (sz := 8) (by omega) rfl rfl (fun j hj => ⟨rfl, fun _ h => h⟩) hh
  have hok2 : g2.ok = true := by rw [hg2]; exact hok1
  have hN2 : g2.N = N := by rw [hg2]; exact hN1
  have hR2 : g2.full N := by
    rw [hg2, hg1]
    exact GL.full.set hg.full hRl
  clear hs1' hg2
  rw [← hpl] at hP1 hc2
  refine go_ok _ 20 _ _ ?_
  simp only [go_sem, List.cons_append, List.nil_append, Nat.reduceBEq, Nat.zero_add]
  refine ⟨fun _ => ?_, fun (hk : g2.ok = false) => absurd hok2 (by rw [hk]; decide), rfl⟩
  refine safe_peelC (t := 380) rfl hok2 (safe_peelC (t := 379) rfl hok2 ?_)
  have hgN : g.pl.N = N := hg.plN
  rw [hgN] at hP1
  have hpN : g2.pl.N = N := hP1.2
  refine Stp.safeOn ?_ trivial
  refine stp_call [0, 1, 2, 3, 4, 5, 6, 7, 8] (args := [.ptr 0 b 0, I ((0 : Nat) : Int)]) rfl rfl rfl ⟨_, Try.func29, rfl, rfl⟩ (c29p b g2 (i := 0) (N := N) (K := K) (j := 0) (J := J) hK (by decide) (by omega) hN2 (by omega) hP1.1 hR2) rfl (fun _ h => h) (by simp [callIdx]) (fun _ _ h => h) ?_
  rintro v hp (⟨hnone, rfl⟩ | ⟨rfl, G, r1, r2, r3, r4, rfl⟩)
  · rw [hnone] at hc2
    cases hc2
  rw [r1] at hc2
  simp only [Option.some.injEq] at hc2
  obtain ⟨i2, i3⟩ := Rf.settle_inv hP1.1 (by rw [hpN]; omega) (fun a ha _ => hP1.1.nd a ha) r1
  refine ⟨trivial, go_ok _ 20 _ _ ?_⟩
  simp only [go_sem, List.cons_append, List.nil_append, Nat.reduceBEq, Try.results28]
  rw [hok2, ← hP]
  exact ⟨Bl true, gO b G, rfl, fun _ h => h, Sees.left (a := [_, _, _, _, _, _, _, _, _]) (X := [_, _, _, _, _]), rfl, G, hc2, r2.trans hok2, ⟨i2.mono (Nat.le_refl _) (Nat.le_refl _) (by omega), r3, r4⟩, rfl⟩
end Go.SX

/- Raft, plainly: the law of one who was away, as a finite check. -/
namespace Go.SX.Rf
set_option maxRecDepth 100000

def Nd.eqb (a b : Nd) : Bool := decide (a.me = b.me) && (decide (a.d = b.d) && (decide (a.log = b.log) && (decide (a.first = b.first) && (decide (a.fresh = b.fresh) && (decide (a.ticks = b.ticks) && (decide (a.taken = b.taken) && (decide (a.draw = b.draw) && (decide (a.beats = b.beats) && (decide (a.id = b.id) && (decide (a.hd = b.hd) && (decide (a.told = b.told) && (decide (a.applied = b.applied) && (decide (a.role = b.role) && (decide (a.lead = b.lead) && (decide (a.votes = b.votes) && (decide (a.peers = b.peers) && (decide (a.round = b.round) && (decide (a.waits = b.waits) && (decide (a.reads = b.reads) && (decide (a.msgs = b.msgs) && (decide (a.snap = b.snap))))))))))))))))))))))
def Sv.eqb (a b : Sv) : Bool := decide (a.h = b.h) && (decide (a.m = b.m) && (decide (a.d = b.d) && (decide (a.l = b.l))))
def eqL {α : Type} (p : α → α → Bool) : List α → List α → Bool
  | [], [] => true
  | a :: l, b :: m => p a b && eqL p l m
  | _, _ => false
def Gr.eqb (a b : Gr) : Bool := eqL Nd.eqb a.R b.R && (eqL Sv.eqb a.S b.S && (decide (a.net = b.net) && (decide (a.done = b.done) && (decide (a.all = b.all) && (decide (a.lead = b.lead) && (decide (a.N = b.N)))))))
theorem Nd.eqb_eq {a b : Nd} (h : a.eqb b = true) : a = b := by
  cases a; cases b
  simp only [Nd.eqb, Bool.and_eq_true, decide_eq_true_eq] at h
  simp only [Nd.mk.injEq]
  exact h
theorem Sv.eqb_eq {a b : Sv} (h : a.eqb b = true) : a = b := by
  cases a; cases b
  simp only [Sv.eqb, Bool.and_eq_true, decide_eq_true_eq] at h
  simp only [Sv.mk.injEq]
  exact h
theorem eqL_eq {α : Type} {p : α → α → Bool} (hp : ∀ {a b : α}, p a b = true → a = b) : ∀ {l m : List α}, eqL p l m = true → l = m
  | [], [], _ => rfl
  | [], _ :: _, h => by cases h
  | _ :: _, [], h => by cases h
  | a :: l, b :: m, h => by
    simp only [eqL, Bool.and_eq_true] at h
    rw [hp h.1, eqL_eq hp h.2]
theorem Gr.eqb_eq {a b : Gr} (h : a.eqb b = true) : a = b := by
  cases a; cases b
  simp only [Gr.eqb, Bool.and_eq_true, decide_eq_true_eq] at h
  obtain ⟨h1, h2, h3⟩ := h
  simp only [Gr.mk.injEq]
  exact ⟨eqL_eq Nd.eqb_eq h1, eqL_eq Sv.eqb_eq h2, h3⟩
theorem quietsC_add : ∀ (a b : Nat) (g : Gr), Gr.quietsC (a + b) g = (Gr.quietsC a g).bind (Gr.quietsC b)
  | 0, b, g => by rw [Nat.zero_add]; rfl
  | a + 1, b, g => by
    rw [show a + 1 + b = (a + b) + 1 by omega]
    show g.quietC.bind (Gr.quietsC (a + b)) = (g.quietC.bind (Gr.quietsC a)).bind (Gr.quietsC b)
    rcases g.quietC with _ | g1
    · rfl
    · exact quietsC_add a b g1
theorem quietsC_turn {h : Gr} (hp : Gr.quietsC 3 h = some h) : ∀ t, Gr.quietsC (3 * t) h = some h
  | 0 => rfl
  | t + 1 => by rw [show 3 * (t + 1) = 3 + 3 * t by omega, quietsC_add, hp]; exact quietsC_turn hp t
/-- what the law wants at its end -/
def fin (many : Nat) (g : Gr) : Bool :=
  decide ((many : Int) ≤ (g.R.getD 1 default).hd.cm) && (decide (0 < (g.R.getD 1 default).me.ix) && (areVoters (g.R.getD 1 default).voters && decide (many ≤ (g.done.getD 1 []).length)))
def ends (many kp : Nat) (g : Gr) : Bool :=
  match (g.cut kp).bind (Gr.quietsC 9) with
  | none => false
  | some h => fin many h && (match Gr.quietsC 3 h with | none => false | some h' => h'.eqb h)
def chk (many : Nat) (g : Gr) : Bool := decide (many < 3) || (ends many 0 g && (ends many 1 g && ends many 2 g))
def evT : Nat → Nat → Gr → Bool
  | 0, k, g => chk k g
  | c + 1, k, g => chk k g && (match g.told 1 k with | none => false | some g' => evT c (k + 1) g')
def evR (N a c : Nat) : Bool := match Gr.quietsC 40 (Gr.new N) with
  | none => false
  | some g => match Gr.tolds 1 a 0 g with
    | none => false
    | some h => evT c a h
def leads (N : Nat) : Bool := match Gr.quietsC 40 (Gr.new N) with
  | none => false
  | some g => decide ((g.R.getD 0 default).role = 2) && (((List.range N).drop 1).all fun i => decide ((g.R.getD i default).role ≠ 2))
theorem ends_holds {many kp : Nat} {g : Gr} (h : ends many kp g = true) : ∃ hc he, g.cut kp = some hc ∧ (∀ q t, q = 9 + 3 * t → Gr.quietsC q hc = some he) ∧ fin many he = true := by
  unfold ends at h
  rcases hb : (g.cut kp).bind (Gr.quietsC 9) with _ | he
  · rw [hb] at h; cases h
  · rw [hb] at h
    rw [Option.bind_eq_some_iff] at hb
    obtain ⟨hc, h1, h2⟩ := hb
    simp only [Bool.and_eq_true] at h
    obtain ⟨h3, h4⟩ := h
    rcases hq : Gr.quietsC 3 he with _ | h'
    · rw [hq] at h4; cases h4
    · rw [hq] at h4
      have hk := Gr.eqb_eq h4
      subst hk
      refine ⟨hc, h', h1, fun q t hqt => ?_, h3⟩
      rw [hqt, quietsC_add, h2]
      exact quietsC_turn hq t
theorem evT_holds : ∀ {c k : Nat} {g : Gr}, evT c k g = true → ∀ m, m ≤ c → ∃ h, Gr.tolds 1 m k g = some h ∧ chk (k + m) h = true
  | 0, k, g, h, m, hm => by
    obtain rfl : m = 0 := by omega
    exact ⟨g, rfl, h⟩
  | c + 1, k, g, h, m, hm => by
    simp only [evT, Bool.and_eq_true] at h
    rcases m with _ | m
    · exact ⟨g, rfl, h.1⟩
    · rcases ht : g.told 1 k with _ | g'
      · rw [ht] at h; cases h.2
      · rw [ht] at h
        obtain ⟨h', q1, q2⟩ := evT_holds h.2 m (by omega)
        refine ⟨h', ?_, by rw [show k + (m + 1) = k + 1 + m by omega]; exact q2⟩
        show (g.told 1 k).bind (Gr.tolds 1 m (k + 1)) = _
        rw [ht]
        exact q1
theorem tolds_add (aw : Nat) : ∀ (a b k : Nat) (g : Gr), Gr.tolds aw (a + b) k g = (Gr.tolds aw a k g).bind (Gr.tolds aw b (k + a))
  | 0, b, k, g => by rw [Nat.zero_add]; rfl
  | a + 1, b, k, g => by
    rw [show a + 1 + b = (a + b) + 1 by omega]
    show (g.told aw k).bind (Gr.tolds aw (a + b) (k + 1)) = ((g.told aw k).bind (Gr.tolds aw a (k + 1))).bind (Gr.tolds aw b (k + (a + 1)))
    rcases g.told aw k with _ | g1
    · rfl
    · rw [show k + (a + 1) = k + 1 + a by omega]
      exact tolds_add aw a b (k + 1) g1
theorem evR_holds {N a c m : Nat} {g : Gr} (h : evR N a c = true) (hq : Gr.quietsC 40 (Gr.new N) = some g) (h1 : a ≤ m) (h2 : m ≤ a + c) : ∃ h, Gr.tolds 1 m 0 g = some h ∧ chk m h = true := by
  unfold evR at h
  rw [hq] at h
  dsimp only at h
  rcases ht : Gr.tolds 1 a 0 g with _ | h'
  · rw [ht] at h; cases h
  · rw [ht] at h
    obtain ⟨x, q1, q2⟩ := evT_holds h (m - a) (by omega)
    refine ⟨x, ?_, by rw [show m = a + (m - a) by omega]; exact q2⟩
    rw [show m = a + (m - a) by omega, tolds_add, ht, Nat.zero_add]
    exact q1
theorem chk_holds {m kp : Nat} {h : Gr} (hm : 3 ≤ m) (hk : kp < 3) (q2 : chk m h = true) : ∃ hc he, h.cut kp = some hc ∧ (∀ q t, q = 9 + 3 * t → Gr.quietsC q hc = some he) ∧ fin m he = true := by
  unfold chk at q2
  have hd : decide (m < 3) = false := decide_eq_false (by omega)
  simp only [hd, Bool.false_or, Bool.and_eq_true] at q2
  have : ends m kp h = true := by
    have : kp = 0 ∨ kp = 1 ∨ kp = 2 := by omega
    rcases this with rfl | rfl | rfl
    · exact q2.1
    · exact q2.2.1
    · exact q2.2.2
  exact ends_holds this
theorem leads_holds {N : Nat} (h : leads N = true) : ∃ g, Gr.quietsC 40 (Gr.new N) = some g ∧ (g.R.getD 0 default).role = 2 ∧ ∀ i, 1 ≤ i → i < N → (g.R.getD i default).role ≠ 2 := by
  unfold leads at h
  rcases hq : Gr.quietsC 40 (Gr.new N) with _ | g
  · rw [hq] at h; cases h
  · rw [hq] at h
    simp only [Bool.and_eq_true, decide_eq_true_eq, List.all_eq_true] at h
    obtain ⟨h1, h2⟩ := h
    refine ⟨g, rfl, h1, fun i hi hN => h2 i ?_⟩
    rw [List.mem_iff_getElem]
    exact ⟨i - 1, by simp; omega, by simp; omega⟩
end Go.SX.Rf

/- Raft, plainly: the law of one who was away, checked for three nodes. -/
namespace Go.SX.Rf
set_option maxRecDepth 100000
theorem ev3a : leads 3 = true := by decide +kernel
theorem ev3_3 : evR 3 3 4 = true := by decide +kernel
theorem ev3_8 : evR 3 8 4 = true := by decide +kernel
theorem ev3_13 : evR 3 13 4 = true := by decide +kernel
theorem ev3_18 : evR 3 18 4 = true := by decide +kernel
theorem ev3_23 : evR 3 23 4 = true := by decide +kernel
theorem ev3_28 : evR 3 28 4 = true := by decide +kernel
theorem ev3s {m : Nat} {g : Gr} (hq : Gr.quietsC 40 (Gr.new 3) = some g) (h1 : 3 ≤ m) (h2 : m ≤ 32) : ∃ h, Gr.tolds 1 m 0 g = some h ∧ chk m h = true := by
  have : (3 ≤ m ∧ m ≤ 3 + 4) ∨ (8 ≤ m ∧ m ≤ 8 + 4) ∨ (13 ≤ m ∧ m ≤ 13 + 4) ∨ (18 ≤ m ∧ m ≤ 18 + 4) ∨ (23 ≤ m ∧ m ≤ 23 + 4) ∨ (28 ≤ m ∧ m ≤ 28 + 4) := by omega
  rcases this with h | h | h | h | h | h
  · exact evR_holds ev3_3 hq h.1 h.2
  · exact evR_holds ev3_8 hq h.1 h.2
  · exact evR_holds ev3_13 hq h.1 h.2
  · exact evR_holds ev3_18 hq h.1 h.2
  · exact evR_holds ev3_23 hq h.1 h.2
  · exact evR_holds ev3_28 hq h.1 h.2
end Go.SX.Rf

/- Raft, plainly: the law of one who was away, checked for four nodes. -/
namespace Go.SX.Rf
set_option maxRecDepth 100000
theorem ev4a : leads 4 = true := by decide +kernel
theorem ev4_3 : evR 4 3 4 = true := by decide +kernel
theorem ev4_8 : evR 4 8 4 = true := by decide +kernel
theorem ev4_13 : evR 4 13 4 = true := by decide +kernel
theorem ev4_18 : evR 4 18 4 = true := by decide +kernel
theorem ev4_23 : evR 4 23 4 = true := by decide +kernel
theorem ev4_28 : evR 4 28 4 = true := by decide +kernel
theorem ev4s {m : Nat} {g : Gr} (hq : Gr.quietsC 40 (Gr.new 4) = some g) (h1 : 3 ≤ m) (h2 : m ≤ 32) : ∃ h, Gr.tolds 1 m 0 g = some h ∧ chk m h = true := by
  have : (3 ≤ m ∧ m ≤ 3 + 4) ∨ (8 ≤ m ∧ m ≤ 8 + 4) ∨ (13 ≤ m ∧ m ≤ 13 + 4) ∨ (18 ≤ m ∧ m ≤ 18 + 4) ∨ (23 ≤ m ∧ m ≤ 23 + 4) ∨ (28 ≤ m ∧ m ≤ 28 + 4) := by omega
  rcases this with h | h | h | h | h | h
  · exact evR_holds ev4_3 hq h.1 h.2
  · exact evR_holds ev4_8 hq h.1 h.2
  · exact evR_holds ev4_13 hq h.1 h.2
  · exact evR_holds ev4_18 hq h.1 h.2
  · exact evR_holds ev4_23 hq h.1 h.2
  · exact evR_holds ev4_28 hq h.1 h.2
/-- the group after its first rounds; what it comes to, however many are told, however many are kept -/
theorem evSn {N : Nat} (h3 : 3 ≤ N) (h4 : N ≤ 4) : ∃ g, Gr.quietsC 40 (Gr.new N) = some g ∧ (g.R.getD 0 default).role = 2 ∧ (∀ i, 1 ≤ i → i < N → (g.R.getD i default).role ≠ 2) ∧
    ∀ m kp, 3 ≤ m → m ≤ 32 → kp < 3 → ∃ h hc he, Gr.tolds 1 m 0 g = some h ∧ h.cut kp = some hc ∧ (∀ q t, q = 9 + 3 * t → Gr.quietsC q hc = some he) ∧ fin m he = true := by
  have key : ∀ N, leads N = true → (∀ {m : Nat} {g : Gr}, Gr.quietsC 40 (Gr.new N) = some g → 3 ≤ m → m ≤ 32 → ∃ h, Gr.tolds 1 m 0 g = some h ∧ chk m h = true) → ∃ g, Gr.quietsC 40 (Gr.new N) = some g ∧ (g.R.getD 0 default).role = 2 ∧ (∀ i, 1 ≤ i → i < N → (g.R.getD i default).role ≠ 2) ∧
      ∀ m kp, 3 ≤ m → m ≤ 32 → kp < 3 → ∃ h hc he, Gr.tolds 1 m 0 g = some h ∧ h.cut kp = some hc ∧ (∀ q t, q = 9 + 3 * t → Gr.quietsC q hc = some he) ∧ fin m he = true := by
    intro N h1 h2
    obtain ⟨g, q1, q2, q3⟩ := leads_holds h1
    refine ⟨g, q1, q2, q3, fun m kp hm3 hm hkp => ?_⟩
    obtain ⟨h, r1, r2⟩ := h2 q1 hm3 hm
    obtain ⟨hc, he, s1, s2, s3⟩ := chk_holds hm3 hkp r2
    exact ⟨h, hc, he, r1, s1, s2, s3⟩
  have : N = 3 ∨ N = 4 := by omega
  rcases this with rfl | rfl
  · exact key 3 ev3a ev3s
  · exact key 4 ev4a ev4s
end Go.SX.Rf

/- Raft, the law: one who was away is sent a snapshot. -/
namespace Go.SX
open Go.Proofs
set_option maxRecDepth 1000000
variable {E : Env}

/-- quiet rounds so far -/
structure W9g (N : Nat) where
  c : Nat
  hc : c ≤ 40
  b : Nat
  g : GL
  gd : g.good N (2100 * c) 0 70000
  ok : g.ok = true
  eq : Rf.Gr.quietsC 40 (Rf.Gr.new N) = Rf.Gr.quietsC (40 - c) g.pl
structure W9l (N : Nat) where
  i : Nat
  hi : i ≤ N
/-- many are told, so far -/
structure W9a (hh : Rf.Gr) (N m : Nat) where
  k : Nat
  hk : k ≤ m
  g : GL
  gd : g.good N (2100 * 40 + 6400 * k) 0 70000
  ok : g.ok = true
  eq : Rf.Gr.tolds 1 (m - k) k g.pl = some hh
/-- turns, so far -/
structure W9b (F : Rf.Gr → Option Rf.Gr) (hh : Rf.Gr) (N K : Nat) where
  t : Nat
  ht : t ≤ 3
  g : GL
  gd : g.good N (K + 2100 * t) 0 (if t = 0 then 90000 else 70000)
  ok : g.ok = true
  eq : (Rf.Gr.turns 1 (3 - t) g.pl).bind F = some hh
/-- messages, so far -/
structure W9c (F : Rf.Gr → Option Rf.Gr) (hh : Rf.Gr) (l : List MsL) (N K : Nat) where
  c : Nat
  hc : c ≤ l.length
  g : GL
  gd : g.good N (K + 2 * c) 0 (63 * c)
  ok : g.ok = true
  eq : (Rf.Gr.turnM 1 ((l.drop c).map MsL.pl) g.pl).bind F = some hh
/-- quiet rounds behind it, so far -/
structure W9q (he : Rf.Gr) (N K : Nat) where
  c : Nat
  hc : c ≤ 60
  g : GL
  gd : g.good N (K + 2100 * c) 0 70000
  eq : Rf.Gr.quietsC (60 - c) g.pl = some he
set_option maxHeartbeats 16000000 in
theorem c9p (x y z : Int) : Spec Try.prog E 9 [I x, I y, I z] [] (fun v _ => v = Bl true) := by
  obtain ⟨N, hN, hN3, hN4⟩ : ∃ N : Nat, 3 + x % 2 = N ∧ 3 ≤ N ∧ N ≤ 4 := ⟨(3 + x % 2).toNat, by omega, by omega, by omega⟩
  obtain ⟨m, hm, hm3, hm32⟩ : ∃ m : Nat, 3 + y % 30 = m ∧ 3 ≤ m ∧ m ≤ 32 := ⟨(3 + y % 30).toNat, by omega, by omega, by omega⟩
  obtain ⟨kp, hkp, hkp3⟩ : ∃ kp : Nat, z % 3 = kp ∧ kp < 3 := ⟨(z % 3).toNat, by omega, by omega⟩
  obtain ⟨ge, he1, he2, he3, he4⟩ := Rf.evSn hN3 hN4
  obtain ⟨hh, hcu, hen, t1, t2, t3, t4⟩ := he4 m kp hm3 hm32 hkp3
  have t3' := t3 60 17 rfl
  clear t3 he4
  refine spec_of (keep := k9) (args' := [I x, I y, I z]) Try.func9 rfl Try.ntmps9 s9_ok (by simp) ⟨rfl, fun _ h => h⟩ (fun _ _ h => h) (go_ok _ 20 _ _ ?_)
  simp only [go_sem, s9, k9, Nat.reduceBEq, Nat.reduceAdd, Nat.zero_add]
  refine (stp_call [] rfl rfl rfl ⟨_, Try.func12, rfl, rfl⟩ (c12p.leave (Post' := fun v hp => v = Bl true ∧ hp = []) fun _ hp h => ⟨[], hp, rfl, h, rfl⟩) rfl (fun _ h => h) rfl (fun _ _ h => h) ?_).safe trivial
  rintro v hp ⟨rfl, rfl⟩
  refine ⟨trivial, go_ok _ 20 _ _ ?_⟩
  simp only [go_sem, Nat.reduceBEq, Try.results9]
  refine (stp_call [] (args := [I x, I 2]) rfl rfl rfl ⟨_, Try.func21, rfl, rfl⟩ (c21 x 2 (by decide) (by decide)) rfl (fun _ h => h) rfl (fun _ _ h => h) ?_).safe trivial
  rintro v hp ⟨rfl, rfl⟩
  refine ⟨trivial, go_ok _ 1 _ _ ?_⟩
  simp only [go_sem, Nat.reduceBEq]
  refine ⟨by simp only [inI64]; omega, ?_⟩
  rw [hN]
  refine (stp_call [] (args := [I N]) rfl rfl rfl ⟨_, Try.func23, rfl, rfl⟩ (c23p N (by omega) (by omega)) rfl (fun _ h => h) rfl (fun _ _ h => h) ?_).safe trivial
  rintro v hp ⟨b, g, rfl, hpl, gd, gok, rfl⟩
  refine ⟨trivial, go_ok _ 20 _ _ ?_⟩
  simp only [go_sem, Nat.reduceBEq]
  refine safe_loop (ι := W9g N) (fun w => ⟨[(1, I y), (2, I z), (7, .ptr 0 w.b 0), (8, I w.c)], gO w.b w.g⟩) (fun w => 40 - w.c)
    ⟨0, Nat.zero_le _, b, g, ⟨gd.inv.mono (Nat.zero_le _) (Nat.le_refl _) (by decide), gd.N', gd.full⟩, gok, by rw [hpl]⟩ (Sub.front (X := []) (by simp [envSub, look]) rfl) ?_
  rintro ⟨c, hc, b, g, gd, gok, heq⟩
  refine go_ok _ 10 _ _ ?_
  simp only [go_sem, List.cons_append, List.nil_append, Nat.reduceBEq]
  refine ⟨fun hlc => ?_, fun hlc => ?_⟩
  · have hlt : c < 40 := by have := of_decide_eq_true hlc; omega
    refine go_ok _ 5 _ _ ?_
    simp only [go_sem, Nat.reduceBEq]
    have hst : Rf.Gr.quietsC (40 - c) g.pl = g.pl.quietC.bind (Rf.Gr.quietsC (40 - (c + 1))) := by rw [show 40 - c = (40 - (c + 1)) + 1 by omega]; rfl
    refine (stp_call [0, 1, 2, 3, 4, 5, 6, 7, 8] (args := [.ptr 0 b 0]) rfl rfl rfl ⟨_, Try.func24, rfl, rfl⟩ (c24p b g (by omega) (by omega) gd) rfl (fun _ h => h) rfl (fun _ _ h => h) ?_).safe trivial
    rintro v hp (hnone | ⟨rfl, G, k1, k2, k3, rfl⟩)
    · rw [heq, hst, hnone] at he1
      cases he1
    · refine ⟨trivial, go_ok _ 10 _ _ ?_⟩
      simp only [go_sem, List.cons_append, List.nil_append, Nat.reduceBEq, Try.results9]
      refine ⟨by simp only [inI64]; omega, ?_⟩
      exact safe_lend (⟨c + 1, hlt, b, G, ⟨k3.inv.mono (by omega) (Nat.le_refl _) (Nat.le_refl _), k3.N', k3.full⟩, k2.trans gok, by rw [heq, hst, k1]; rfl⟩ : W9g N) (by simp only; omega) (Sub.front (X := []) (by simp [envSub, look]) rfl)
  have hcl : c = 40 := by have := of_decide_eq_false hlc; omega
  subst hcl
  rw [heq] at he1
  simp only [Nat.sub_self, Rf.Gr.quietsC, Option.some.injEq] at he1
  subst he1
  clear heq
  have hGN := gd.N'
  have hRl := gd.Rl
  refine go_ok _ 12 _ _ ?_
  simp only [go_sem, List.nil_append, Nat.reduceBEq]
  refine safe_loop (ι := W9l N) (fun w => ⟨[(1, I y), (2, I z), (7, .ptr 0 b 0), (9, I (if w.i = 0 then -1 else 0)), (10, I w.i)], gO b g⟩) (fun w => N - w.i)
    ⟨0, Nat.zero_le _⟩ (Sub.front (X := []) (by simp [envSub, look]) rfl) ?_
  rintro ⟨i, hi⟩
  refine go_ok _ 12 _ _ ?_
  simp only [go_sem, List.cons_append, List.nil_append, Nat.reduceBEq, Nat.zero_add]
  refine ⟨fun hin => ?_, fun hin => ?_⟩
  · have hlt : i < N := by have := of_decide_eq_true hin; omega
    clear hin
    obtain ⟨nb, n, hR, hRi, hnd, hinv⟩ := gd.node hlt
    refine go_ok _ 12 _ _ ?_
    simp only [go_sem, hRi, Int.toNat_natCast, Nat.reduceBEq, Nat.zero_add]
    refine ⟨⟨by omega, by omega, Nat.le_refl _⟩, ⟨by omega, by decide⟩, ?_⟩
    refine (stp_call [0, 1, 2, 3, 4, 5, 6, 7, 8] (args := [.ptr 0 nb 0]) rfl rfl rfl ⟨_, Try.func14, rfl, rfl⟩ (Spec.node ((c14n nb n).post (Post' := fun v hp => ∃ N : NL, (v = I n.nd.role ∧ N = n) ∧ hp = nO nb N) fun v hp h => ⟨n, ⟨h.1, rfl⟩, h.2⟩) b g hR) rfl (fun _ h => h) rfl (fun _ _ h => h) ?_).safe trivial
    rintro v hp ⟨n', ⟨rfl, hn'⟩, rfl⟩
    rw [hn', setR_same hR]
    refine ⟨trivial, ?_⟩
    have hiN : inI64 ((i : Int) + 1) := by simp only [inI64]; omega
    rcases Nat.eq_zero_or_pos i with rfl | hi1
    · have hrole : n.nd.role = 2 := by rw [← hnd]; exact he2
      rw [hrole]
      refine go_ok _ 20 _ _ ?_
      simp only [go_sem, List.cons_append, List.nil_append, Nat.reduceBEq]
      refine ⟨⟨hiN, ?_⟩, fun h => absurd h (by decide)⟩
      exact safe_lend (⟨1, by omega⟩ : W9l N) (show N - 1 < N - 0 by omega) (Sub.front (X := []) (by simp [envSub, look]) rfl)
    · have hrole : n.nd.role ≠ 2 := by rw [← hnd]; exact he3 i hi1 hlt
      have hd : decide (n.nd.role = 2) = false := decide_eq_false hrole
      refine go_ok _ 20 _ _ ?_
      simp only [go_sem, hd, List.cons_append, List.nil_append, Nat.reduceBEq]
      refine ⟨hiN, ?_⟩
      exact safe_lend (⟨i + 1, hlt⟩ : W9l N) (show N - (i + 1) < N - i by omega) (Sub.front (X := []) (by simp [envSub, look, Nat.ne_of_gt hi1]) rfl)
  have hcl : i = N := by have := of_decide_eq_false hin; omega
  clear hin he2 he3
  rw [if_neg (by omega)]
  refine go_ok _ 30 _ _ ?_
  simp only [go_sem, List.cons_append, List.nil_append, Nat.reduceBEq, Nat.zero_add, Try.results9]
  have htm : ((0 : Int) + 1).tmod g.N = 1 := by
    rw [hGN]
    have : N = 3 ∨ N = 4 := by omega
    rcases this with h | h <;> rw [h] <;> rfl
  rw [htm]
  refine ⟨fun h => absurd h (by decide), fun _ => ⟨by simp only [inI64]; omega, by omega, ?_⟩⟩
  refine (stp_call [] (args := [I y, I 30]) rfl rfl rfl ⟨_, Try.func21, rfl, rfl⟩ (c21 y 30 (by decide) (by decide)) rfl (fun _ h => h) rfl (fun _ _ h => h) ?_).safe trivial
  rintro v hp ⟨rfl, rfl⟩
  refine ⟨trivial, go_ok _ 1 _ _ ?_⟩
  simp only [go_sem, List.cons_append, List.nil_append, Nat.reduceBEq]
  refine ⟨by simp only [inI64]; omega, ?_⟩
  rw [hm]
  refine go_ok _ 12 _ _ ?_
  simp only [go_sem, List.nil_append, Nat.reduceBEq]
  refine safe_loop (ι := W9a hh N m) (fun w => ⟨[(1, I m), (2, I z), (7, .ptr 0 b 0), (9, I 0), (11, I 1), (12, I w.k)], gO b w.g⟩) (fun w => m - w.k)
    ⟨0, Nat.zero_le _, g, gd, gok, t1⟩ (Sub.front (X := []) (by simp [envSub, look]) rfl) ?_
  clear htm hRl hGN gd gok t1
  rintro ⟨k, hk, g, gd, gok, heq⟩
  have hGN := gd.N'
  have hRl := gd.Rl
  refine go_ok _ 9 _ _ ?_
  simp only [go_sem, List.cons_append, List.nil_append, Nat.reduceBEq]
  refine ⟨fun hkm => ?_, fun hkm => ?_⟩
  · have hklt : k < m := by have := of_decide_eq_true hkm; omega
    clear hkm
    obtain ⟨nb, n, hR, hRi, hnd, hinv⟩ := gd.node (show 0 < N by omega)
    refine go_ok _ 20 _ _ ?_
    simp only [go_sem, hRi, Int.toNat_zero, List.cons_append, List.nil_append, Nat.reduceBEq, Nat.reduceAdd, Nat.zero_add]
    refine ⟨⟨by omega, by omega, Nat.le_refl _⟩, ⟨by omega, by decide⟩, fun b2 => ?_⟩
    refine safe_frzA (c := 9) (rowsV encB [by8 (k : Int)]) rfl (fun i j hi hj => ?_) (by simp [frzOk, frzOk1]) ?_
    · obtain rfl : i = 0 := by omega
      obtain rfl : j = 0 := by omega
      simp only [litF, rowsB, List.getD_cons_zero, Nat.zero_mul, Nat.add_zero, by8_val]
    simp only [go_sem, Nat.reduceBEq]
    have hpr : (Rf.Gr.told 1 k g.pl).bind (Rf.Gr.tolds 1 (m - (k + 1)) (k + 1)) = some hh := by
      rw [show m - k = (m - (k + 1)) + 1 by omega] at heq
      exact heq
    generalize hF : Rf.Gr.tolds 1 (m - (k + 1)) (k + 1) = F at hpr
    have hin := Rf.inv_propose hinv (okB1 (by8 (k : Int)))
    refine (stp_call [0, 1, 2, 3, 4, 5, 6, 7, 8] (args := [.ptr 0 nb 0, vB (some ⟨b2, 0, none⟩) 1 [by8 (k : Int)]]) rfl rfl rfl ⟨_, Try.func17, rfl, rfl⟩ (Spec.nodeG (Q := fun _ => True) (F := (n.nd.propose [by8 (k : Int)]).2) ((c17p nb n (some ⟨b2, 0, none⟩) 1 [by8 (k : Int)] hinv (fun _ => okB1 _) (by rw [List.length_singleton]; decide) (by omega) (by omega)).post fun v hp h => ⟨trivial, h.2⟩) b g hR gd.full hRl) rfl (fun _ h => h) rfl (fun _ _ h => h) ?_).safe trivial
    rintro v hp ⟨_, G1, h1, h2, h3, h4, rfl⟩
    have hgpN : g.pl.N = N := gd.plN
    obtain ⟨q1, q2⟩ := Rf.setN_inv (i := 0) (k' := 2100 * 40 + 6400 * k + 1) gd.inv (by rw [hgpN]; omega) (by omega) hin
    rw [← h1] at q1 q2
    have hN1 : G1.N = N := h3.trans hGN
    have hpN1 : G1.pl.N = N := by show G1.N.toNat = N; rw [hN1]; rfl
    have hby : g.pl.byte k = G1.pl := by
      rw [h1, ← hnd]
      rfl
    unfold Rf.Gr.told at hpr
    rw [hby] at hpr
    refine ⟨trivial, go_ok _ 6 _ _ ?_⟩
    simp only [go_sem, List.cons_append, List.nil_append, Nat.reduceBEq]
    refine (stp_call [0, 1, 2, 3, 4, 5, 6, 7, 8] (args := [.ptr 0 b 0, I ((0 : Nat) : Int)]) rfl rfl rfl ⟨_, Try.func29, rfl, rfl⟩ (c29p b G1 (i := 0) (N := N) (K := 2100 * 40 + 6400 * k + 1) (j := 0 + 14) (J := 70000) (by omega) (by decide) (by omega) hN1 (by omega) q1 h4) rfl (fun _ h => h) rfl (fun _ _ h => h) ?_).safe trivial
    rintro v hp (⟨hnone, rfl⟩ | ⟨rfl, G2, k1, k2, k3, k4, rfl⟩)
    · rw [hnone] at hpr
      cases hpr
    rw [k1] at hpr
    obtain ⟨i2, i3⟩ := Rf.settle_inv q1 (by rw [hpN1]; omega) (fun a ha => q2 a (by rw [hgpN]; rw [hpN1] at ha; exact ha)) k1
    refine ⟨trivial, go_ok _ 20 _ _ ?_⟩
    simp only [go_sem, List.cons_append, List.nil_append, Nat.reduceBEq, Try.results9]
    refine safe_loop (ι := W9b F hh N (2100 * 40 + 6400 * k + 1)) (fun w => ⟨[(1, I m), (2, I z), (7, .ptr 0 b 0), (9, I 0), (11, I 1), (12, I k), (13, I w.t)], gO b w.g⟩) (fun w => 3 - w.t)
      ⟨0, Nat.zero_le _, G2, ⟨i2.mono (by omega) (Nat.le_refl _) (by decide), k3, k4⟩, k2.trans (h2.trans gok), hpr⟩ (Sub.front (X := [.emp]) (by simp [envSub, look]) rfl) ?_
    rintro ⟨t, ht, G, gd', gok', heq'⟩
    refine go_ok _ 7 _ _ ?_
    simp only [go_sem, List.cons_append, List.nil_append, Nat.reduceBEq]
    refine ⟨fun htl => ?_, fun htl => ?_⟩
    · have ht3 : t < 3 := by have := of_decide_eq_true htl; omega
      clear htl
      have hnl : G.pl.net.length = G.net.length := List.length_map ..
      obtain ⟨F2, hF2⟩ : ∃ F2 : Rf.Gr → Option Rf.Gr, F2 = fun g => (Rf.Gr.turns 1 (3 - (t + 1)) g).bind F := ⟨_, rfl⟩
      have heq2 : (G.pl.turn 1).bind F2 = some hh := by
        rw [show 3 - t = (3 - (t + 1)) + 1 by omega] at heq'
        rw [hF2, ← Option.bind_assoc]
        exact heq'
      unfold Rf.Gr.turn at heq2
      rw [hnl] at heq2
      split at heq2
      · cases heq2
      rename_i hle
      have hnm : ∀ m ∈ G.net, m.pl.fit (2100 * 40 + 6400 * k + 1 + 2100 * t) := fun m hm => gd'.inv.nm m.pl (List.mem_map_of_mem hm)
      refine go_ok _ 30 _ _ ?_
      simp only [go_sem, List.nil_append, Nat.reduceBEq, Nat.zero_add]
      refine safe_frzA (c := 3) (rowsV encM G.net) rfl (fun _ _ _ _ => rfl) (by simp [frzOk, frzOk1]) ?_
      simp only [go_sem]
      have hlM : G.pl.net = G.net.map MsL.pl := rfl
      rw [hlM] at heq2
      generalize hl : G.net = l at *
      refine safe_loop (ι := W9c F2 hh l N (2100 * 40 + 6400 * k + 1 + 2100 * t)) (fun w => ⟨[(1, I m), (2, I z), (7, .ptr 0 b 0), (9, I 0), (11, I 1), (12, I k), (13, I t), (14, .view (if G.nw.nl then none else some ⟨G.nw.b, G.nw.off, none⟩) l.length G.nw.cap 15 (rowsV encM l)), (15, I w.c)], gO b w.g⟩) (fun w => l.length - w.c)
        ⟨0, Nat.zero_le _, { G with nw := nilR, net := [] }, ?_, gok', ?_⟩ ?_ ?_
      · have q1 := gd'.inv
        exact ⟨⟨q1.n1, q1.n7, q1.lR, q1.lS, q1.lD, q1.nd, q1.sv, (fun m hm => by cases hm), Nat.zero_le _, q1.dn, q1.al, q1.ld⟩, gd'.N', gd'.full⟩
      · rw [List.drop_zero]
        exact heq2
      · refine ⟨fun t s ht => ⟨s, envSub_ok (by simp [envSub, look]) t s ht, rfl, fun _ h => h⟩, ?_⟩
        simp only [gO, GL.cs, Rw.ch, Rw.sv]
        refine Sees.cons (fun ro H hh => ⟨H, [], by simp, cells_imp (cs := [.osl 1 G.rw.nl G.rw.b G.rw.off G.R.length G.rw.cap, .osl 2 G.sw.nl G.sw.b G.sw.off G.S.length G.sw.cap, nilS, .osl 4 G.dw.nl G.dw.b G.dw.off G.D.length G.dw.cap, .osl 5 G.aw.nl G.aw.b G.aw.off G.al.length G.aw.cap, .osl 6 G.lw.nl G.lw.b G.lw.off G.ld.length G.lw.cap, I G.N, Bl G.ok]) rfl (fun hk => ?_) hh⟩) (Sees.same (Sees.same (Sees.drop (x := .emp) (nil_ch 54 15 encM) (Sees.refl _))))
        simp only [SV.oks, SV.ok, true_and, and_true] at hk ⊢
      rintro ⟨d, hd, G', gd2, gok2, heq2⟩
      have hGN' := gd2.N'
      have hRl' := gd2.Rl
      refine go_ok _ 10 _ _ ?_
      simp only [go_sem, List.cons_append, List.nil_append, Nat.reduceBEq]
      refine ⟨fun hld => ?_, fun hld => ?_⟩
      · have hdl : d < l.length := by have := of_decide_eq_true hld; omega
        clear hld
        have hdr : (l.drop d).map MsL.pl = (l.getD d default).pl :: (l.drop (d + 1)).map MsL.pl := by
          rw [List.drop_eq_getElem_cons hdl, List.map_cons, List.getD_eq_getElem?_getD, List.getElem?_eq_getElem hdl]
          rfl
        have hmm := hnm (l.getD d default) (by
          rw [List.getD_eq_getElem?_getD, List.getElem?_eq_getElem hdl]
          exact List.getElem_mem hdl)
        generalize hE : l.getD d default = ms at hdr hmm
        rw [hdr, Rf.Gr.turnM] at heq2
        have hpN : G'.pl.N = N := gd2.plN
        have e0 : ms.pl.to = ms.to := rfl
        rw [hpN, e0] at heq2
        have hskip : (ms.to = ((1 : Nat) : Int) ∨ ms.to < 0 ∨ (N : Int) ≤ ms.to) → (Rf.Gr.turnM 1 ((l.drop (d + 1)).map MsL.pl) G'.pl).bind F2 = some hh := fun h => by rw [if_pos h] at heq2; exact heq2
        have hbd : 0 ≤ (d : Int) ∧ (d : Int) < l.length := ⟨by omega, by omega⟩
        have hiD : inI64 ((d : Int) + 1) := by simp only [inI64]; omega
        rcases d0 : decide (ms.to = 1) with _ | _
        · rcases d1 : decide (ms.to < 0) with _ | _
          · rcases d2 : decide (G'.N ≤ ms.to) with _ | _
            · have hto : ¬ (ms.to = ((1 : Nat) : Int) ∨ ms.to < 0 ∨ (N : Int) ≤ ms.to) := by
                rintro (h | h | h)
                · exact of_decide_eq_false d0 h
                · exact of_decide_eq_false d1 h
                · exact of_decide_eq_false d2 (by omega)
              rw [if_neg hto] at heq2
              obtain ⟨q, hq⟩ : ∃ q : Nat, ms.to = q := ⟨ms.to.toNat, by omega⟩
              have hqN : q < N := by omega
              refine go_ok _ 33 _ _ ?_
              simp only [go_sem, hE, d0, d1, d2, List.cons_append, List.nil_append, Nat.reduceBEq, Nat.zero_add, Int.toNat_natCast]
              refine ⟨hbd, by decide, hbd, by decide, hbd, by decide, ?_⟩
              obtain ⟨nb2, n2, hR2, hR2i, hnd2, hinv2⟩ := gd2.node hqN
              refine go_ok _ 15 _ _ ?_
              simp only [go_sem, hE, hq, hR2i, Nat.reduceBEq, Nat.zero_add, Int.toNat_natCast]
              refine ⟨hbd, by decide, ⟨by omega, by omega, Nat.le_refl _⟩, ⟨by omega, by decide⟩, ?_⟩
              refine go_ok _ 8 _ _ ?_
              simp only [go_sem, hE, Nat.reduceBEq, Nat.reduceAdd, Nat.zero_add, Int.toNat_natCast]
              refine ⟨hbd, by decide, ?_⟩
              refine (stp_call [0, 1, 2, 3, 4, 5, 6, 7, 8] (args := [.ptr 0 nb2 0, .agg (encM ms)]) rfl rfl rfl ⟨_, Try.func22, rfl, rfl⟩ (Spec.nodeG (Q := fun _ => True) (F := n2.nd.step ms.pl) ((c22p nb2 n2 ms hinv2 (hmm.mono (by omega)) (by omega) (by omega)).post fun v hp h => ⟨trivial, h⟩) b G' hR2 gd2.full hRl') rfl (fun _ h => h) rfl (fun _ _ h => h) ?_).safe trivial
              rintro v hp ⟨_, G3, p1, p2, p3, p4, rfl⟩
              obtain ⟨s1, s2⟩ := Rf.setN_inv (i := q) (k' := 2100 * 40 + 6400 * k + 1 + 2100 * t + 2 * d + 2) gd2.inv (by rw [hpN]; exact hqN) (by omega) (Rf.inv_step hinv2 (hmm.mono (by omega)))
              rw [← p1] at s1 s2
              have hN3' : G3.N = N := p3.trans hGN'
              have hpN3 : G3.pl.N = N := by show G3.N.toNat = N; rw [hN3']; rfl
              have hti : G'.pl.stepI q ms.pl = G3.pl := by
                rw [p1, ← hnd2]
                rfl
              rw [show ms.to.toNat = q by omega, hti] at heq2
              refine ⟨trivial, go_ok _ 12 _ _ ?_⟩
              simp only [go_sem, hE, hq, List.cons_append, List.nil_append, Nat.reduceBEq, Nat.zero_add, Int.toNat_natCast]
              refine ⟨hbd, by decide, ?_⟩
              refine (stp_call [0, 1, 2, 3, 4, 5, 6, 7, 8] (args := [.ptr 0 b 0, I q]) rfl rfl rfl ⟨_, Try.func29, rfl, rfl⟩ (c29p b G3 (i := q) (N := N) (K := 2100 * 40 + 6400 * k + 1 + 2100 * t + 2 * d + 2) (j := 0 + 21) (J := 63 * d) (by omega) (by decide) (by omega) hN3' hqN s1 p4) rfl (fun _ h => h) rfl (fun _ _ h => h) ?_).safe trivial
              rintro v hp (⟨hnone, rfl⟩ | ⟨rfl, G4, r1, r2, r3, r4, rfl⟩)
              · rw [hnone] at heq2
                cases heq2
              rw [r1] at heq2
              refine ⟨trivial, go_ok _ 20 _ _ ?_⟩
              simp only [go_sem, List.cons_append, List.nil_append, Nat.reduceBEq, Try.results9]
              refine ⟨hiD, ?_⟩
              obtain ⟨i2', i3'⟩ := Rf.settle_inv s1 (by rw [hpN3]; exact hqN) (fun a ha => s2 a (by rw [hpN]; rw [hpN3] at ha; exact ha)) r1
              exact safe_lend (⟨d + 1, hdl, G4, ⟨i2'.mono (by omega) (Nat.le_refl _) (by omega), r3, r4⟩, r2.trans (p2.trans gok2), heq2⟩ : W9c F2 hh l N (2100 * 40 + 6400 * k + 1 + 2100 * t)) (show l.length - (d + 1) < l.length - d by omega) (Sub.front (X := []) (by simp [envSub, look]) rfl)
            · have hto : ms.to = ((1 : Nat) : Int) ∨ ms.to < 0 ∨ (N : Int) ≤ ms.to := .inr (.inr (by have := of_decide_eq_true d2; omega))
              refine go_ok _ 60 _ _ ?_
              simp only [go_sem, hE, d0, d1, d2, List.cons_append, List.nil_append, Nat.reduceBEq, Nat.reduceAdd, Nat.zero_add, Int.toNat_natCast]
              refine ⟨hbd, by decide, hbd, by decide, hbd, by decide, ⟨hiD, ?_⟩, fun h => absurd h (by decide)⟩
              exact safe_lend (⟨d + 1, hdl, G', ⟨gd2.inv.mono (by omega) (Nat.le_refl _) (by omega), gd2.N', gd2.full⟩, gok2, hskip hto⟩ : W9c F2 hh l N (2100 * 40 + 6400 * k + 1 + 2100 * t)) (show l.length - (d + 1) < l.length - d by omega) (Sub.front (X := []) (by simp [envSub, look]) rfl)
          · have hto : ms.to = ((1 : Nat) : Int) ∨ ms.to < 0 ∨ (N : Int) ≤ ms.to := .inr (.inl (of_decide_eq_true d1))
            refine go_ok _ 60 _ _ ?_
            simp only [go_sem, hE, d0, d1, List.cons_append, List.nil_append, Nat.reduceBEq, Nat.reduceAdd, Nat.zero_add, Int.toNat_natCast]
            refine ⟨hbd, by decide, hbd, by decide, fun h => absurd h (by decide), ⟨hiD, ?_⟩, fun h => absurd h (by decide)⟩
            exact safe_lend (⟨d + 1, hdl, G', ⟨gd2.inv.mono (by omega) (Nat.le_refl _) (by omega), gd2.N', gd2.full⟩, gok2, hskip hto⟩ : W9c F2 hh l N (2100 * 40 + 6400 * k + 1 + 2100 * t)) (show l.length - (d + 1) < l.length - d by omega) (Sub.front (X := []) (by simp [envSub, look]) rfl)
        · have hto : ms.to = ((1 : Nat) : Int) ∨ ms.to < 0 ∨ (N : Int) ≤ ms.to := .inl (of_decide_eq_true d0)
          refine go_ok _ 60 _ _ ?_
          simp only [go_sem, hE, d0, List.cons_append, List.nil_append, Nat.reduceBEq, Nat.reduceAdd, Nat.zero_add, Int.toNat_natCast]
          refine ⟨hbd, by decide, fun h => absurd h (by decide), fun h => absurd h (by decide), ⟨hiD, ?_⟩, fun h => absurd h (by decide)⟩
          exact safe_lend (⟨d + 1, hdl, G', ⟨gd2.inv.mono (by omega) (Nat.le_refl _) (by omega), gd2.N', gd2.full⟩, gok2, hskip hto⟩ : W9c F2 hh l N (2100 * 40 + 6400 * k + 1 + 2100 * t)) (show l.length - (d + 1) < l.length - d by omega) (Sub.front (X := []) (by simp [envSub, look]) rfl)
      have hcl2 : d = l.length := by have := of_decide_eq_false hld; omega
      subst hcl2
      rw [List.drop_of_length_le (Nat.le_refl _)] at heq2
      refine go_ok _ 20 _ _ ?_
      simp only [go_sem, Nat.reduceBEq]
      refine ⟨by simp only [inI64]; omega, ?_⟩
      refine safe_lend (⟨t + 1, by omega, G', ⟨gd2.inv.mono (by omega) (Nat.le_refl _) (by rw [if_neg (by omega)]; omega), gd2.N', gd2.full⟩, gok2, ?_⟩ : W9b F hh N (2100 * 40 + 6400 * k + 1)) (show 3 - (t + 1) < 3 - t by omega) (Sub.front (X := []) (by simp [envSub, look]) rfl)
      rw [hF2] at heq2
      exact heq2
    · have htt : t = 3 := by have := of_decide_eq_false htl; omega
      subst htt
      refine go_ok _ 20 _ _ ?_
      simp only [go_sem, Nat.reduceBEq]
      refine ⟨by simp only [inI64]; omega, ?_⟩
      refine safe_lend (⟨k + 1, hklt, G, ⟨gd'.inv.mono (by omega) (Nat.le_refl _) (by decide), gd'.N', gd'.full⟩, gok', ?_⟩ : W9a hh N m) (show m - (k + 1) < m - k by omega) (Sub.front (X := []) (by simp [envSub, look]) rfl)
      rw [hF]
      exact heq'
  have hkl : k = m := by have := of_decide_eq_false hkm; omega
  subst hkl
  rw [Nat.sub_self] at heq
  simp only [Rf.Gr.tolds, Option.some.injEq] at heq
  refine go_ok _ 10 _ _ ?_
  simp only [go_sem, Nat.reduceBEq]
  refine (stp_call [] (args := [I z, I 3]) rfl rfl rfl ⟨_, Try.func21, rfl, rfl⟩ (c21 z 3 (by decide) (by decide)) rfl (fun _ h => h) rfl (fun _ _ h => h) ?_).safe trivial
  rintro v hp ⟨rfl, rfl⟩
  rw [hkp]
  refine ⟨trivial, go_ok _ 2 _ _ ?_⟩
  simp only [go_sem, List.cons_append, List.nil_append, Nat.reduceBEq, Nat.zero_add]
  refine (stp_call [0, 1, 2, 3, 4, 5, 6, 7, 8] (args := [.ptr 0 b 0, .agg [I 9, I 0, I kp]]) rfl rfl rfl ⟨_, Try.func28, rfl, rfl⟩ (c28p b g kp hkp3 (N := N) (K := 2100 * 40 + 6400 * k) (J := 70000) (X := hcu) (by omega) (by decide) gd gok (by rw [heq]; exact t2)) rfl (fun _ h => h) rfl (fun _ _ h => h) ?_).safe trivial
  rintro v hp ⟨rfl, g5, r1, r2, r3, rfl⟩
  refine ⟨trivial, go_ok _ 20 _ _ ?_⟩
  simp only [go_sem, List.cons_append, List.nil_append, Nat.reduceBEq, Try.results9]
  refine safe_loop (ι := W9q hen N (2100 * 40 + 6400 * k)) (fun w => ⟨[(1, I k), (7, .ptr 0 b 0), (11, I 1), (16, I w.c)], gO b w.g⟩) (fun w => 60 - w.c)
    ⟨0, Nat.zero_le _, g5, r3, by rw [r1]; exact t3'⟩ (Sub.front (X := []) (by simp [envSub, look]) rfl) ?_
  clear heq hkm t2 t3' r1 r2 r3 hRl hGN
  rintro ⟨c, hc, g, gd, heq⟩
  refine go_ok _ 10 _ _ ?_
  simp only [go_sem, List.cons_append, List.nil_append, Nat.reduceBEq]
  refine ⟨fun hlc => ?_, fun hlc => ?_⟩
  · have hlt : c < 60 := by have := of_decide_eq_true hlc; omega
    refine go_ok _ 5 _ _ ?_
    simp only [go_sem, Nat.reduceBEq]
    have hst : g.pl.quietC.bind (Rf.Gr.quietsC (60 - (c + 1))) = some hen := by rw [show 60 - c = (60 - (c + 1)) + 1 by omega] at heq; exact heq
    refine (stp_call [0, 1, 2, 3, 4, 5, 6, 7, 8] (args := [.ptr 0 b 0]) rfl rfl rfl ⟨_, Try.func24, rfl, rfl⟩ (c24p b g (by omega) (by omega) gd) rfl (fun _ h => h) rfl (fun _ _ h => h) ?_).safe trivial
    rintro v hp (hnone | ⟨rfl, G, k1, k2, k3, rfl⟩)
    · rw [hnone] at hst
      cases hst
    · rw [k1] at hst
      refine ⟨trivial, go_ok _ 10 _ _ ?_⟩
      simp only [go_sem, List.cons_append, List.nil_append, Nat.reduceBEq, Try.results9]
      refine ⟨by simp only [inI64]; omega, ?_⟩
      exact safe_lend (⟨c + 1, hlt, G, ⟨k3.inv.mono (by omega) (Nat.le_refl _) (Nat.le_refl _), k3.N', k3.full⟩, hst⟩ : W9q hen N (2100 * 40 + 6400 * k)) (by simp only; omega) (Sub.front (X := []) (by simp [envSub, look]) rfl)
  have hcl : c = 60 := by have := of_decide_eq_false hlc; omega
  subst hcl
  clear hlc
  rw [Nat.sub_self] at heq
  simp only [Rf.Gr.quietsC, Option.some.injEq] at heq
  rw [← heq] at t4
  clear heq
  have hRl := gd.Rl
  obtain ⟨nb, n, hR, hRi, hnd, hinv⟩ := gd.node (show 1 < N by omega)
  have hDl : g.D.length = N := by
    have h := gd.inv.lD
    rw [gd.plN] at h
    rw [← h]; exact (List.length_map ..).symm
  have hdone : (g.pl.done.getD 1 []).length = (g.D.getD 1 default).xs.length := by
    show ((g.D.map fun d => d.xs.map Ent.pl).getD 1 []).length = _
    rw [List.getD_eq_getElem?_getD, List.getD_eq_getElem?_getD, List.getElem?_map, List.getElem?_eq_getElem (show 1 < g.D.length by omega)]
    exact List.length_map ..
  unfold Rf.fin at t4
  rw [hnd, hdone] at t4
  simp only [Bool.and_eq_true, decide_eq_true_eq] at t4
  obtain ⟨f1, f2, f3, f4⟩ := t4
  have d1 : decide ((k : Int) ≤ n.nd.hd.cm) = true := decide_eq_true f1
  have d2 : decide (0 < n.nd.me.ix) = true := decide_eq_true f2
  have d4 : decide ((k : Int) ≤ (g.D.getD 1 default).xs.length) = true := decide_eq_true (by omega)
  refine go_ok _ 15 _ _ ?_
  simp only [go_sem, Int.toNat_one, hRi, Nat.reduceBEq, Nat.zero_add]
  have hbR : 0 ≤ (1 : Int) ∧ (1 : Int) < g.R.length ∧ g.R.length ≤ g.R.length := ⟨by omega, by omega, Nat.le_refl _⟩
  have hbR2 : 1 < g.R.length ∧ 0 < 1 := ⟨by omega, by decide⟩
  refine ⟨hbR, hbR2, ?_⟩
  have c19g : Spec Try.prog E 19 [.ptr 0 nb 0] (gO b g) (fun v hp => ∃ n' : NL, (v = .agg [I n.nd.hd.tm, I n.nd.hd.vote, I n.nd.hd.cm] ∧ n' = n) ∧ hp = gO b (g.setR 1 nb n')) :=
    Spec.node ((c19n nb n).post fun v hp h => ⟨n, ⟨h.1, rfl⟩, h.2⟩) b g hR
  refine (stp_call [0, 1, 2, 3, 4, 5, 6, 7, 8] (args := [.ptr 0 nb 0]) rfl rfl rfl ⟨_, Try.func19, rfl, rfl⟩ c19g rfl (fun _ h => h) rfl (fun _ _ h => h) ?_).safe trivial
  rintro v hp ⟨n', ⟨rfl, hn'⟩, rfl⟩
  rw [hn', setR_same hR]
  refine ⟨trivial, go_ok _ 20 _ _ ?_⟩
  simp only [go_sem, d1, Int.toNat_one, hRi, List.cons_append, List.nil_append, Nat.reduceBEq, Nat.zero_add]
  refine ⟨hbR, hbR2, ?_, fun h => absurd h (by decide), rfl⟩
  have c30g : Spec Try.prog E 30 [.ptr 0 nb 0] (gO b g) (fun v hp => ∃ n' : NL, ((∃ a cap, v = .agg [I n.nd.me.ix, I n.nd.me.tm, vI a cap n.nd.me.vs]) ∧ n' = n) ∧ hp = gO b (g.setR 1 nb n')) :=
    Spec.node ((c30n nb n hinv.toFit).post fun v hp h => ⟨n, ⟨h.1, rfl⟩, h.2⟩) b g hR
  refine Stp.safeOn ?_ trivial
  refine stp_call [0, 1, 2, 3, 4, 5, 6, 7, 8] (args := [.ptr 0 nb 0]) rfl rfl rfl ⟨_, Try.func30, rfl, rfl⟩ c30g rfl (fun _ h => unc_oks h) (by simp [callIdx]) (fun _ _ h => h) ?_
  rintro v hp ⟨n', ⟨⟨a3, k3, rfl⟩, hn'⟩, rfl⟩
  rw [hn', setR_same hR]
  refine ⟨trivial, go_ok _ 20 _ _ ?_⟩
  simp only [go_sem, d2, Int.toNat_one, hRi, List.cons_append, List.nil_append, Nat.reduceBEq, Nat.zero_add]
  refine ⟨hbR, hbR2, ?_, fun h => absurd h (by decide), rfl⟩
  refine Stp.safeOn ?_ trivial
  refine stp_call [0, 1, 2, 3, 4, 5, 6, 7, 8] (args := [.ptr 0 nb 0]) rfl rfl rfl ⟨_, Try.func26, rfl, rfl⟩ (Spec.node (c26n nb n hinv.toFit (by omega)) b g hR) rfl (fun _ h => unc_oks h) (by simp [callIdx]) (fun _ _ h => h) ?_
  rintro v hp ⟨n', ⟨⟨a4, k4, rfl⟩, hn'⟩, rfl⟩
  rw [hn', setR_same hR]
  refine ⟨trivial, go_ok _ 1 _ _ ?_⟩
  simp only [go_sem, List.cons_append, List.nil_append, Nat.reduceBEq]
  refine ⟨?_, fun h => absurd h (by decide), rfl⟩
  refine Stp.safeOn ?_ trivial
  refine stp_call [] (args := [vI a4 k4 n.nd.voters]) rfl rfl rfl ⟨_, Try.func31, rfl, rfl⟩ (c31n a4 k4 n.nd.voters f3) rfl (fun _ h => unc_oks h) (by simp [callIdx]) (fun _ _ h => h) ?_
  rintro v hp ⟨rfl, rfl⟩
  refine ⟨trivial, go_ok _ 40 _ _ ?_⟩
  simp only [go_sem, d4, Int.toNat_one, List.cons_append, List.nil_append, Nat.reduceBEq, Nat.zero_add, Try.results9]
  exact ⟨⟨by omega, by omega, Nat.le_refl _⟩, by omega, by decide⟩
end Go.SX
