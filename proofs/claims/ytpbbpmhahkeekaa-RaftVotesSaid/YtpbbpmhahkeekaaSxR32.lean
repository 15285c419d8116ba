/- The law of votes: its walk. -/
import Derived.Test.YtpbbpmhahkeekaaSxR31
import Derived.Test.YtpbbpmhahkeekaaSxR21
namespace Go.SX
open Go.Proofs
set_option maxRecDepth 1000000
variable {E : Env}

theorem upd0 {es : List Ent} {i : Nat} (hi : i < es.length) : updF (rowsV encE (plain0 es i)) i 2 [I 0] = rowsV encE (plain0 es (i + 1)) := by
  rw [← plain0_succ hi]
  have hl : i < (plain0 es i).length := by rw [plain0_len]; exact hi
  funext i' j'
  unfold updF rowsV
  by_cases h : i' = i
  · subst h
    have e1 : ((plain0 es i').set i' { (plain0 es i').getD i' default with kd := 0 }).getD i' default = { (plain0 es i').getD i' default with kd := 0 } := by simp [List.getD_eq_getElem?_getD, hl]
    rw [e1]
    rcases j' with _ | _ | _ | _ | j' <;> simp [encE, Nat.ble, Nat.blt]
  · have e1 : ((plain0 es i).set i { (plain0 es i).getD i default with kd := 0 }).getD i' default = (plain0 es i).getD i' default := by simp [List.getD_eq_getElem?_getD, List.getElem?_set, Ne.symm h]
    have e2 : (i' == i) = false := by simpa using h
    rw [e1, e2]
    rfl

structure G4 (es2 : List Ent) (t : Int) (nq : Nat) where
  i : Nat
  term : Int
  granted : Int
  s : RS
  hi : i ≤ nq
  h40 : i ≤ 40
  lo : t < term
  up : term ≤ t + 1 + i
  vt : Vt es2 t s term granted

theorem c4 (a1 a2 a3 : Option Addr) (n1 n2 n3 : Nat) (ts qs ls : List Int) (hls : ∀ y ∈ ls, inI64 y) : Spec Try.prog E 4 [vI a1 n1 ts, vI a2 n2 qs, vI a3 n3 ls] [] (fun v _ => v = Bl true) := by
  refine spec_of (keep := k4) (args' := [vI a1 n1 ts, vI a2 n2 qs, vI a3 n3 ls]) Try.func4 rfl Try.ntmps4 s4_ok (by simp) ⟨rfl, fun _ h => h⟩ (fun _ _ h => h) (go_ok _ 100 _ _ ?_)
  simp only [go_sem, s4, k4, Nat.reduceBEq, Nat.reduceAdd, Nat.zero_add]
  refine (stp_call [] rfl rfl rfl ⟨_, Try.func12, rfl, rfl⟩ (c12.leave (Post' := fun v hp => v = Bl true ∧ hp = []) fun _ hp h => ⟨[], hp, rfl, h, rfl⟩) rfl (fun _ h => h) rfl (fun _ _ h => h) ?_).safe trivial
  rintro v hp ⟨rfl, rfl⟩
  refine ⟨trivial, go_ok _ 100 _ _ ?_⟩
  simp only [go_sem, Nat.reduceBEq, Nat.reduceAdd, Nat.zero_add, Try.results4, reduceCtorEq]
  refine (stp_call [] rfl rfl rfl ⟨_, Try.func20, rfl, rfl⟩ (c20 a1 n1 ts 1 (by decide)) rfl (fun _ h => h) rfl (fun _ _ h => h) ?_).safe trivial
  rintro v hp ⟨es, t, nl, b, off, cp, md, h12, rfl, rfl⟩
  refine ⟨trivial, go_ok _ 100 _ _ ?_⟩
  simp only [go_sem, Nat.reduceBEq, Nat.reduceAdd, Nat.zero_add]
  refine safe_loop (ι := {i : Nat // i ≤ es.length}) (fun i => ⟨[(0, vI a1 n1 ts), (1, vI a2 n2 qs), (2, vI a3 n3 ls), (7, .osl 0 nl b off es.length cp), (8, I i.1)], [.row nl b 43 off 4 es.length cp (rowsV encE (plain0 es i.1))]⟩) (fun i => es.length - i.1) ⟨0, Nat.zero_le _⟩
    (Sub.front (X := []) ⟨rfl, rfl, rfl, rfl, rfl, trivial⟩ rfl) ?_
  rintro ⟨i, hi⟩
  refine go_ok _ 23 _ _ ?_
  simp only [go_sem, Nat.reduceBEq, Nat.reduceAdd, Nat.zero_add, Try.results4, Int.toNat_natCast]
  refine ⟨fun h => ?_, fun h => ?_⟩
  · have hlt : i < es.length := by simpa using h
    refine ⟨⟨by omega, by omega, Nat.le_refl _⟩, ⟨by omega, by decide⟩, by simp only [inI64]; omega, ?_⟩
    rw [upd0 hlt]
    refine go_ok _ 10 _ _ ?_
    simp only [go_sem, Nat.reduceBEq, Nat.reduceAdd, Nat.zero_add]
    exact safe_lend ⟨i + 1, by omega⟩ (by simp only; omega) (Sub.front (X := []) ⟨rfl, rfl, rfl, rfl, rfl, trivial⟩ rfl)
  · have hi' : i = es.length := by simp at h; omega
    subst hi'
    have lg := md.lg
    generalize hes1 : plain0 es es.length = es1 at lg
    have hl1 : es1.length = es.length := by rw [← hes1, plain0_len]
    have hge := md.ge
    have hup := md.hi
    refine safe_cond_mid (p := decide (0 < (es.length : Int))) ⟨[(0, vI a1 n1 ts), (1, vI a2 n2 qs), (2, vI a3 n3 ls), (7, .osl 0 nl b off es.length cp), (9, I t), (10, I es.length)], [.row nl b 43 off 4 es.length cp (rowsV encE es1)]⟩ rfl ?_ ?_ ?_
    · refine go_ok _ 8 _ _ ?_
      simp only [go_sem, Nat.reduceBEq, Nat.reduceAdd, Nat.zero_add]
      intro b1
      refine safe_frzC (c := 1) (f' := rowsV encI [0, 1, 2, 3]) (env' := [(51, .osl 0 nl b off es.length cp), (50, .agg [I 0, I 0, nilS]), (49, .agg [I t, I (-1), I 0]), (48, I t), (47, frz false b1 0 4 4 1 (rowsV encI [0, 1, 2, 3])), (0, vI a1 n1 ts), (1, vI a2 n2 qs), (2, vI a3 n3 ls),
        (7, .osl 0 nl b off es.length cp), (9, I t), (10, I es.length)]) rfl (fun i j hi hj => ?_) ⟨rfl, .inl rfl, rfl, .inl rfl, rfl, .inl rfl, rfl, .inl rfl, rfl, .inr ⟨rfl, rfl⟩, rfl, .inl rfl, rfl, .inl rfl, rfl, .inl rfl, rfl, .inl rfl, rfl, .inl rfl, rfl, .inl rfl, trivial⟩ ?_
      · obtain rfl : j = 0 := by omega
        rcases i with _ | _ | _ | _ | i <;> first | omega | rfl
      refine safe_frzC (c := 0) (f' := rowsV encE es1) (env' := [(51, frz nl b off es.length cp 4 (rowsV encE es1)), (50, .agg [I 0, I 0, nilS]), (49, .agg [I t, I (-1), I 0]), (48, I t), (47, frz false b1 0 4 4 1 (rowsV encI [0, 1, 2, 3])), (0, vI a1 n1 ts), (1, vI a2 n2 qs), (2, vI a3 n3 ls),
        (7, frz nl b off es.length cp 4 (rowsV encE es1)), (9, I t), (10, I es.length)]) rfl (fun _ _ _ _ => rfl) ⟨rfl, .inr ⟨rfl, rfl⟩, rfl, .inl rfl, rfl, .inl rfl, rfl, .inl rfl, rfl, .inl rfl, rfl, .inl rfl, rfl, .inl rfl, rfl, .inl rfl, rfl, .inr ⟨rfl, rfl⟩, rfl, .inl rfl, rfl, .inl rfl, trivial⟩ ?_
      have hbd : ∀ e ∈ es1, okD e.d.xs ∧ -2 ^ 62 ≤ e.ix ∧ e.ix ≤ 2 ^ 62 := fun e he => by
        refine ⟨(lg.d e he).1, ?_⟩
        obtain ⟨k, hk, rfl⟩ := List.getElem_of_mem he
        have := lg.ix k hk
        rw [List.getD_eq_getElem?_getD, List.getElem?_eq_getElem hk] at this
        simp only [Option.getD_some] at this
        omega
      have hrow : Spec Try.prog E 68 [vE (if nl = true then none else some ⟨b, off, none⟩) cp es1, I 0, I 0, I 4611686018427387904] [] (fun v hp => v = Bl true ∧ hp = []) := by
        refine (c68 _ cp es1 0 0 4611686018427387904 (by omega) hbd).post ?_
        rintro v hp ⟨rfl, rfl⟩
        rw [lg.row (by omega)]
        exact ⟨rfl, rfl⟩
      have hlast : es1 = [] ∨ (es1.getD (es1.length - 1) default).tm = t := by
        rcases Nat.eq_zero_or_pos es1.length with h0 | h0
        · exact .inl (List.length_eq_zero_iff.1 h0)
        · refine .inr ?_
          have := lg.last
          unfold prevT at this
          rw [if_neg (by omega)] at this
          exact this
      have h13 := c13 (E := E) 2 0 (some ⟨b1, 0, none⟩) 4 [0, 1, 2, 3] t (-1) 0 (if nl = true then none else some ⟨b, off, none⟩) cp es1 rfl (by decide) (by omega) (by decide) (by decide) hrow (by omega) (fun e he => (lg.d e he).1.1) (hlast.imp id Int.le_of_eq)
      refine (stp_call [] (args := [I 0, vI (some ⟨b1, 0, none⟩) 4 [0, 1, 2, 3], .agg [I t, I (-1), I 0], .agg [I 0, I 0, vI none 0 []], vB none 0 [], vE (if nl = true then none else some ⟨b, off, none⟩) cp es1]) rfl rfl rfl ⟨_, Try.func13, rfl, rfl⟩ h13 ?_ (fun ro h => ?_) rfl (fun _ _ h => h) ?_).safe trivial
      · simp only [SV.dens, SV.den, frz, hl1, List.nil_append, List.append_nil]
        rfl
      · have h' : SV.oks ro [I 0, vI (some ⟨b1, 0, none⟩) 4 [0, 1, 2, 3], .agg [I t, I (-1), I 0], .agg [I 0, I 0, nilS], nilS, vE (if nl = true then none else some ⟨b, off, none⟩) cp es1] := by
          simp only [vE, hl1]
          exact h
        simp only [SV.oks] at h' ⊢
        exact ⟨h'.1, h'.2.1, h'.2.2.1, by simp only [SV.ok, SV.oks]; exact ⟨trivial, trivial, nilOk _ _ _, trivial⟩, nilOk _ _ _, h'.2.2.2.2.2⟩
      rintro v hp ⟨br, x1, x2, x3, lax, y1, y2, y3, lcx, es2, hsame, rfl, rfl⟩
      refine ⟨trivial, go_ok _ 100 _ _ ?_⟩
      simp only [go_sem, Nat.reduceBEq, Nat.reduceAdd, Nat.zero_add, Try.results4]
      have hl2 : es2.length = es.length := by rw [hsame.len, hl1]
      have hlast2 : es2 = [] ∨ (es2.getD (es2.length - 1) default).tm = t := by
        rcases hlast with h | h
        · exact .inl (List.length_eq_zero_iff.1 (by rw [hsame.len, h]; rfl))
        · refine .inr ?_
          rw [hsame.tm, hsame.len]
          exact h
      have hfit2 : ∀ e ∈ es2, e.d.xs.length ≤ 2 ^ 40 := hsame.fits fun e he => (lg.d e he).1.1
      refine ⟨fun h => absurd h (by decide), fun _ => ⟨by simp only [inI64]; omega, ?_⟩⟩
      refine safe_loop (ι := G4 es2 t qs.length) (fun g => ⟨[(0, vI a1 n1 ts), (1, vI a2 n2 qs), (2, vI a3 n3 ls), (9, I t), (10, I es.length), (11, .ptr 2 br 0), (13, I g.granted), (14, I g.term), (15, I g.i)], [.emp, .emp, rC br g.s]⟩) (fun g => qs.length - g.i)
        ⟨0, t + 1, -1, _, Nat.zero_le _, by decide, by omega, by omega, ⟨rfl, rfl, rfl, rfl, (show min (0 : Int) (es1.length : Int) = 0 by omega), (show t ≤ t + 1 by omega), fun h => absurd (show t = t + 1 from h) (by omega), fun _ => rfl, by decide, rfl, rfl, rfl, rfl, rfl⟩⟩
        (Sub.front (X := []) ⟨rfl, rfl, rfl, rfl, rfl, rfl, rfl, rfl, rfl, trivial⟩ rfl) ?_
      rintro ⟨i, term, granted, s, hi, h40, hlo, hup, vt⟩
      refine go_ok _ 100 _ _ ?_
      simp only [go_sem, Nat.reduceBEq, Nat.reduceAdd, Nat.zero_add, Try.results4, Int.toNat_natCast]
      refine ⟨fun h => by rw [h]; rfl, fun h => ?_⟩
      have hlt : i < qs.length ∧ i < ls.length ∧ i < 40 := by simp at h; omega
      refine ⟨by omega, by decide, ?_⟩
      generalize hqx : qs.getD i 0 = x
      have hm3 : 0 ≤ x % 3 ∧ x % 3 < 3 := by omega
      refine (stp_call [] rfl rfl rfl ⟨_, Try.func21, rfl, rfl⟩ (c21 x 3 (by decide) (by decide)) rfl (fun _ h => h) rfl (fun _ _ h => h) ?_).safe trivial
      rintro v hp ⟨rfl, rfl⟩
      refine ⟨by simp only [go_sem, Nat.reduceBEq, Nat.reduceAdd, Nat.zero_add], go_ok _ 13 _ _ ?_⟩
      simp only [go_sem, hqx, Nat.reduceBEq, Nat.reduceAdd, Nat.zero_add, Int.toNat_natCast]
      refine ⟨by simp only [inI64]; omega, by omega, by decide, by decide, ?_⟩
      refine safe_cond_midp (κ := {q : Int × Int // t < q.1 ∧ q.1 ≤ t + 1 + (i + 1) ∧ Vt es2 t s q.1 q.2}) (fun q => ⟨[(0, vI a1 n1 ts), (1, vI a2 n2 qs), (2, vI a3 n3 ls), (9, I t), (10, I es.length), (11, .ptr 2 br 0), (13, I q.1.2), (14, I q.1.1), (15, I i), (16, I (1 + x % 3))], [.emp, .emp, rC br s]⟩) rfl ?_ ?_ ?_
      · rintro ⟨⟨tm2, gr2⟩, hlo2, hup2, vt2⟩
        simp only at hlo2 hup2 vt2
        refine go_ok _ 100 _ _ ?_
        simp only [go_sem, Nat.reduceBEq, Nat.reduceAdd, Nat.zero_add]
        generalize hly : ls.getD i 0 = y
        have hyb : inI64 y := by
          rw [← hly, List.getD_eq_getElem?_getD, List.getElem?_eq_getElem hlt.2.1]
          exact hls _ (List.getElem_mem _)
        have htd : inI64 (y.tdiv 15) := by
          obtain ⟨h2, h3⟩ := hyb
          rcases Int.le_total 0 y with h0 | h0
          · rw [Int.tdiv_eq_ediv_of_nonneg h0]
            constructor <;> omega
          · rw [show y = -(-y) by omega, Int.neg_tdiv, Int.tdiv_eq_ediv_of_nonneg (by omega)]
            constructor <;> omega
        have ht2 : inI64 (t + 2) := by simp only [inI64]; omega
        have hib : 0 ≤ (i : Int) ∧ (i : Int) < (ls.length : Int) := by omega
        refine safe_alts_mid (ι := Nat) (fun b17 => ⟨[(0, vI a1 n1 ts), (1, vI a2 n2 qs), (2, vI a3 n3 ls), (9, I t), (10, I es.length), (11, .ptr 2 br 0), (13, I gr2), (14, I tm2), (15, I i), (16, I (1 + x % 3)), (17, .ptr 3 b17 0)],
          [.emp, .emp, rC br s, .cells b17 54 (encM ⟨1, 1 + x % 3, 0, tm2, y % 15, (y.tdiv 15) % (t + 2), 0, 0, false, 0⟩)]⟩) ?_ ?_
        · intro b17
          refine go_ok _ 100 _ _ ?_
          simp only [go_sem, Nat.reduceBEq, Nat.reduceAdd, Nat.zero_add]
          generalize hmm : (⟨1, 1 + x % 3, 0, tm2, y % 15, (y.tdiv 15) % (t + 2), 0, 0, false, 0⟩ : Ms) = m
          have hm1 : m.fr = 1 + x % 3 := by rw [← hmm]
          have hm2 : m.tm = tm2 := by rw [← hmm]
          have hm3' : m.ix = y % 15 := by rw [← hmm]
          have hm4 : m.lt = (y.tdiv 15) % (t + 2) := by rw [← hmm]
          have hasks : Asks s m := ⟨by rw [← hmm], by rw [← hmm, vt2.id], by rw [hm1, vt2.id]; omega, by rw [hm1]; simp [isIdB]; omega, by rw [hm2]; omega⟩
          have hsm : s.small := ⟨by rw [vt2.ix]; decide, by rw [vt2.ix]; decide, by rw [vt2.es]; omega⟩
          have hsl : s.last ≤ 2 ^ 61 := by simp only [RS.last, vt2.ix, vt2.es]; omega
          refine (stp_call [2] (args := [.ptr 2 br 0, .agg (encM m)]) rfl rfl rfl ⟨_, Try.func22, rfl, rfl⟩ (c22 br s m hasks hsm hsl vt2.msgs vt2.role (by rw [hm2]; exact vt2.le)) (by rw [← hmm]; rfl) (fun _ h => by rw [← hmm]; exact h) rfl (fun _ _ h => h) ?_).safe trivial
          rintro v hp ⟨am, cm, rfl⟩
          obtain ⟨nx, nxT, nxV⟩ := vt2.next (am := am) (cm := cm) (m2 := ⟨2, s.id, m.fr, m.tm, 0, 0, 0, 0, (s.heard m.tm).grants m, 0⟩) hlast2 hm2 (by rw [hm1]; omega)
          have hgr := vt2.grants hlast2 hm2 (by rw [hm1]; omega)
          obtain ⟨f1, f2, f3, f4⟩ := vt2.rest m
          rw [hgr] at nx nxT nxV ⊢
          generalize hw : wants es2 t gr2 m = w at nx nxT nxV ⊢
          generalize hs2 : ((s.heard m.tm).voted m).msg1 am cm ⟨2, s.id, m.fr, m.tm, 0, 0, 0, 0, w, 0⟩ = s2 at nx nxT nxV ⊢
          have g1 : s2.fresh = 0 := by rw [← hs2]; exact f1
          have g2 : s2.applied = 0 := by rw [← hs2]; exact f2
          have g3 : s2.reads = nilS := by rw [← hs2]; exact f3
          have g4 : s2.snap = false := by rw [← hs2]; exact f4
          have g5 : s2.mIx = 0 := nx.ix
          have g6 : s2.es = es2 := nx.es
          have g7 : s2.hC = 0 := nx.hC
          have g8 : s2.msgs = vM am cm [⟨2, s.id, m.fr, m.tm, 0, 0, 0, 0, w, 0⟩] := by rw [← hs2]; rfl
          clear hs2 f1 f2 f3 f4 hgr
          refine ⟨trivial, go_ok _ 100 _ _ ?_⟩
          simp only [go_sem, Nat.reduceBEq, Nat.reduceAdd, Nat.zero_add]
          refine (stp_call [2] rfl rfl rfl ⟨_, Try.func16, rfl, rfl⟩ (c16S br s2 ⟨by rw [g5]; decide, by rw [g5]; decide, by rw [g6]; omega⟩ (by rw [RS.fitsD, g6]; exact hfit2) (by rw [g1]; decide) (by rw [g2, g7]; decide) g4 g8 g3) rfl (fun _ h => h) rfl (fun _ _ h => h) ?_).safe trivial
          rintro v hp ⟨⟨o, rfl⟩, rfl⟩
          generalize s2.readied = s3 at nx nxT nxV ⊢
          generalize hm2' : (⟨2, s.id, m.fr, m.tm, 0, 0, 0, 0, w, 0⟩ : Ms) = ma
          have r0 : rowsV encM [ma] (Int.toNat 0) 0 = I 2 := by rw [← hm2']; rfl
          have r2 : rowsV encM [ma] (Int.toNat 0) 2 = I m.fr := by rw [← hm2']; rfl
          have r3 : rowsV encM [ma] (Int.toNat 0) 3 = I m.tm := by rw [← hm2']; rfl
          have r9 : rowsV encM [ma] (Int.toNat 0) 9 = Bl w := by rw [← hm2']; rfl
          have d1 : decide (((1 : Nat) : Int) ≠ 1) = false := by decide
          have d2 : decide ((2 : Int) ≠ 2) = false := by decide
          have d3 : decide (m.fr ≠ 1 + x % 3) = false := by simp [hm1]
          have d4 : decide (m.tm ≠ tm2) = false := by simp [hm2]
          refine ⟨trivial, go_ok _ 49 _ _ ?_⟩
          simp only [go_sem, nilS, r0, r2, r3, d1, d2, d3, d4, Nat.reduceBEq, Nat.reduceAdd, Nat.zero_add, List.length_singleton]
          intro b18
          refine ⟨⟨by decide, by decide⟩, by decide, ⟨by decide, by decide⟩, by decide, ⟨by decide, by decide⟩, by decide, ?_⟩
          generalize hd : (if 0 < es2.length then t else 0) = d
          refine safe_cond_mid (p := decide (0 < (es.length : Int))) ⟨[(0, vI a1 n1 ts), (1, vI a2 n2 qs), (2, vI a3 n3 ls), (9, I t), (10, I es.length), (11, .ptr 2 br 0), (13, I gr2), (14, I tm2), (15, I i), (16, I (1 + x % 3)), (17, .ptr 3 b17 0), (18, .ptr 4 b18 0), (19, I d)],
            [.emp, .emp, rC br s3, .cells b17 54 (encM m), .cells b18 40 [Bl o.hh, I o.t, I o.v, I o.c, Bl false, I 0, I 0, nilS, nilS, vE o.ea o.ec o.es, vM am cm [ma], vE o.ca o.cc o.cs, nilS]]⟩ rfl ?_ ?_ ?_
          · have hww : ((decide (d < m.lt) || decide (m.lt = d) && decide ((es.length : Int) ≤ m.ix)) && (decide (gr2 < 0) || decide (gr2 = 1 + x % 3))) = w := by
              rw [← hw, ← hd]; simp only [wants, hl2, hm1]
            refine go_ok _ 100 _ _ ?_
            simp only [go_sem, nilS, r9, hww, Nat.reduceBEq, Nat.reduceAdd, Nat.zero_add, List.length_singleton]
            refine ⟨?_, ?_, ?_, ?_, ?_, ⟨by decide, by decide⟩, by decide, ?_⟩
            · cases decide (d < m.lt) <;> decide
            · cases decide (d < m.lt) <;> cases decide (m.lt = d) <;> decide
            · cases decide (d < m.lt) <;> cases decide (m.lt = d) <;> decide
            · generalize (decide (d < m.lt) || decide (m.lt = d) && decide ((es.length : Int) ≤ m.ix)) = q
              cases q <;> cases decide (gr2 < 0) <;> decide
            · generalize (decide (d < m.lt) || decide (m.lt = d) && decide ((es.length : Int) ≤ m.ix)) = q
              cases q <;> cases decide (gr2 < 0) <;> decide
            refine ⟨fun hw1 => ?_, fun hw0 => ?_⟩
            · have e5 : decide (s3.hV ≠ 1 + x % 3) = false := by rw [nxV, if_pos hw1, hm1]; simp
              have e6 : decide (s3.hT ≠ tm2) = false := by rw [nxT]; simp
              rw [if_pos hw1, hm1] at nx
              refine (stp_call [2] rfl rfl rfl ⟨_, Try.func19, rfl, rfl⟩ (c19 br s3) rfl (fun _ h => h) rfl (fun _ _ h => h) ?_).safe trivial
              rintro v hp ⟨rfl, rfl⟩
              refine ⟨trivial, go_ok _ 100 _ _ ?_⟩
              simp only [go_sem, e5, Nat.reduceBEq, Nat.reduceAdd, Nat.zero_add]
              refine ⟨?_, fun h => absurd h (by decide), rfl⟩
              refine Stp.safeOn ?_ trivial
              refine stp_call [2] (args := [.ptr 2 br 0]) rfl rfl rfl ⟨_, Try.func19, rfl, rfl⟩ (c19 br s3) rfl (fun _ h => unc_oks h) rfl (fun _ _ h => h) ?_
              rintro v hp ⟨rfl, rfl⟩
              refine ⟨trivial, go_ok _ 100 _ _ ?_⟩
              simp only [go_sem, e6, Nat.reduceBEq, Nat.reduceAdd, Nat.zero_add]
              refine ⟨by simp only [inI64]; omega, ?_⟩
              exact safe_lend ⟨i + 1, tm2, 1 + x % 3, s3, by omega, by omega, hlo2, by omega, nx⟩ (by simp only; omega) (Sub.front (X := [_, _]) ⟨rfl, rfl, rfl, rfl, rfl, rfl, rfl, rfl, rfl, trivial⟩ rfl)
            · have e5 : decide (s3.hV ≠ gr2) = false := by rw [nxV, hw0]; simp
              have e6 : decide (s3.hT ≠ tm2) = false := by rw [nxT]; simp
              rw [hw0, if_neg (by decide)] at nx
              refine (stp_call [2] rfl rfl rfl ⟨_, Try.func19, rfl, rfl⟩ (c19 br s3) rfl (fun _ h => h) rfl (fun _ _ h => h) ?_).safe trivial
              rintro v hp ⟨rfl, rfl⟩
              refine ⟨trivial, go_ok _ 100 _ _ ?_⟩
              simp only [go_sem, e5, Nat.reduceBEq, Nat.reduceAdd, Nat.zero_add]
              refine ⟨?_, fun h => absurd h (by decide), rfl⟩
              refine Stp.safeOn ?_ trivial
              refine stp_call [2] (args := [.ptr 2 br 0]) rfl rfl rfl ⟨_, Try.func19, rfl, rfl⟩ (c19 br s3) rfl (fun _ h => unc_oks h) rfl (fun _ _ h => h) ?_
              rintro v hp ⟨rfl, rfl⟩
              refine ⟨trivial, go_ok _ 100 _ _ ?_⟩
              simp only [go_sem, e6, Nat.reduceBEq, Nat.reduceAdd, Nat.zero_add]
              refine ⟨by simp only [inI64]; omega, ?_⟩
              exact safe_lend ⟨i + 1, tm2, gr2, s3, by omega, by omega, hlo2, by omega, nx⟩ (by simp only; omega) (Sub.front (X := [_, _]) ⟨rfl, rfl, rfl, rfl, rfl, rfl, rfl, rfl, rfl, trivial⟩ rfl)
          · intro h2 hrest
            have h0 : 0 < es2.length := by simp at h2; omega
            rw [if_pos h0] at hd
            subst hd
            refine go_ok _ 4 _ _ ?_
            simp only [go_sem, Nat.reduceBEq, Nat.reduceAdd, Nat.zero_add]
            refine Safe.sub ?_ hrest
            exact Sub.front (X := []) ⟨rfl, rfl, rfl, rfl, rfl, rfl, rfl, rfl, rfl, rfl, rfl, rfl, rfl, trivial⟩ (by rw [← hmm]; rfl)
          · intro h2 hrest
            have h0 : ¬ 0 < es2.length := by have := of_decide_eq_false h2; omega
            rw [if_neg h0] at hd
            subst hd
            refine go_ok _ 1 _ _ ?_
            simp only [go_sem, Nat.reduceBEq, Nat.reduceAdd, Nat.zero_add]
            refine Safe.sub ?_ hrest
            exact Sub.front (X := []) ⟨rfl, rfl, rfl, rfl, rfl, rfl, rfl, rfl, rfl, rfl, rfl, rfl, rfl, trivial⟩ (by rw [← hmm]; rfl)
        · intro l hl hrest
          simp only [List.mem_cons, List.not_mem_nil, or_false] at hl
          rcases hl with rfl | rfl | rfl
          · refine go_ok _ 100 _ _ ?_
            simp only [go_sem, Nat.reduceBEq, Nat.reduceAdd, Nat.zero_add, hly, Int.toNat_natCast]
            refine ⟨hib, by decide, hib, by decide, ⟨by decide, htd⟩, ht2, ?_⟩
            refine (stp_call [] rfl rfl rfl ⟨_, Try.func21, rfl, rfl⟩ (c21 y 15 (by decide) (by decide)) rfl (fun _ h => h) rfl (fun _ _ h => h) ?_).safe trivial
            rintro v hp ⟨rfl, rfl⟩
            refine ⟨?_, ?_⟩
            · simp only [go_sem, Nat.reduceBEq, Nat.reduceAdd, Nat.zero_add, hly, Int.toNat_natCast]
              exact ⟨hib, by decide, ⟨by decide, htd⟩, ht2⟩
            refine (stp_call [] rfl rfl rfl ⟨_, Try.func21, rfl, rfl⟩ (c21 (y.tdiv 15) (t + 2) (by omega) (by omega)) rfl (fun _ h => h) rfl (fun _ _ h => h) ?_).safe trivial
            rintro v hp ⟨rfl, rfl⟩
            refine ⟨by simp only [go_sem, Nat.reduceBEq, Nat.reduceAdd, Nat.zero_add], go_ok _ 4 _ _ ?_⟩
            simp only [go_sem, Nat.reduceBEq, Nat.reduceAdd, Nat.zero_add, hly, Int.toNat_natCast]
            exact fun b17 => ⟨⟨hib, by decide, hib, by decide, ⟨by decide, htd⟩, ht2⟩, hrest b17⟩
          · refine go_ok _ 100 _ _ ?_
            simp only [go_sem, Nat.reduceBEq, Nat.reduceAdd, Nat.zero_add, hly, Int.toNat_natCast]
            refine ⟨hib, by decide, hib, by decide, ⟨by decide, htd⟩, ht2, ?_⟩
            refine (stp_call [] rfl rfl rfl ⟨_, Try.func21, rfl, rfl⟩ (c21 y 15 (by decide) (by decide)) rfl (fun _ h => h) rfl (fun _ _ h => h) ?_).safe trivial
            rintro v hp ⟨rfl, rfl⟩
            refine ⟨?_, ?_⟩
            · simp only [go_sem, Nat.reduceBEq, Nat.reduceAdd, Nat.zero_add, hly, Int.toNat_natCast]
              exact ⟨hib, by decide, ⟨by decide, htd⟩, ht2⟩
            refine go_ok _ 100 _ _ ?_
            simp only [go_sem, Nat.reduceBEq, Nat.reduceAdd, Nat.zero_add, hly, Int.toNat_natCast]
            refine fun b17 => ⟨⟨hib, by decide, hib, by decide, ⟨by decide, htd⟩, ht2⟩, ?_⟩
            refine (stp_call [] rfl rfl rfl ⟨_, Try.func21, rfl, rfl⟩ (c21 (y.tdiv 15) (t + 2) (by omega) (by omega)) rfl (fun _ h => h) rfl (fun _ _ h => h) ?_).safe trivial
            rintro v hp ⟨rfl, rfl⟩
            refine ⟨by simp only [go_sem, Nat.reduceBEq, Nat.reduceAdd, Nat.zero_add], go_ok _ 3 _ _ ?_⟩
            simp only [go_sem, Nat.reduceBEq, Nat.reduceAdd, Nat.zero_add, hly, Int.toNat_natCast]
            exact hrest b17
          · refine go_ok _ 100 _ _ ?_
            simp only [go_sem, Nat.reduceBEq, Nat.reduceAdd, Nat.zero_add, hly, Int.toNat_natCast]
            refine ⟨hib, by decide, hib, by decide, ⟨by decide, htd⟩, ht2, fun b17 => ⟨⟨hib, by decide, hib, by decide, ⟨by decide, htd⟩, ht2⟩, ?_⟩⟩
            refine (stp_call [] rfl rfl rfl ⟨_, Try.func21, rfl, rfl⟩ (c21 y 15 (by decide) (by decide)) rfl (fun _ h => h) rfl (fun _ _ h => h) ?_).safe trivial
            rintro v hp ⟨rfl, rfl⟩
            refine ⟨?_, ?_⟩
            · simp only [go_sem, Nat.reduceBEq, Nat.reduceAdd, Nat.zero_add, hly, Int.toNat_natCast]
              exact ⟨hib, by decide, ⟨by decide, htd⟩, ht2⟩
            refine (stp_call [] rfl rfl rfl ⟨_, Try.func21, rfl, rfl⟩ (c21 (y.tdiv 15) (t + 2) (by omega) (by omega)) rfl (fun _ h => h) rfl (fun _ _ h => h) ?_).safe trivial
            rintro v hp ⟨rfl, rfl⟩
            refine ⟨by simp only [go_sem, Nat.reduceBEq, Nat.reduceAdd, Nat.zero_add], go_ok _ 3 _ _ ?_⟩
            simp only [go_sem, Nat.reduceBEq, Nat.reduceAdd, Nat.zero_add, hly, Int.toNat_natCast]
            exact hrest b17
      · intro h2 hrest
        refine go_ok _ 9 _ _ ?_
        simp only [go_sem, Nat.reduceBEq, Nat.reduceAdd, Nat.zero_add]
        refine ⟨by simp only [inI64]; omega, ?_⟩
        refine Safe.sub ?_ (hrest ⟨(term + 1, -1), by omega, by omega, ⟨vt.id, vt.role, vt.ix, vt.es, vt.hC, (by have := vt.le; omega), fun h => absurd h (by have := vt.le; omega), fun _ => rfl, Int.le_refl _, vt.fresh, vt.app, vt.reads, vt.msgs, vt.snap⟩⟩)
        exact Sub.front (X := []) ⟨rfl, rfl, rfl, rfl, rfl, rfl, rfl, rfl, rfl, rfl, trivial⟩ rfl
      · intro h2 hrest
        refine go_ok _ 1 _ _ ?_
        simp only [go_sem, Nat.reduceBEq, Nat.reduceAdd, Nat.zero_add]
        refine Safe.sub ?_ (hrest ⟨(term, granted), by omega, by omega, vt⟩)
        exact Sub.front (X := []) ⟨rfl, rfl, rfl, rfl, rfl, rfl, rfl, rfl, rfl, rfl, trivial⟩ rfl
    · intro h2 hrest
      have h0 : 0 < es.length := by simp at h2; omega
      refine go_ok _ 9 _ _ ?_
      simp only [go_sem, Nat.reduceBEq, Nat.reduceAdd, Nat.zero_add]
      have htt : (es1.getD ((es.length : Int) - 1).toNat default).tm = t := by
        have := lg.last
        rw [hl1] at this
        unfold prevT at this
        rw [if_neg (by omega)] at this
        rw [show ((es.length : Int) - 1).toNat = es.length - 1 by omega]
        exact this
      rw [htt]
      refine ⟨by simp only [inI64]; omega, by omega, by omega, ?_⟩
      refine Safe.sub ?_ hrest
      exact Sub.front (X := []) ⟨rfl, rfl, rfl, rfl, rfl, rfl, trivial⟩ rfl
    · intro h2 hrest
      have h0 : es.length = 0 := by have := of_decide_eq_false h2; omega
      have ht : t = 1 := by have := md.last; rw [h0] at this; exact this.symm
      subst ht
      refine go_ok _ 1 _ _ ?_
      simp only [go_sem, Nat.reduceBEq, Nat.reduceAdd, Nat.zero_add]
      refine Safe.sub ?_ hrest
      exact Sub.front (X := []) ⟨rfl, rfl, rfl, rfl, rfl, rfl, trivial⟩ rfl
end Go.SX
