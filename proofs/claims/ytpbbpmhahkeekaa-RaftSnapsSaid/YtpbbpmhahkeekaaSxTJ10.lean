/- Joined texts: T45 T46 T47 T48 T49. -/
import Derived.Test.YtpbbpmhahkeekaaSxTJ9
/- Raft: what a node tells is saved: entries laid down. -/
namespace Go.SX
open Go.Proofs
set_option maxRecDepth 1000000
variable {E : Env}

/-- the walk of 'settle' -/
noncomputable abbrev S29 (E : Env) (P : SV → List Chunk → Prop) : Setup := ⟨{ P := Try.prog, E := E, N := 363 }, Try.f29, P, k29⟩
structure WQ4 (s : SvL) (es : List Ent) (kk : Nat) where
  c : Nat
  hc : c ≤ es.length
  s' : SvL
  ok : s'.pl.okk kk
  eq : Rf.Gr.saveE s.pl (es.map Ent.pl) = Rf.Gr.saveE s'.pl ((es.drop c).map Ent.pl)
set_option maxHeartbeats 4000000 in
theorem safe_q4 {P : SV → List Chunk → Prop} {b b6 b7 i cc : Nat} {A0 A1 A2 A3 A4 A5 A6 A7 A8 : Chunk} {r : RdL} {s : SvL} {k : List Frag} {kk : Nat} (hkk : kk ≤ 2 ^ 30) (hs : s.pl.okk kk) (he : ∀ e ∈ r.es.xs, e.pl.fit kk ∧ 0 ≤ e.ix ∧ e.ix ≤ kk) (hel : r.es.xs.length ≤ 2 ^ 30) (hb : (botK k).isNone = true)
    (hno : Rf.Gr.saveE s.pl (r.es.xs.map Ent.pl) = none → ∀ hp, P (Bl false) hp)
    (hyes : ∀ s' : SvL, Rf.Gr.saveE s.pl (r.es.xs.map Ent.pl) = some s'.pl → Safe (S29 E P) k ⟨[(0, .ptr 0 b 0), (1, I i), (5, I cc), (6, .ptr 9 b6 0), (7, .ptr 10 b7 0)], [A0, A1, A2, A3, A4, A5, A6, A7, A8, .cells b6 40 (encRd r), .cells b7 108 (encS s')]⟩) :
    Safe (S29 E P) (.code q4 :: k) ⟨[(0, .ptr 0 b 0), (1, I i), (5, I cc), (6, .ptr 9 b6 0), (7, .ptr 10 b7 0), (10, I 0)], [A0, A1, A2, A3, A4, A5, A6, A7, A8, .cells b6 40 (encRd r), .cells b7 108 (encS s)]⟩ := by
  unfold q4
  refine go_ok _ 1 _ _ ?_
  simp only [go_sem]
  refine safe_loop (ι := WQ4 s r.es.xs kk) (fun g => ⟨[(0, .ptr 0 b 0), (1, I i), (5, I cc), (6, .ptr 9 b6 0), (7, .ptr 10 b7 0), (10, I g.c)], [A0, A1, A2, A3, A4, A5, A6, A7, A8, .cells b6 40 (encRd r), .cells b7 108 (encS g.s')]⟩) (fun g => r.es.xs.length - g.c)
    ⟨0, Nat.zero_le _, s, hs, by rw [List.drop_zero]⟩ (Sub.front (X := []) ⟨rfl, rfl, rfl, rfl, rfl, rfl, trivial⟩ rfl) ?_
  rintro ⟨c, hc, s', hs1, heq⟩
  refine go_ok _ 11 _ _ ?_
  simp only [go_sem, k29, List.cons_append, List.nil_append, Nat.reduceBEq, Nat.zero_add]
  refine ⟨fun hl => ?_, fun hl => ?_⟩
  · have hlt : c < r.es.xs.length := by simpa using hl
    have hdr : (r.es.xs.drop c).map Ent.pl = (r.es.xs.getD c default).pl :: (r.es.xs.drop (c + 1)).map Ent.pl := by
      rw [List.drop_eq_getElem_cons hlt, List.map_cons, List.getD_eq_getElem?_getD, List.getElem?_eq_getElem hlt]
      rfl
    have hmem : r.es.xs.getD c default ∈ r.es.xs.drop c := by
      rw [List.drop_eq_getElem_cons hlt, List.getD_eq_getElem?_getD, List.getElem?_eq_getElem hlt]
      exact List.mem_cons_self ..
    have hee := he _ (List.mem_of_mem_drop hmem)
    generalize hE : r.es.xs.getD c default = e at hdr hee
    have hix0 := hee.2.1
    have hix1 := hee.2.2
    have hi0 : 0 ≤ s'.mi := hs1.i0
    have hi1 : s'.mi + (s'.pl.l.length : Int) ≤ kk := hs1.i1
    have hpll : s'.pl.l.length = s'.l.xs.length := by show (s'.l.xs.map Ent.pl).length = _; rw [List.length_map]
    rw [hpll] at hi1
    refine go_ok _ 30 _ _ ?_
    simp only [go_sem, k29, hE, List.cons_append, List.nil_append, Nat.reduceBEq, Nat.reduceAdd, Nat.zero_add, Int.toNat_natCast]
    refine ⟨⟨by omega, by omega⟩, by decide, by simp only [inI64]; omega, by simp only [inI64]; omega, fun h => by rw [h]; rfl, ?_⟩
    have hse : Rf.Gr.saveE s'.pl ((r.es.xs.drop c).map Ent.pl) = if e.ix - s'.mi - 1 < 0 ∨ (s'.l.xs.length : Int) < e.ix - s'.mi - 1 then none else Rf.Gr.saveE { s'.pl with l := s'.pl.l.take (e.ix - s'.mi - 1).toNat ++ [e.pl] } ((r.es.xs.drop (c + 1)).map Ent.pl) := by
      rw [hdr, Rf.Gr.saveE, hpll]
      rfl
    refine go_ok _ 1 _ _ ?_
    simp only [go_sem]
    refine ⟨fun hc => ?_, fun hc => ?_⟩
    · have hc' : e.ix - s'.mi - 1 < 0 ∨ (s'.l.xs.length : Int) < e.ix - s'.mi - 1 := by simpa using hc
      rw [if_pos hc'] at hse
      refine go_ok _ 5 _ _ ?_
      simp only [go_sem, k29, hb, Nat.reduceBEq, Try.results29]
      exact hno (heq.trans hse) _
    · have hc' : ¬ (e.ix - s'.mi - 1 < 0 ∨ (s'.l.xs.length : Int) < e.ix - s'.mi - 1) := by simpa using hc
      rw [if_neg hc'] at hse
      obtain ⟨q, hq⟩ : ∃ q : Nat, e.ix - s'.mi - 1 = q := ⟨(e.ix - s'.mi - 1).toNat, by omega⟩
      rw [hq] at hse hc' ⊢
      rw [Int.toNat_natCast] at hse
      have hql : q ≤ s'.l.xs.length := by omega
      refine go_ok _ 1 _ _ ?_
      simp only [go_sem]
      refine safe_cellview (c := 10) (kk := 7) rfl rfl fun hcap => ?_
      refine safe_alts_mid (ι := {w : Sl Ent // w.xs = s'.l.xs.take q ++ [e]}) (fun w => ⟨[(0, .ptr 0 b 0), (1, I i), (5, I cc), (6, .ptr 9 b6 0), (7, .ptr 10 b7 0), (10, I c)], [A0, A1, A2, A3, A4, A5, A6, A7, A8, .cells b6 40 (encRd r), .cells b7 108 (encS { s' with l := w.1 })]⟩) ?_ ?_
      · rintro ⟨w, hw⟩
        refine go_ok _ 10 _ _ ?_
        simp only [go_sem, k29, Nat.reduceBEq]
        refine ⟨by simp only [inI64]; omega, ?_⟩
        have hon : Rf.Gr.saveE s'.pl [e.pl] = some { s'.pl with l := s'.pl.l.take q ++ [e.pl] } := by
          rw [Rf.Gr.saveE, hpll, if_neg (show ¬ (e.pl.ix - s'.pl.m.ix - 1 < 0 ∨ (s'.l.xs.length : Int) < e.pl.ix - s'.pl.m.ix - 1) from by show ¬ (e.ix - s'.mi - 1 < 0 ∨ _ < e.ix - s'.mi - 1); rw [hq]; exact hc')]
          show Rf.Gr.saveE _ [] = _
          rw [show (e.pl.ix - s'.pl.m.ix - 1).toNat = q from by show (e.ix - s'.mi - 1).toNat = q; omega]
          rfl
        have hw2 : ({ s' with l := w } : SvL).pl = { s'.pl with l := s'.pl.l.take q ++ [e.pl] } := by
          unfold SvL.pl
          dsimp only
          rw [hw, List.map_append, List.map_take]
          rfl
        exact safe_lend (⟨c + 1, hlt, { s' with l := w }, by rw [hw2]; exact Rf.saveE_okk hon hs1 (fun x hx => by rw [List.mem_singleton.1 hx]; exact hee), by rw [heq, hse, hw2]⟩ : WQ4 s r.es.xs kk) (by simp only; omega) (Sub.front (X := []) ⟨rfl, rfl, rfl, rfl, rfl, rfl, trivial⟩ rfl)
      · intro l hl hrest
        simp only [List.mem_cons, List.not_mem_nil, or_false] at hl
        have htl : (s'.l.xs.take q).length = q := by rw [List.length_take]; omega
        have hl1 : (s'.l.xs.take q ++ [e]).length = q + 1 := by rw [List.length_append, htl]; rfl
        rcases hl with rfl | rfl | rfl
        · have _ := trivial
          refine go_ok _ 30 _ _ ?_
          simp only [go_sem, hE, List.cons_append, List.nil_append, Nat.reduceBEq, Nat.reduceAdd, Nat.zero_add, Int.toNat_natCast]
          simp only [Int.toNat_zero, Nat.add_zero, Nat.sub_zero]
          refine ⟨by and_intros <;> first | omega | decide, by and_intros <;> omega, by decide, fun b1 => ⟨by (try simp only [recheck, recheck1, go_sem, hE, Int.toNat_natCast, Int.toNat_zero, Nat.add_zero, Nat.sub_zero, Nat.reduceBEq, Nat.reduceAdd, Nat.zero_add]) <;> (and_intros <;> first | omega | decide | rfl), ?_⟩⟩
          refine (stp_app2 (c := 11) (b := b1) (off := 0) (nl := false) (n := 0) (cap := 0) (gx := rowsV encE s'.l.xs) (m := q) (f := litF 4 []) (f2 := rowsV encE (s'.l.xs.take q)) (N := q) rfl rfl rfl rfl rfl ?_ (by omega) (by omega) (fun a j ha hj => ?_) fun nl2 b2 off2 cap2 => ?_).safe trivial
          · exact onesF_rows fun x => ⟨rfl, by simp [encE, ones, one, Value.oneCell']⟩
          · rw [rowsE_take s'.l.xs (show a < q by omega), appF_zero]
          refine ⟨by (try simp only [recheck, recheck1, go_sem, hE, Int.toNat_natCast, Nat.reduceBEq, Nat.reduceAdd, Nat.zero_add]) <;> (and_intros <;> first | omega | decide | rfl), go_ok _ 30 _ _ ?_⟩
          simp only [go_sem, Nat.reduceBEq, Nat.reduceAdd, Nat.zero_add]
          refine fun b4 => ⟨by (try simp only [go_sem, Int.toNat_natCast, Int.toNat_zero, Nat.add_zero, Nat.sub_zero]) <;> (and_intros <;> first | omega | decide | rfl), ?_⟩
          refine (stp_app2 (c := 11) (b := b2) (off := off2) (nl := nl2) (n := q) (cap := cap2) (x := .osl 12 false b4 0 1 1) (gx := litF 4 (encE e)) (m := 1) (f := rowsV encE (s'.l.xs.take q)) (f2 := rowsV encE (s'.l.xs.take q ++ [e])) (N := q + 1) rfl rfl rfl rfl ⟨rfl, rfl, rfl, rfl, by decide⟩ ?_ (by omega) rfl (fun a j ha hj => ?_) fun nl3 b3 off3 cap3 => ?_).safe trivial
          · intro a j ha hj
            obtain rfl : a = 0 := by omega
            have : j = 0 ∨ j = 1 ∨ j = 2 ∨ j = 3 := by omega
            rcases this with rfl | rfl | rfl | rfl <;> simp [litF, encE, one, Value.oneCell']
          · have := app_one (enc := encE) (ys := s'.l.xs.take q) (y := e) (sz := 4) a j (by rw [htl]; exact ha) hj
            rw [htl] at this
            exact this
          refine ⟨by (try simp only [recheck, go_sem]) <;> (and_intros <;> first | omega | decide | rfl), ?_⟩
          refine safe_prune [145, 0, 1, 5, 6, 7, 10] ?_
          simp only [go_sem, Nat.reduceBEq]
          refine safe_frzA (c := 11) (rowsV encE (s'.l.xs.take q ++ [e])) rfl (fun _ _ _ _ => rfl) (by simp [frzOk, frzOk1]) ?_
          refine go_ok _ 3 _ _ ?_
          simp only [go_sem, k29, Nat.reduceBEq, Nat.zero_add]
          have e2 := hrest ⟨⟨if nl3 then none else some ⟨b3, off3, none⟩, cap3, s'.l.xs.take q ++ [e]⟩, rfl⟩
          simp only [encS] at e2
          refine Safe.sub ?_ e2
          exact Sub.front (X := [.emp, .row false b4 43 0 4 1 1 (litF 4 (encE e))]) (by simp [envSub, look]) (by simp only [vE, hl1]; rfl)
        · have _ := trivial
          refine go_ok _ 30 _ _ ?_
          simp only [go_sem, hE, List.cons_append, List.nil_append, Nat.reduceBEq, Nat.reduceAdd, Nat.zero_add, Int.toNat_natCast]
          simp only [Int.toNat_zero, Nat.add_zero, Nat.sub_zero]
          refine ⟨by and_intros <;> first | omega | decide, by and_intros <;> omega, by decide, fun b1 => ⟨by (try simp only [recheck, recheck1, go_sem, hE, Int.toNat_natCast, Int.toNat_zero, Nat.add_zero, Nat.sub_zero, Nat.reduceBEq, Nat.reduceAdd, Nat.zero_add]) <;> (and_intros <;> first | omega | decide | rfl), fun b4 => ⟨by (try simp only [recheck, recheck1, go_sem, hE, Int.toNat_natCast, Int.toNat_zero, Nat.add_zero, Nat.sub_zero, Nat.reduceBEq, Nat.reduceAdd, Nat.zero_add]) <;> (and_intros <;> first | omega | decide | rfl), ?_⟩⟩⟩
          refine (stp_app2 (c := 11) (b := b1) (off := 0) (nl := false) (n := 0) (cap := 0) (gx := rowsV encE s'.l.xs) (m := q) (f := litF 4 []) (f2 := rowsV encE (s'.l.xs.take q)) (N := q) rfl rfl rfl rfl rfl ?_ (by omega) (by omega) (fun a j ha hj => ?_) fun nl2 b2 off2 cap2 => ?_).safe trivial
          · exact onesF_rows fun x => ⟨rfl, by simp [encE, ones, one, Value.oneCell']⟩
          · rw [rowsE_take s'.l.xs (show a < q by omega), appF_zero]
          refine ⟨by (try simp only [recheck, recheck1, go_sem, hE, Int.toNat_natCast, Nat.reduceBEq, Nat.reduceAdd, Nat.zero_add]) <;> (and_intros <;> first | omega | decide | rfl), go_ok _ 30 _ _ ?_⟩
          simp only [go_sem]
          refine (stp_app2 (c := 11) (b := b2) (off := off2) (nl := nl2) (n := q) (cap := cap2) (x := .osl 12 false b4 0 1 1) (gx := litF 4 (encE e)) (m := 1) (f := rowsV encE (s'.l.xs.take q)) (f2 := rowsV encE (s'.l.xs.take q ++ [e])) (N := q + 1) rfl rfl rfl rfl ⟨rfl, rfl, rfl, rfl, by decide⟩ ?_ (by omega) rfl (fun a j ha hj => ?_) fun nl3 b3 off3 cap3 => ?_).safe trivial
          · intro a j ha hj
            obtain rfl : a = 0 := by omega
            have : j = 0 ∨ j = 1 ∨ j = 2 ∨ j = 3 := by omega
            rcases this with rfl | rfl | rfl | rfl <;> simp [litF, encE, one, Value.oneCell']
          · have := app_one (enc := encE) (ys := s'.l.xs.take q) (y := e) (sz := 4) a j (by rw [htl]; exact ha) hj
            rw [htl] at this
            exact this
          refine ⟨by (try simp only [recheck, go_sem]) <;> (and_intros <;> first | omega | decide | rfl), ?_⟩
          refine safe_prune [145, 0, 1, 5, 6, 7, 10] ?_
          simp only [go_sem, Nat.reduceBEq]
          refine safe_frzA (c := 11) (rowsV encE (s'.l.xs.take q ++ [e])) rfl (fun _ _ _ _ => rfl) (by simp [frzOk, frzOk1]) ?_
          refine go_ok _ 3 _ _ ?_
          simp only [go_sem, k29, Nat.reduceBEq, Nat.zero_add]
          have e2 := hrest ⟨⟨if nl3 then none else some ⟨b3, off3, none⟩, cap3, s'.l.xs.take q ++ [e]⟩, rfl⟩
          simp only [encS] at e2
          refine Safe.sub ?_ e2
          exact Sub.front (X := [.emp, .row false b4 43 0 4 1 1 (litF 4 (encE e))]) (by simp [envSub, look]) (by simp only [vE, hl1]; rfl)
        · have _ := trivial
          refine go_ok _ 30 _ _ ?_
          simp only [go_sem, hE, List.cons_append, List.nil_append, Nat.reduceBEq, Nat.reduceAdd, Nat.zero_add, Int.toNat_natCast]
          simp only [Int.toNat_zero, Nat.add_zero, Nat.sub_zero]
          refine ⟨by and_intros <;> first | omega | decide, by and_intros <;> omega, by decide, fun b4 => ⟨by (try simp only [recheck, recheck1, go_sem, hE, Int.toNat_natCast, Int.toNat_zero, Nat.add_zero, Nat.sub_zero, Nat.reduceBEq, Nat.reduceAdd, Nat.zero_add]) <;> (and_intros <;> first | omega | decide | rfl), fun b1 => ⟨by (try simp only [recheck, recheck1, go_sem, hE, Int.toNat_natCast, Int.toNat_zero, Nat.add_zero, Nat.sub_zero, Nat.reduceBEq, Nat.reduceAdd, Nat.zero_add]) <;> (and_intros <;> first | omega | decide | rfl), ?_⟩⟩⟩
          refine (stp_app2 (c := 12) (b := b1) (off := 0) (nl := false) (n := 0) (cap := 0) (gx := rowsV encE s'.l.xs) (m := q) (f := litF 4 []) (f2 := rowsV encE (s'.l.xs.take q)) (N := q) rfl rfl rfl rfl rfl ?_ (by omega) (by omega) (fun a j ha hj => ?_) fun nl2 b2 off2 cap2 => ?_).safe trivial
          · exact onesF_rows fun x => ⟨rfl, by simp [encE, ones, one, Value.oneCell']⟩
          · rw [rowsE_take s'.l.xs (show a < q by omega), appF_zero]
          refine ⟨by (try simp only [recheck, recheck1, go_sem, hE, Int.toNat_natCast, Nat.reduceBEq, Nat.reduceAdd, Nat.zero_add]) <;> (and_intros <;> first | omega | decide | rfl), go_ok _ 30 _ _ ?_⟩
          simp only [go_sem]
          refine (stp_app2 (c := 12) (b := b2) (off := off2) (nl := nl2) (n := q) (cap := cap2) (x := .osl 11 false b4 0 1 1) (gx := litF 4 (encE e)) (m := 1) (f := rowsV encE (s'.l.xs.take q)) (f2 := rowsV encE (s'.l.xs.take q ++ [e])) (N := q + 1) rfl rfl rfl rfl ⟨rfl, rfl, rfl, rfl, by decide⟩ ?_ (by omega) rfl (fun a j ha hj => ?_) fun nl3 b3 off3 cap3 => ?_).safe trivial
          · intro a j ha hj
            obtain rfl : a = 0 := by omega
            have : j = 0 ∨ j = 1 ∨ j = 2 ∨ j = 3 := by omega
            rcases this with rfl | rfl | rfl | rfl <;> simp [litF, encE, one, Value.oneCell']
          · have := app_one (enc := encE) (ys := s'.l.xs.take q) (y := e) (sz := 4) a j (by rw [htl]; exact ha) hj
            rw [htl] at this
            exact this
          refine ⟨by (try simp only [recheck, go_sem]) <;> (and_intros <;> first | omega | decide | rfl), ?_⟩
          refine safe_prune [145, 0, 1, 5, 6, 7, 10] ?_
          simp only [go_sem, Nat.reduceBEq]
          refine safe_frzA (c := 12) (rowsV encE (s'.l.xs.take q ++ [e])) rfl (fun _ _ _ _ => rfl) (by simp [frzOk, frzOk1]) ?_
          refine go_ok _ 3 _ _ ?_
          simp only [go_sem, k29, Nat.reduceBEq, Nat.zero_add]
          have e2 := hrest ⟨⟨if nl3 then none else some ⟨b3, off3, none⟩, cap3, s'.l.xs.take q ++ [e]⟩, rfl⟩
          simp only [encS] at e2
          refine Safe.sub ?_ e2
          exact Sub.front (X := [.row false b4 43 0 4 1 1 (litF 4 (encE e)), .emp]) (by simp [envSub, look]) (by simp only [vE, hl1]; rfl)
  · have hcl : c = r.es.xs.length := by have : ¬ (c : Int) < r.es.xs.length := of_decide_eq_false hl; omega
    subst hcl
    rw [List.drop_length] at heq
    refine Safe.sub ?_ (hyes s' heq)
    exact Sub.front (X := []) ⟨rfl, rfl, rfl, rfl, rfl, trivial⟩ rfl
end Go.SX

/- Raft: what a node tells is done: entries done. -/
namespace Go.SX
open Go.Proofs
set_option maxRecDepth 1000000
variable {E : Env}

theorem updF_at (f : Nat → Nat → SV) (i : Nat) (x : SV) : updF f i 0 [x] i 0 = x := by
  simp only [updF, beq_self_eq_true, Bool.true_and, List.length_singleton]
  rfl
theorem ones_lit (e : Ent) : onesF (litF 4 (encE e)) 1 4 := by
  intro a j ha hj
  obtain rfl : a = 0 := by omega
  have : j = 0 ∨ j = 1 ∨ j = 2 ∨ j = 3 := by omega
  rcases this with rfl | rfl | rfl | rfl <;> simp [litF, encE, one, Value.oneCell']
structure WQ6 (xs al : List Ent) (cs : List Ent) (kk : Nat) where
  c : Nat
  hc : c ≤ cs.length
  w : Rw
  ys : List Ent
  aw : Rw
  bl : List Ent
  hl : ys.length ≤ bl.length
  hb : bl.length ≤ kk
  eq : Rf.Gr.doE (xs.map Ent.pl, al.map Ent.pl) (cs.map Ent.pl) = Rf.Gr.doE (ys.map Ent.pl, bl.map Ent.pl) ((cs.drop c).map Ent.pl)
set_option maxHeartbeats 8000000 in
theorem safe_q6 {P : SV → List Chunk → Prop} {b b6 i cc N db doff dcap : Nat} {dnl : Bool} {A1 A2 A3 A6 A7 A8 A10 : Chunk} {x0 x1 x2 x5 x6 x7 : SV} {F : Nat → Nat → SV} {r : RdL} {w : Rw} {xs : List Ent} {aw : Rw} {al : List Ent} {k : List Frag} {kk : Nat} (hkk : kk ≤ 2 ^ 30) (hi : i < N) (hxl : xs.length ≤ al.length) (hal : al.length ≤ kk)
    (he : ∀ e ∈ r.cs.xs, e.ix ≤ kk) (hcl : r.cs.xs.length ≤ 2 ^ 30) (hb : (botK k).isNone = true)
    (hno : Rf.Gr.doE (xs.map Ent.pl, al.map Ent.pl) (r.cs.xs.map Ent.pl) = none → ∀ hp, P (Bl false) hp)
    (hyes : ∀ (w' : Rw) (xs' : List Ent) (aw' : Rw) (al' : List Ent), Rf.Gr.doE (xs.map Ent.pl, al.map Ent.pl) (r.cs.xs.map Ent.pl) = some (xs'.map Ent.pl, al'.map Ent.pl) → Safe (S29 E P) k ⟨[(0, .ptr 0 b 0), (1, I i), (5, I cc)], [.cells b 63 [x0, x1, x2, .osl 4 dnl db doff N dcap, aw'.sv 5 al'.length, x5, x6, x7], A1, A2, A3, .row dnl db 36 doff 1 N dcap (updF F i 0 [w'.sv 11 xs'.length]), aw'.ch 43 4 encE al', A6, A7, A8, .cells b6 40 (encRd r), A10, w'.ch 43 4 encE xs']⟩) :
    Safe (S29 E P) (.code q6 :: k) ⟨[(0, .ptr 0 b 0), (1, I i), (5, I cc), (6, .ptr 9 b6 0), (12, I 0)], [.cells b 63 [x0, x1, x2, .osl 4 dnl db doff N dcap, aw.sv 5 al.length, x5, x6, x7], A1, A2, A3, .row dnl db 36 doff 1 N dcap (updF F i 0 [w.sv 11 xs.length]), aw.ch 43 4 encE al, A6, A7, A8, .cells b6 40 (encRd r), A10, w.ch 43 4 encE xs]⟩ := by
  unfold q6
  refine go_ok _ 1 _ _ ?_
  simp only [go_sem]
  refine safe_loop (ι := WQ6 xs al r.cs.xs kk) (fun g => ⟨[(0, .ptr 0 b 0), (1, I i), (5, I cc), (6, .ptr 9 b6 0), (12, I g.c)], [.cells b 63 [x0, x1, x2, .osl 4 dnl db doff N dcap, g.aw.sv 5 g.bl.length, x5, x6, x7], A1, A2, A3, .row dnl db 36 doff 1 N dcap (updF F i 0 [g.w.sv 11 g.ys.length]), g.aw.ch 43 4 encE g.bl, A6, A7, A8, .cells b6 40 (encRd r), A10, g.w.ch 43 4 encE g.ys]⟩) (fun g => r.cs.xs.length - g.c)
    ⟨0, Nat.zero_le _, w, xs, aw, al, hxl, hal, by rw [List.drop_zero]⟩ (Sub.front (X := []) ⟨rfl, rfl, rfl, rfl, rfl, trivial⟩ rfl) ?_
  rintro ⟨c, hc, w, ys, aw, bl, hl, hbl, heq⟩
  refine go_ok _ 11 _ _ ?_
  simp only [go_sem, k29, List.cons_append, List.nil_append, Nat.reduceBEq, Nat.zero_add]
  refine ⟨fun hlc => ?_, fun hlc => ?_⟩
  · have hlt : c < r.cs.xs.length := by simpa using hlc
    have hdr : (r.cs.xs.drop c).map Ent.pl = (r.cs.xs.getD c default).pl :: (r.cs.xs.drop (c + 1)).map Ent.pl := by
      rw [List.drop_eq_getElem_cons hlt, List.map_cons, List.getD_eq_getElem?_getD, List.getElem?_eq_getElem hlt]
      rfl
    have hmem : r.cs.xs.getD c default ∈ r.cs.xs := by
      rw [List.getD_eq_getElem?_getD, List.getElem?_eq_getElem hlt]
      exact List.getElem_mem hlt
    have hix := he _ hmem
    generalize hE : r.cs.xs.getD c default = e at hdr hix
    refine go_ok _ 12 _ _ ?_
    simp only [go_sem, k29, hE, List.cons_append, List.nil_append, Nat.reduceBEq, Nat.reduceAdd, Nat.zero_add, Int.toNat_natCast]
    refine ⟨⟨by omega, by omega⟩, by decide, fun b13 => ?_⟩
    refine go_ok _ 16 _ _ ?_
    simp only [go_sem, k29, updF_at, List.cons_append, List.nil_append, Nat.reduceBEq, Nat.zero_add, Int.toNat_natCast]
    refine ⟨⟨by omega, by omega, Nat.le_refl _⟩, ⟨hi, by decide⟩, by simp only [inI64]; omega, ?_⟩
    have hdo1 : e.ix ≠ ys.length + 1 → Rf.Gr.doE (ys.map Ent.pl, bl.map Ent.pl) ((r.cs.xs.drop c).map Ent.pl) = none := by
      intro h
      rw [hdr, Rf.Gr.doE]
      exact if_pos (by rw [List.length_map]; exact h)
    refine go_ok _ 1 _ _ ?_
    simp only [go_sem]
    refine ⟨fun h1 => ?_, fun h1 => ?_⟩
    · have h1' : e.ix ≠ ys.length + 1 := by simpa using h1
      refine go_ok _ 5 _ _ ?_
      simp only [go_sem, k29, hb, Nat.reduceBEq, Try.results29]
      exact hno (heq.trans (hdo1 h1')) _
    · have h1' : e.ix = ys.length + 1 := by simpa using h1
      refine go_ok _ 19 _ _ ?_
      simp only [go_sem, updF_at, List.cons_append, List.nil_append, Nat.reduceBEq, Nat.reduceAdd, Nat.zero_add, Int.toNat_natCast]
      refine ⟨⟨by omega, by omega, Nat.le_refl _⟩, ⟨hi, by decide⟩, fun b4 => ⟨by and_intros <;> first | omega | decide, ?_⟩⟩
      refine (stp_app2 (c := 11) (b := w.b) (off := w.off) (nl := w.nl) (n := ys.length) (cap := w.cap) (x := .osl 13 false b4 0 1 1) (gx := litF 4 (encE e)) (m := 1) (f := rowsV encE ys) (f2 := rowsV encE (ys ++ [e])) (N := ys.length + 1) rfl rfl rfl rfl ⟨rfl, rfl, rfl, rfl, by decide⟩ (ones_lit e) (by omega) rfl (fun a j ha hj => app_one (enc := encE) (ys := ys) (y := e) (sz := 4) a j ha hj) fun nl2 b2 off2 cap2 => ?_).safe trivial
      refine ⟨by simp only [recheck, recheck1, go_sem, Nat.reduceBEq, Nat.zero_add], go_ok _ 4 _ _ ?_⟩
      simp only [go_sem, k29, Nat.reduceBEq, Nat.zero_add, Int.toNat_natCast]
      refine ⟨⟨by omega, by omega, Nat.le_refl _⟩, ⟨hi, by decide⟩, ?_⟩
      rw [updF_twice (cs := [.osl 11 w.nl w.b w.off ys.length w.cap]) (cs' := [.osl 11 nl2 b2 off2 (ys.length + 1) cap2]) rfl]
      refine go_ok _ 11 _ _ ?_
      simp only [go_sem, k29, Nat.reduceBEq, Nat.zero_add]
      refine safe_code_mid (ι := {p : Rw × List Ent // p.2 = if (bl.length : Int) < e.ix then bl ++ [e] else bl}) (fun p => ⟨[(0, .ptr 0 b 0), (1, I i), (5, I cc), (6, .ptr 9 b6 0), (12, I c), (13, .ptr 12 b13 0)], [.cells b 63 [x0, x1, x2, .osl 4 dnl db doff N dcap, .osl 5 p.1.1.nl p.1.1.b p.1.1.off p.1.2.length p.1.1.cap, x5, x6, x7], A1, A2, A3, .row dnl db 36 doff 1 N dcap (updF F i 0 [.osl 11 nl2 b2 off2 (ys.length + 1) cap2]), .row p.1.1.nl p.1.1.b 43 p.1.1.off 4 p.1.2.length p.1.1.cap (rowsV encE p.1.2), A6, A7, A8, .cells b6 40 (encRd r), A10, .row nl2 b2 43 off2 4 (ys.length + 1) cap2 (rowsV encE (ys ++ [e])), .cells b13 43 [I e.ix, I e.tm, I e.kd, e.d.sv]]⟩) ?_ ?_
      · rintro ⟨⟨aw2, bl2⟩, hbl2⟩
        dsimp only at hbl2
        have hb2 : bl2.length ≤ kk ∧ ys.length + 1 ≤ bl2.length := by
          rw [hbl2]
          split
          · rw [List.length_append, List.length_singleton]; omega
          · omega
        have hq1 : e.ix - 1 = (ys.length : Int) := by omega
        have hdo2 : ∀ a, bl2.getD ys.length default = a → Rf.Gr.doE (ys.map Ent.pl, bl.map Ent.pl) ((r.cs.xs.drop c).map Ent.pl) = if a.tm ≠ e.tm ∨ a.kd ≠ e.kd ∨ a.d.xs ≠ e.d.xs then none else Rf.Gr.doE ((ys ++ [e]).map Ent.pl, bl2.map Ent.pl) ((r.cs.xs.drop (c + 1)).map Ent.pl) := by
          rintro a rfl
          have e1 : bl2.map Ent.pl = if (bl.length : Int) < e.ix then bl.map Ent.pl ++ [e.pl] else bl.map Ent.pl := by
            rw [hbl2]
            split
            · rw [List.map_append]; rfl
            · rfl
          have e2 : (bl2.map Ent.pl).getD ys.length default = (bl2.getD ys.length default).pl := by
            rw [List.getD_eq_getElem?_getD, List.getD_eq_getElem?_getD, List.getElem?_map, List.getElem?_eq_getElem (show ys.length < bl2.length by omega)]
            rfl
          rw [hdr, Rf.Gr.doE, if_neg (by rw [List.length_map]; exact fun h => h h1'), List.length_map]
          dsimp only
          rw [show e.pl.ix = e.ix from rfl, ← e1, show (e.ix - 1).toNat = ys.length by omega, e2, List.map_append]
          rfl
        refine go_ok _ 14 _ _ ?_
        simp only [go_sem, k29, hq1, Nat.reduceBEq, Nat.reduceAdd, Nat.zero_add, Int.toNat_natCast]
        generalize hA : bl2.getD ys.length default = a at *
        have hdo3 := hdo2 a rfl
        refine ⟨by simp only [inI64]; omega, ⟨by omega, by omega, Nat.le_refl _⟩, ⟨by omega, by decide⟩, fun b14 => ⟨⟨by simp only [inI64]; omega, ⟨by omega, by omega, Nat.le_refl _⟩, by omega, by decide⟩, ?_⟩⟩
        by_cases h3 : a.tm = e.tm
        · by_cases h4 : a.kd = e.kd
          · have d3 : decide (a.tm ≠ e.tm) = false := by simp [h3]
            have d4 : decide (a.kd ≠ e.kd) = false := by simp [h4]
            refine go_ok _ 18 _ _ ?_
            simp only [go_sem, d3, d4, Nat.reduceBEq, Nat.zero_add]
            refine ⟨?_, fun h => absurd h (by decide), rfl⟩
            refine safe_othOn (oth_str (e := 5) (xs := a.d.xs) (ad := a.d.a) (n := a.d.xs.length) (cap := a.d.cap) (f := rowsV encB a.d.xs) (xo := .t 290) rfl (by kernel_rfl) (by kernel_rfl) (by kernel_rfl) rfl rfl (fun _ h => by first | exact h | (simp only [SV.ok] at h ⊢; exact h trivial)) rfl (fun _ _ => rfl)) (show 291 < 363 by decide) trivial ?_
            refine go_ok _ 3 _ _ ?_
            simp only [go_sem, Nat.reduceBEq, Nat.zero_add]
            refine ⟨?_, fun h => absurd h (by decide), rfl⟩
            refine safe_othOn (oth_str (e := 5) (xs := e.d.xs) (ad := e.d.a) (n := e.d.xs.length) (cap := e.d.cap) (f := rowsV encB e.d.xs) (xo := .t 293) rfl (by kernel_rfl) (by kernel_rfl) (by kernel_rfl) rfl rfl (fun _ h => by first | exact h | (simp only [SV.ok] at h ⊢; exact h trivial)) rfl (fun _ _ => rfl)) (show 294 < 363 by decide) trivial ?_
            refine go_ok _ 3 _ _ ?_
            simp only [go_sem, k29, Nat.reduceBEq]
            refine go_ok _ 1 _ _ ?_
            simp only [go_sem]
            refine ⟨fun h5 => ?_, fun h5 => ?_⟩
            · have h5' : a.d.xs ≠ e.d.xs := by
                intro h
                rw [h] at h5
                simp at h5
              rw [if_pos (.inr (.inr h5'))] at hdo3
              refine go_ok _ 5 _ _ ?_
              simp only [go_sem, k29, hb, Nat.reduceBEq, Try.results29]
              exact hno (heq.trans hdo3) _
            · have h5' : a.d.xs = e.d.xs := by
                have h := of_decide_eq_false h5
                simpa using h
              rw [if_neg (by rw [h3, h4, h5']; simp)] at hdo3
              refine go_ok _ 10 _ _ ?_
              simp only [go_sem, k29, Nat.reduceBEq]
              refine ⟨by simp only [inI64]; omega, ?_⟩
              refine safe_lend (⟨c + 1, hlt, ⟨nl2, b2, off2, cap2⟩, ys ++ [e], aw2, bl2, by rw [List.length_append, List.length_singleton]; omega, by omega, heq.trans hdo3⟩ : WQ6 xs al r.cs.xs kk) (by simp only; omega) (Sub.front (X := [.cells b13 43 [I e.ix, I e.tm, I e.kd, e.d.sv], .cells b14 43 [I a.ix, I a.tm, I a.kd, a.d.sv]]) ⟨rfl, rfl, rfl, rfl, rfl, trivial⟩ ?_)
              simp only [List.length_append, List.length_singleton]
              rfl
          · have d3 : decide (a.tm ≠ e.tm) = false := by simp [h3]
            have d4 : decide (a.kd ≠ e.kd) = true := by simp [h4]
            rw [if_pos (.inr (.inl h4))] at hdo3
            refine go_ok _ 30 _ _ ?_
            simp only [go_sem, k29, hb, d3, d4, Nat.reduceBEq, Nat.zero_add, Try.results29]
            and_intros <;> first | exact hno (heq.trans hdo3) _ | (intro h; cases h; done) | rfl
        · have d3 : decide (a.tm ≠ e.tm) = true := by simp [h3]
          rw [if_pos (.inl h3)] at hdo3
          refine go_ok _ 30 _ _ ?_
          simp only [go_sem, k29, hb, d3, Nat.reduceBEq, Nat.zero_add, Try.results29]
          and_intros <;> first | exact hno (heq.trans hdo3) _ | (intro h; cases h; done) | rfl
      · intro hrest
        refine go_ok _ 1 _ _ ?_
        simp only [go_sem]
        refine ⟨fun h2 => ?_, fun h2 => ?_⟩
        · have h2' : (bl.length : Int) < e.ix := of_decide_eq_true h2
          refine go_ok _ 20 _ _ ?_
          simp only [go_sem, Nat.reduceBEq, Nat.reduceAdd, Nat.zero_add]
          intro b5
          refine (stp_app2 (c := 5) (b := aw.b) (off := aw.off) (nl := aw.nl) (n := bl.length) (cap := aw.cap) (x := .osl 14 false b5 0 1 1) (gx := litF 4 (encE e)) (m := 1) (f := rowsV encE bl) (f2 := rowsV encE (bl ++ [e])) (N := bl.length + 1) rfl rfl rfl rfl ⟨rfl, rfl, rfl, rfl, by decide⟩ (ones_lit e) (by omega) rfl (fun a j ha hj => app_one (enc := encE) (ys := bl) (y := e) (sz := 4) a j ha hj) fun nl3 b3 off3 cap3 => ?_).safe trivial
          refine ⟨by simp only [recheck, recheck1, go_sem, Nat.reduceBEq], go_ok _ 4 _ _ ?_⟩
          simp only [go_sem, k29, Nat.reduceBEq, Nat.zero_add]
          refine Safe.sub ?_ (hrest ⟨(⟨nl3, b3, off3, cap3⟩, bl ++ [e]), by rw [if_pos h2']⟩)
          refine Sub.front (X := [.row false b4 43 0 4 1 1 (litF 4 (encE e)), .row false b5 43 0 4 1 1 (litF 4 (encE e))]) (by simp [envSub, look]) ?_
          simp only [List.length_append, List.length_singleton]
          rfl
        · have h2' : ¬ (bl.length : Int) < e.ix := of_decide_eq_false h2
          refine go_ok _ 1 _ _ ?_
          simp only [go_sem]
          refine Safe.sub ?_ (hrest ⟨(aw, bl), by rw [if_neg h2']⟩)
          exact Sub.front (X := [.row false b4 43 0 4 1 1 (litF 4 (encE e))]) (by simp [envSub, look]) rfl
  · have hcl : c = r.cs.xs.length := by have : ¬ (c : Int) < r.cs.xs.length := of_decide_eq_false hlc; omega
    subst hcl
    rw [List.drop_length] at heq
    refine Safe.sub ?_ (hyes w ys aw bl heq)
    exact Sub.front (X := []) ⟨rfl, rfl, rfl, trivial⟩ rfl
end Go.SX

/- Raft: a snapshot is told: what stays of the saved log. -/
namespace Go.SX
open Go.Proofs
set_option maxRecDepth 1000000
variable {E : Env}

/-- where a snapshot ends -/
def hitE (ix tm : Int) (e : Ent) : Bool := decide (e.ix = ix) && decide (e.tm = tm)
def stayE (l : List Ent) (o : Option Nat) : List Ent := match o with | some j => l.drop (j + 1) | none => []
theorem stay_eq (l : List Ent) (m : Rf.Me) : (stayE l (l.findIdx? (hitE m.ix m.tm))).map Ent.pl = Rf.Gr.stay (l.map Ent.pl) m := by
  unfold Rf.Gr.stay stayE
  rw [List.findIdx?_map]
  have e : ((fun e : Rf.En => decide (e.ix = m.ix) && decide (e.tm = m.tm)) ∘ Ent.pl) = hitE m.ix m.tm := rfl
  rw [e]
  split
  · rename_i h
    rw [h]
    exact List.map_drop
  · rename_i h
    rw [h]
    rfl
theorem find_succ (p : Ent → Bool) (l : List Ent) {c : Nat} (hc : c < l.length) : (l.take (c + 1)).findIdx? p = ((l.take c).findIdx? p).or (if p (l.getD c default) then some c else none) := by
  rw [List.take_add_one, List.getElem?_eq_getElem hc, List.findIdx?_append, List.getD_eq_getElem?_getD, List.getElem?_eq_getElem hc]
  have e : (l.take c).length = c := by rw [List.length_take]; omega
  rw [e]
  simp only [Option.toList_some, List.findIdx?_singleton, Option.getD_some]
  split <;> simp
structure WQ2 (l : List Ent) (ix tm : Int) where
  c : Nat
  hc : c ≤ l.length
  w : Rw
  ys : List Ent
  eq : ys = stayE l ((l.take c).findIdx? (hitE ix tm))
set_option maxHeartbeats 4000000 in
theorem safe_q2 {P : SV → List Chunk → Prop} {b b6 b7 i cc : Nat} {A0 A1 A2 A3 A4 A5 A6 A7 A8 : Chunk} {r : RdL} {s : SvL} {k : List Frag} {kk : Nat} (hkk : kk ≤ 2 ^ 30) (hs : s.pl.okk kk) (hb : (botK k).isNone = true)
    (hyes : ∀ (w : Rw) (ys : List Ent), ys.map Ent.pl = Rf.Gr.stay s.pl.l ⟨r.mi, r.mm, r.mv.xs⟩ → Safe (S29 E P) k ⟨[(0, .ptr 0 b 0), (1, I i), (5, I cc), (6, .ptr 9 b6 0), (7, .ptr 10 b7 0), (8, w.sv 11 ys.length)], [A0, A1, A2, A3, A4, A5, A6, A7, A8, .cells b6 40 (encRd r), .cells b7 108 (encS s), w.ch 43 4 encE ys]⟩) :
    Safe (S29 E P) (.code q2 :: k) ⟨[(0, .ptr 0 b 0), (1, I i), (5, I cc), (6, .ptr 9 b6 0), (7, .ptr 10 b7 0), (8, nilS), (9, I 0)], [A0, A1, A2, A3, A4, A5, A6, A7, A8, .cells b6 40 (encRd r), .cells b7 108 (encS s)]⟩ := by
  unfold q2
  refine go_ok _ 1 _ _ ?_
  simp only [go_sem]
  refine safe_nilrow 0 43 0 4 (rowsV encE []) (env' := [(0, .ptr 0 b 0), (1, I i), (5, I cc), (6, .ptr 9 b6 0), (7, .ptr 10 b7 0), (8, .osl 11 true 0 0 0 0), (9, I 0)]) ⟨rfl, .inl rfl, rfl, .inl rfl, rfl, .inl rfl, rfl, .inl rfl, rfl, .inl rfl, rfl, .inr ⟨⟨1, _, rfl⟩, rfl⟩, rfl, .inl rfl, trivial⟩ ?_
  refine safe_loop (ι := WQ2 s.l.xs r.mi r.mm) (fun g => ⟨[(0, .ptr 0 b 0), (1, I i), (5, I cc), (6, .ptr 9 b6 0), (7, .ptr 10 b7 0), (8, g.w.sv 11 g.ys.length), (9, I g.c)], [A0, A1, A2, A3, A4, A5, A6, A7, A8, .cells b6 40 (encRd r), .cells b7 108 (encS s), g.w.ch 43 4 encE g.ys]⟩) (fun g => s.l.xs.length - g.c)
    ⟨0, Nat.zero_le _, ⟨true, 0, 0, 0⟩, [], rfl⟩ (Sub.front (X := []) ⟨rfl, rfl, rfl, rfl, rfl, rfl, rfl, trivial⟩ rfl) ?_
  rintro ⟨c, hc, w, ys, heq⟩
  have hi0 : 0 ≤ s.mi := hs.i0
  have hi1 : s.mi + (s.pl.l.length : Int) ≤ kk := hs.i1
  have hpll : s.pl.l.length = s.l.xs.length := by show (s.l.xs.map Ent.pl).length = _; rw [List.length_map]
  rw [hpll] at hi1
  have hixs : ∀ j, j < s.l.xs.length → (s.l.xs.getD j default).ix = s.mi + j + 1 := by
    intro j hj
    have h := hs.ix j (by rw [hpll]; exact hj)
    have e : (s.pl.l.getD j default).ix = (s.l.xs.getD j default).ix := by
      show ((s.l.xs.map Ent.pl).getD j default).ix = _
      rw [List.getD_eq_getElem?_getD, List.getD_eq_getElem?_getD, List.getElem?_map, List.getElem?_eq_getElem hj]
      rfl
    rw [← e, h]
    rfl
  refine go_ok _ 11 _ _ ?_
  simp only [go_sem, k29, List.cons_append, List.nil_append, Nat.reduceBEq, Nat.zero_add]
  refine ⟨fun hlc => ?_, fun hlc => ?_⟩
  · have hlt : c < s.l.xs.length := by simpa using hlc
    have hfs := find_succ (hitE r.mi r.mm) s.l.xs hlt
    have hix := hixs c hlt
    generalize hE : s.l.xs.getD c default = e at hfs hix
    rcases h2 : decide (e.ix = r.mi) with _ | _
    · refine go_ok _ 100 _ _ ?_
      simp only [go_sem, k29, hE, h2, List.cons_append, List.nil_append, Nat.reduceBEq, Nat.reduceAdd, Nat.zero_add, Int.toNat_natCast]
      have hn : ys = stayE s.l.xs ((s.l.xs.take (c + 1)).findIdx? (hitE r.mi r.mm)) := by
        rw [hfs, if_neg (by simp [hitE, of_decide_eq_false h2]), Option.or_none]
        exact heq
      refine ⟨⟨by omega, by omega⟩, by decide, by simp only [inI64]; omega, ?_⟩
      exact safe_lend (⟨c + 1, hlt, w, ys, hn⟩ : WQ2 s.l.xs r.mi r.mm) (by simp only; omega) (Sub.front (X := []) ⟨rfl, rfl, rfl, rfl, rfl, rfl, rfl, trivial⟩ rfl)
    · rcases h3 : decide (e.tm = r.mm) with _ | _
      · refine go_ok _ 100 _ _ ?_
        simp only [go_sem, k29, hE, h2, h3, List.cons_append, List.nil_append, Nat.reduceBEq, Nat.reduceAdd, Nat.zero_add, Int.toNat_natCast]
        have hn : ys = stayE s.l.xs ((s.l.xs.take (c + 1)).findIdx? (hitE r.mi r.mm)) := by
          rw [hfs, if_neg (by simp [hitE, of_decide_eq_false h3]), Option.or_none]
          exact heq
        refine ⟨⟨by omega, by omega⟩, by decide, ⟨by omega, by omega⟩, by decide, by simp only [inI64]; omega, ?_⟩
        exact safe_lend (⟨c + 1, hlt, w, ys, hn⟩ : WQ2 s.l.xs r.mi r.mm) (by simp only; omega) (Sub.front (X := []) ⟨rfl, rfl, rfl, rfl, rfl, rfl, rfl, trivial⟩ rfl)
      · refine safe_cellview (c := 10) (kk := 7) rfl rfl fun hcap => ?_
        refine go_ok _ 100 _ _ ?_
        simp only [go_sem, k29, hE, h2, h3, List.cons_append, List.nil_append, Nat.reduceBEq, Nat.reduceAdd, Nat.zero_add, Int.toNat_natCast]
        have hri : e.ix = r.mi := of_decide_eq_true h2
        have hnone : (s.l.xs.take c).findIdx? (hitE r.mi r.mm) = none := by
          rw [List.findIdx?_eq_none_iff]
          intro x hx
          obtain ⟨j, hj, rfl⟩ := List.mem_iff_getElem.1 hx
          rw [List.length_take] at hj
          have h := hixs j (by omega)
          rw [List.getD_eq_getElem?_getD, List.getElem?_eq_getElem (show j < s.l.xs.length by omega), Option.getD_some] at h
          rw [List.getElem_take]
          simp only [hitE, Bool.and_eq_false_iff, decide_eq_false_iff_not]
          left
          omega
        rw [hnone] at heq
        simp only [stayE] at heq
        subst heq
        have hn : s.l.xs.drop (c + 1) = stayE s.l.xs ((s.l.xs.take (c + 1)).findIdx? (hitE r.mi r.mm)) := by
          rw [hfs, hnone, if_pos (by simp only [hitE, h2, h3, Bool.and_self])]
          rfl
        refine ⟨⟨by omega, by omega⟩, by decide, ⟨by omega, by omega⟩, by decide, ⟨by simp only [inI64]; omega, by and_intros <;> omega, ?_⟩, fun h => absurd h (by decide)⟩
        have hdl : (s.l.xs.drop (c + 1)).length = s.l.xs.length - (c + 1) := List.length_drop
        have htn : ((c : Int) + 1).toNat = c + 1 := by omega
        simp only [htn, List.length_nil]
        refine (stp_app2 (c := 11) (b := w.b) (off := w.off) (nl := w.nl) (n := 0) (cap := w.cap) (gx := fun i => rowsV encE s.l.xs (i + (c + 1))) (m := s.l.xs.length - (c + 1)) (f := rowsV encE []) (f2 := rowsV encE (s.l.xs.drop (c + 1))) (N := s.l.xs.length - (c + 1)) rfl rfl rfl rfl rfl (fun a j ha hj => ?_) (by omega) (by omega) (fun a j ha hj => ?_) fun nl2 b2 off2 cap2 => ?_).safe trivial
        · exact onesF_rows (enc := encE) (xs := s.l.xs) (n := a + (c + 1) + 1) (fun x => ⟨rfl, by simp [encE, ones, one, Value.oneCell']⟩) (a + (c + 1)) j (by omega) hj
        · rw [appF_zero]
          have e2 : (s.l.xs.drop (c + 1)).getD a default = s.l.xs.getD (a + (c + 1)) default := by
            rw [List.getD_eq_getElem?_getD, List.getD_eq_getElem?_getD, List.getElem?_drop, Nat.add_comm]
          simp only [rowsV, e2]
        refine ⟨trivial, go_ok _ 20 _ _ ?_⟩
        simp only [go_sem, k29, Nat.reduceBEq]
        refine ⟨by simp only [inI64]; omega, ?_⟩
        refine safe_lend (⟨c + 1, hlt, ⟨nl2, b2, off2, cap2⟩, s.l.xs.drop (c + 1), hn⟩ : WQ2 s.l.xs r.mi r.mm) (by simp only; omega) (Sub.front (X := []) ?_ ?_)
        · simp only [hdl]
          exact ⟨rfl, rfl, rfl, rfl, rfl, rfl, rfl, trivial⟩
        · simp only [hdl]
          rfl
  · have hcl : c = s.l.xs.length := by have : ¬ (c : Int) < s.l.xs.length := of_decide_eq_false hlc; omega
    subst hcl
    rw [List.take_length] at heq
    refine Safe.sub ?_ (hyes w ys (by rw [heq]; exact stay_eq s.l.xs ⟨r.mi, r.mm, r.mv.xs⟩))
    exact Sub.front (X := []) ⟨rfl, rfl, rfl, rfl, rfl, rfl, trivial⟩ rfl
end Go.SX

/- Raft: who led a term is written down. -/
namespace Go.SX
open Go.Proofs
set_option maxRecDepth 1000000
variable {E : Env}

structure WQ8 (ld : List Int) (t : Nat) where
  c : Nat
  hc : c ≤ t + 1 - ld.length
  w : Rw
theorem rep_len (ld : List Int) (c : Nat) : (ld ++ List.replicate c (-1)).length = ld.length + c := by rw [List.length_append, List.length_replicate]
set_option maxHeartbeats 4000000 in
theorem safe_q8 {P : SV → List Chunk → Prop} {b i t : Nat} {A1 A2 A3 A4 A5 A7 A8 : Chunk} {x0 x1 x2 x3 x4 x6 x7 : SV} {lw : Rw} {ld : List Int} {k : List Frag} (hl : ld.length ≤ 5000) (ht : t < 5000) (hb : (botK k).isNone = true)
    (hyes : ∀ w : Rw, Safe (S29 E P) k ⟨[(0, .ptr 0 b 0), (1, I i), (15, I t)], [.cells b 63 [x0, x1, x2, x3, x4, w.sv 6 (ld ++ List.replicate (t + 1 - ld.length) (-1)).length, x6, x7], A1, A2, A3, A4, A5, w.ch 3 1 encI (ld ++ List.replicate (t + 1 - ld.length) (-1)), A7, A8]⟩) :
    Safe (S29 E P) (.code q8 :: k) ⟨[(0, .ptr 0 b 0), (1, I i), (15, I t)], [.cells b 63 [x0, x1, x2, x3, x4, lw.sv 6 ld.length, x6, x7], A1, A2, A3, A4, A5, lw.ch 3 1 encI ld, A7, A8]⟩ := by
  unfold q8
  refine go_ok _ 1 _ _ ?_
  simp only [go_sem]
  refine safe_loop (ι := WQ8 ld t) (fun g => ⟨[(0, .ptr 0 b 0), (1, I i), (15, I t)], [.cells b 63 [x0, x1, x2, x3, x4, g.w.sv 6 (ld.length + g.c), x6, x7], A1, A2, A3, A4, A5, .row g.w.nl g.w.b 3 g.w.off 1 (ld.length + g.c) g.w.cap (rowsV encI (ld ++ List.replicate g.c (-1))), A7, A8]⟩) (fun g => t + 1 - ld.length - g.c)
    ⟨0, Nat.zero_le _, lw⟩ ?_ ?_
  · simp only [List.replicate_zero, List.append_nil, Nat.add_zero]
    exact Sub.front (X := []) ⟨rfl, rfl, rfl, trivial⟩ rfl
  rintro ⟨c, hc, w⟩
  have d2 : decide ((t : Int) < 5000) = true := decide_eq_true (show (t : Int) < 5000 by omega)
  refine go_ok _ 10 _ _ ?_
  simp only [go_sem, Rw.sv, Nat.reduceBEq, Nat.zero_add]
  rcases h1 : decide (((ld.length + c : Nat) : Int) ≤ t) with _ | _
  · have h1' : ¬ (((ld.length + c : Nat) : Int) ≤ t) := of_decide_eq_false h1
    refine go_ok _ 7 _ _ ?_
    simp only [go_sem, k29, d2, List.cons_append, List.nil_append, Nat.reduceBEq]
    have hcc : c = t + 1 - ld.length := by omega
    subst hcc
    have h2 := hyes w
    rw [rep_len] at h2
    refine Safe.sub ?_ h2
    refine Sub.front (X := []) ⟨rfl, rfl, rfl, trivial⟩ ?_
    simp only [Rw.sv, Rw.ch, rep_len, List.append_nil]
  · have h1' : (((ld.length + c : Nat) : Int) ≤ t) := of_decide_eq_true h1
    refine go_ok _ 7 _ _ ?_
    simp only [go_sem, k29, d2, List.cons_append, List.nil_append, Nat.reduceBEq]
    refine ⟨?_, fun h => absurd h (by decide)⟩
    refine go_ok _ 10 _ _ ?_
    simp only [go_sem, List.cons_append, List.nil_append, Nat.reduceBEq, Nat.reduceAdd, Nat.zero_add]
    intro b1
    refine (stp_app2 (c := 6) (b := w.b) (off := w.off) (nl := w.nl) (n := ld.length + c) (cap := w.cap) (x := .osl 9 false b1 0 1 1) (gx := litF 1 [I (-1)]) (m := 1) (f := rowsV encI (ld ++ List.replicate c (-1))) (f2 := rowsV encI (ld ++ List.replicate (c + 1) (-1))) (N := ld.length + (c + 1)) rfl rfl rfl rfl ⟨rfl, rfl, rfl, rfl, by decide⟩ (fun i j hi hj => ?_) (by omega) (by omega) (fun a j ha hj => ?_) fun nl2 b3 off2 cap2 => ?_).safe trivial
    · obtain rfl : i = 0 := by omega
      obtain rfl : j = 0 := by omega
      simp [litF, one, Value.oneCell']
    · have := app_one (enc := encI) (ys := ld ++ List.replicate c (-1)) (y := (-1 : Int)) (sz := 1) a j (by rw [rep_len]; omega) hj
      rw [rep_len, List.append_assoc, ← List.replicate_succ'] at this
      exact this
    refine ⟨by simp only [recheck, go_sem], go_ok _ 20 _ _ ?_⟩
    simp only [go_sem, k29, Nat.reduceBEq, Nat.zero_add]
    exact safe_lend (⟨c + 1, by omega, ⟨nl2, b3, off2, cap2⟩⟩ : WQ8 ld t) (by simp only; omega) (Sub.front (X := [_]) ⟨rfl, rfl, rfl, trivial⟩ rfl)
end Go.SX

/- Raft: what a node tells is saved: term, vote and what is committed. -/
namespace Go.SX
open Go.Proofs
set_option maxRecDepth 1000000
variable {E : Env}

def h3 : SCode := .seq (.ops [(.rd 35 (.fadd (.t 6) 4), []), (.rd 36 (.load (.t 35) none), [])]) (.cond (.t 36) (.seq (.ops [(.rd 8 (.mv (.c (.slice none 0 0))), [])]) (.seq (.seq (.ops [(.rd 9 (.mv (.c (.int .i64 0))), [])]) q2) (.seq (.ops [(.rd 73 (.fadd (.t 6) 5), []), (.rd 74 (.load (.t 73) (some 3)), []), (.rd 75 (.fadd (.t 6) 8), []), (.rd 76 (.load (.t 75) none), []), (.rd 77 (.mv (.t 8)), []), (.rd 78 (.fadd (.t 7) 3), []), (.store (.t 78) (.t 74) 3, [.rd 75 (.fadd (.t 6) 8), .rd 76 (.load (.t 75) none), .rd 77 (.mv (.t 8))]), (.rd 79 (.fadd (.t 7) 6), []), (.store (.t 79) (.t 76) 1, [.rd 77 (.mv (.t 8))]), (.rd 80 (.fadd (.t 7) 7), []), (.store (.t 80) (.t 77) 1, [])]) (.seq (.seq (.ops [(.rd 81 (.fadd (.t 6) 5), []), (.rd 82 (.fadd (.t 81) 0), []), (.rd 83 (.load (.t 82) none), []), (.rd 84 (.mv (.t 0)), []), (.rd 85 (.nchk (.t 84)), []), (.rd 86 (.fadd (.t 85) 4), []), (.rd 87 (.load (.t 86) none), []), (.rd 88 (.len false (.t 87)), []), (.rd 89 (.bin 0 .gtr (.t 83) (.t 88)), [])]) (.cond (.t 89) (.seq (.ops [(.rd 4 (.mv (.c (.bool false))), [])]) .ret) .skip)) (.ops [(.rd 90 (.mv (.t 0)), []), (.rd 91 (.nchk (.t 90)), []), (.rd 92 (.fadd (.t 91) 3), []), (.rd 93 (.load (.t 92) none), []), (.rd 94 (.mv (.t 1)), []), (.rd 96 (.mv (.t 0)), []), (.rd 97 (.nchk (.t 96)), []), (.rd 98 (.fadd (.t 97) 4), []), (.rd 99 (.load (.t 98) none), []), (.rd 100 (.fadd (.t 6) 5), []), (.rd 101 (.fadd (.t 100) 0), []), (.rd 102 (.load (.t 101) none), []), (.rd 103 (.slc (.t 99) none (some (.t 102)) none 4), []), (.bsl 95 43 4 0 [] [], [.rd 90 (.mv (.t 0)), .rd 91 (.nchk (.t 90)), .rd 92 (.fadd (.t 91) 3), .rd 93 (.load (.t 92) none), .rd 94 (.mv (.t 1)), .rd 96 (.mv (.t 0)), .rd 97 (.nchk (.t 96)), .rd 98 (.fadd (.t 97) 4), .rd 99 (.load (.t 98) none), .rd 100 (.fadd (.t 6) 5), .rd 101 (.fadd (.t 100) 0), .rd 102 (.load (.t 101) none), .rd 103 (.slc (.t 99) none (some (.t 102)) none 4)]), (.app 104 43 4 48 [.int .i64 0, .int .i64 0, .int .i64 0, .slice none 0 0] (.t 95) (.t 103), [.rd 90 (.mv (.t 0)), .rd 91 (.nchk (.t 90)), .rd 92 (.fadd (.t 91) 3), .rd 93 (.load (.t 92) none), .rd 94 (.mv (.t 1))]), (.rd 105 (.idx (.t 93) (.t 94) 1), []), (.store (.t 105) (.t 104) 1, [])]))))) .skip)
def h5 : SCode := .seq (.ops [(.rd 147 (.fadd (.t 6) 0), []), (.rd 148 (.load (.t 147) none), [])]) (.cond (.t 148) (.seq (.seq (.ops [(.rd 149 (.fadd (.t 6) 1), []), (.rd 150 (.fadd (.t 149) 0), []), (.rd 151 (.load (.t 150) none), []), (.rd 152 (.fadd (.t 7) 0), []), (.rd 153 (.fadd (.t 152) 0), []), (.rd 154 (.load (.t 153) none), []), (.rd 155 (.bin 0 .lss (.t 151) (.t 154)), []), (.rd 156 (.mv (.t 155)), []), (.grd 156 false 157 (.fadd (.t 6) 1), []), (.grd 156 false 158 (.fadd (.t 157) 0), []), (.grd 156 false 159 (.load (.t 158) none), []), (.grd 156 false 160 (.fadd (.t 7) 0), []), (.grd 156 false 161 (.fadd (.t 160) 0), []), (.grd 156 false 162 (.load (.t 161) none), []), (.grd 156 false 163 (.bin 0 .eql (.t 159) (.t 162)), []), (.grd 156 false 164 (.mv (.t 163)), []), (.grd 164 true 165 (.fadd (.t 7) 0), []), (.grd 164 true 166 (.fadd (.t 165) 1), []), (.grd 164 true 167 (.load (.t 166) none), []), (.grd 164 true 168 (.bin 0 .geq (.t 167) (.c (.int .i64 0))), []), (.grd 156 false 169 (.pick (.t 164) (.t 168) (.c (.bool false))), []), (.grd 156 false 170 (.mv (.t 169)), []), (.grd 170 true 171 (.fadd (.t 6) 1), []), (.grd 170 true 172 (.fadd (.t 171) 1), []), (.grd 170 true 173 (.load (.t 172) none), []), (.grd 170 true 174 (.fadd (.t 7) 0), []), (.grd 170 true 175 (.fadd (.t 174) 1), []), (.grd 170 true 176 (.load (.t 175) none), []), (.grd 170 true 177 (.bin 0 .neq (.t 173) (.t 176)), []), (.grd 156 false 178 (.pick (.t 170) (.t 177) (.c (.bool false))), []), (.rd 179 (.pick (.t 156) (.c (.bool true)) (.t 178)), []), (.rd 180 (.mv (.t 179)), []), (.grd 180 false 181 (.fadd (.t 6) 1), []), (.grd 180 false 182 (.fadd (.t 181) 2), []), (.grd 180 false 183 (.load (.t 182) none), []), (.grd 180 false 184 (.fadd (.t 7) 0), []), (.grd 180 false 185 (.fadd (.t 184) 2), []), (.grd 180 false 186 (.load (.t 185) none), []), (.grd 180 false 187 (.bin 0 .lss (.t 183) (.t 186)), []), (.rd 188 (.pick (.t 180) (.c (.bool true)) (.t 187)), [])]) (.cond (.t 188) (.seq (.ops [(.rd 4 (.mv (.c (.bool false))), [])]) .ret) .skip)) (.ops [(.rd 189 (.fadd (.t 6) 1), []), (.rd 190 (.load (.t 189) (some 3)), []), (.rd 191 (.fadd (.t 7) 0), []), (.store (.t 191) (.t 190) 3, [])])) .skip)
def b1 : SCode := .block 1 (.seq (.ops [(.rd 20 (.mv (.t 0)), []), (.rd 21 (.nchk (.t 20)), []), (.rd 22 (.fadd (.t 21) 0), []), (.rd 23 (.load (.t 22) none), []), (.rd 24 (.mv (.t 1)), []), (.rd 25 (.idx (.t 23) (.t 24) 1), []), (.rd 26 (.load (.t 25) none), []), (.call (some 27) (.f 16) [.t 26], []), (.alloc 6 40 [.bool false, .int .i64 0, .int .i64 0, .int .i64 0, .bool false, .int .i64 0, .int .i64 0, .slice none 0 0, .slice none 0 0, .slice none 0 0, .slice none 0 0, .slice none 0 0, .slice none 0 0], []), (.store (.t 6) (.t 27) 13, [])]) (.seq (.ops [(.rd 28 (.mv (.t 0)), []), (.rd 29 (.nchk (.t 28)), []), (.rd 30 (.fadd (.t 29) 1), []), (.rd 31 (.load (.t 30) none), []), (.rd 32 (.mv (.t 1)), []), (.rd 33 (.idx (.t 31) (.t 32) 8), []), (.rd 34 (.load (.t 33) (some 8)), []), (.alloc 7 108 [.int .i64 0, .int .i64 0, .int .i64 0, .int .i64 0, .int .i64 0, .slice none 0 0, .slice none 0 0, .slice none 0 0], []), (.store (.t 7) (.t 34) 8, [])]) (.seq h3 (.seq (.seq (.ops [(.rd 10 (.mv (.c (.int .i64 0))), [])]) q4) (.seq h5 (.seq (.ops [(.rd 192 (.mv (.t 0)), []), (.rd 193 (.nchk (.t 192)), []), (.rd 194 (.fadd (.t 193) 1), []), (.rd 195 (.load (.t 194) none), []), (.rd 196 (.mv (.t 1)), []), (.rd 197 (.load (.t 7) (some 8)), []), (.rd 198 (.idx (.t 195) (.t 196) 8), []), (.store (.t 198) (.t 197) 8, [])]) (.seq (.ops [(.rd 199 (.mv (.t 0)), []), (.rd 200 (.mv (.t 0)), []), (.rd 201 (.nchk (.t 200)), []), (.rd 202 (.fadd (.t 201) 2), []), (.rd 203 (.load (.t 202) none), []), (.rd 204 (.fadd (.t 6) 10), []), (.rd 205 (.load (.t 204) none), []), (.app 206 54 15 168 [.int .i64 0, .int .i64 0, .int .i64 0, .int .i64 0, .int .i64 0, .int .i64 0, .slice none 0 0, .int .i64 0, .int .i64 0, .bool false, .int .i64 0, .int .i64 0, .int .i64 0, .slice none 0 0, .slice none 0 0] (.t 203) (.t 205), [.rd 199 (.mv (.t 0))]), (.rd 207 (.nchk (.t 199)), []), (.rd 208 (.fadd (.t 207) 2), []), (.store (.t 208) (.t 206) 1, [])]) (.seq (.ops [(.rd 12 (.mv (.c (.int .i64 0))), [])]) q6))))))))
theorem s29_b : s29 = .seq (.ops [(.rd 4 (.mv (.c (.bool false))), [])]) (.seq (.seq (.ops [(.rd 5 (.mv (.c (.int .i64 0))), [])]) (.block 0 (.loop (.seq (.seq (.ops [(.rd 16 (.mv (.t 5)), []), (.rd 17 (.bin 0 .lss (.t 16) (.c (.int .i64 3))), [])]) (.cond (.t 17) .skip (.exit 0))) (.seq b1 (.ops [(.rd 18 (.mv (.t 5)), []), (.rd 19 (.bin 0 .add (.t 18) (.c (.int .i64 1))), []), (.rd 5 (.mv (.t 19)), [])])))))) (.seq (.seq (.ops [(.rd 297 (.mv (.t 0)), []), (.rd 298 (.nchk (.t 297)), []), (.rd 299 (.fadd (.t 298) 0), []), (.rd 300 (.load (.t 299) none), []), (.rd 301 (.mv (.t 1)), []), (.rd 302 (.idx (.t 300) (.t 301) 1), []), (.rd 303 (.load (.t 302) none), []), (.call (some 304) (.f 14) [.t 303], []), (.rd 305 (.bin 0 .eql (.t 304) (.c (.int .i64 2))), [])]) (.cond (.t 305) (.seq (.ops [(.rd 306 (.mv (.t 0)), []), (.rd 307 (.nchk (.t 306)), []), (.rd 308 (.fadd (.t 307) 0), []), (.rd 309 (.load (.t 308) none), []), (.rd 310 (.mv (.t 1)), []), (.rd 311 (.idx (.t 309) (.t 310) 1), []), (.rd 312 (.load (.t 311) none), []), (.call (some 313) (.f 19) [.t 312], []), (.rd 314 (.fld (.t 313) 0 none), []), (.rd 15 (.mv (.t 314)), [])]) (.seq q8 (.seq (.ops [(.rd 335 (.mv (.t 15)), []), (.rd 336 (.bin 0 .lss (.t 335) (.c (.int .i64 5000))), [])]) (.cond (.t 336) (.seq (.seq (.ops [(.rd 337 (.mv (.t 0)), []), (.rd 338 (.nchk (.t 337)), []), (.rd 339 (.fadd (.t 338) 5), []), (.rd 340 (.load (.t 339) none), []), (.rd 341 (.mv (.t 15)), []), (.rd 342 (.idx (.t 340) (.t 341) 1), []), (.rd 343 (.load (.t 342) none), []), (.rd 344 (.bin 0 .geq (.t 343) (.c (.int .i64 0))), []), (.rd 345 (.mv (.t 344)), []), (.grd 345 true 346 (.mv (.t 0)), []), (.grd 345 true 347 (.nchk (.t 346)), []), (.grd 345 true 348 (.fadd (.t 347) 5), []), (.grd 345 true 349 (.load (.t 348) none), []), (.grd 345 true 350 (.mv (.t 15)), []), (.grd 345 true 351 (.idx (.t 349) (.t 350) 1), []), (.grd 345 true 352 (.load (.t 351) none), []), (.grd 345 true 353 (.mv (.t 1)), []), (.grd 345 true 354 (.bin 0 .neq (.t 352) (.t 353)), []), (.rd 355 (.pick (.t 345) (.t 354) (.c (.bool false))), [])]) (.cond (.t 355) (.seq (.ops [(.rd 4 (.mv (.c (.bool false))), [])]) .ret) .skip)) (.ops [(.rd 356 (.mv (.t 0)), []), (.rd 357 (.nchk (.t 356)), []), (.rd 358 (.fadd (.t 357) 5), []), (.rd 359 (.load (.t 358) none), []), (.rd 360 (.mv (.t 15)), []), (.rd 361 (.mv (.t 1)), []), (.rd 362 (.idx (.t 359) (.t 360) 1), []), (.store (.t 362) (.t 361) 1, [])])) .skip)))) .skip)) (.seq (.ops [(.rd 4 (.mv (.c (.bool true))), [])]) .ret))) := rfl
/-- what is told of term, vote and committed is saved -/
def saveH (s : Rf.Sv) (h : Option Rf.Ha) : Option Rf.Sv := match h with
  | some h => if h.tm < s.h.tm ∨ (h.tm = s.h.tm ∧ 0 ≤ s.h.vote ∧ h.vote ≠ s.h.vote) ∨ h.cm < s.h.cm then none else some { s with h := h }
  | none => some s
set_option maxHeartbeats 8000000 in
theorem safe_h5 {P : SV → List Chunk → Prop} {b b6 b7 i cc : Nat} {A0 A1 A2 A3 A4 A5 A6 A7 A8 : Chunk} {r : RdL} {s : SvL} {k : List Frag} (hb : (botK k).isNone = true)
    (hno : saveH s.pl r.pl.hard = none → ∀ hp, P (Bl false) hp)
    (hyes : ∀ s' : SvL, saveH s.pl r.pl.hard = some s'.pl → Safe (S29 E P) k ⟨[(0, .ptr 0 b 0), (1, I i), (5, I cc), (6, .ptr 9 b6 0), (7, .ptr 10 b7 0)], [A0, A1, A2, A3, A4, A5, A6, A7, A8, .cells b6 40 (encRd r), .cells b7 108 (encS s')]⟩) :
    Safe (S29 E P) (.code h5 :: k) ⟨[(0, .ptr 0 b 0), (1, I i), (5, I cc), (6, .ptr 9 b6 0), (7, .ptr 10 b7 0)], [A0, A1, A2, A3, A4, A5, A6, A7, A8, .cells b6 40 (encRd r), .cells b7 108 (encS s)]⟩ := by
  unfold h5
  refine go_ok _ 6 _ _ ?_
  simp only [go_sem, k29, List.cons_append, List.nil_append, Nat.reduceBEq, Nat.zero_add]
  refine ⟨fun hh => ?_, fun hh => ?_⟩
  · have hpl : saveH s.pl r.pl.hard = if r.hT < s.hT ∨ (r.hT = s.hT ∧ 0 ≤ s.hV ∧ r.hV ≠ s.hV) ∨ r.hC < s.hC then none else some { s.pl with h := ⟨r.hT, r.hV, r.hC⟩ } := by
      unfold RdL.pl
      rw [hh]
      rfl
    refine go_ok _ 3 _ _ ?_
    simp only [go_sem]
    refine safe_ops_mid ⟨[(0, .ptr 0 b 0), (1, I i), (5, I cc), (6, .ptr 9 b6 0), (7, .ptr 10 b7 0), (188, Bl ((decide (r.hT < s.hT) || (decide (r.hT = s.hT) && (decide (0 ≤ s.hV) && decide (r.hV ≠ s.hV)))) || decide (r.hC < s.hC)))], [A0, A1, A2, A3, A4, A5, A6, A7, A8, .cells b6 40 (encRd r), .cells b7 108 (encS s)]⟩ ?_ ?_
    · refine go_ok _ 1 _ _ ?_
      simp only [go_sem, Nat.reduceBEq]
      have hd : ((decide (r.hT < s.hT) || (decide (r.hT = s.hT) && (decide (0 ≤ s.hV) && decide (r.hV ≠ s.hV)))) || decide (r.hC < s.hC)) = decide (r.hT < s.hT ∨ (r.hT = s.hT ∧ 0 ≤ s.hV ∧ r.hV ≠ s.hV) ∨ r.hC < s.hC) := by
        rw [Bool.eq_iff_iff]
        simp only [Bool.or_eq_true, Bool.and_eq_true, decide_eq_true_eq]
        exact or_assoc
      rw [hd]
      refine ⟨fun h1 => ?_, fun h1 => ?_⟩
      · rw [if_pos (of_decide_eq_true h1)] at hpl
        refine go_ok _ 5 _ _ ?_
        simp only [go_sem, k29, hb, Nat.reduceBEq, Try.results29]
        exact hno hpl _
      · rw [if_neg (of_decide_eq_false h1)] at hpl
        refine go_ok _ 6 _ _ ?_
        simp only [go_sem, Nat.reduceBEq]
        refine safe_nil (Safe.sub ?_ (hyes { s with hT := r.hT, hV := r.hV, hC := r.hC } hpl))
        exact Sub.front (X := []) (by simp [envSub, look]) rfl
    · intro hrest
      rcases d1 : decide (r.hT < s.hT) with _ | _ <;> rcases d2 : decide (r.hT = s.hT) with _ | _ <;> rcases d3 : decide (0 ≤ s.hV) with _ | _ <;> rcases d4 : decide (r.hV ≠ s.hV) with _ | _ <;> rcases d5 : decide (r.hC < s.hC) with _ | _ <;>
      · simp only [d1, d2, d3, d4, d5, Bool.or_true, Bool.or_false, Bool.and_true, Bool.and_false] at hrest
        refine go_ok _ 41 _ _ ?_
        simp only [go_sem, k29, d1, d2, d3, d4, d5, List.cons_append, List.nil_append, Nat.reduceBEq, Nat.reduceAdd, Nat.zero_add]
        and_intros <;> first | (refine Safe.sub ?_ hrest; exact Sub.front (X := []) (by simp [envSub, look]) rfl) | (intro h; exact absurd h (by decide)) | rfl
  · have hpl : saveH s.pl r.pl.hard = some s.pl := by
      unfold RdL.pl
      rw [hh]
      rfl
    refine go_ok _ 1 _ _ ?_
    simp only [go_sem]
    refine Safe.sub ?_ (hyes s hpl)
    exact Sub.front (X := []) (by simp [envSub, look]) rfl
end Go.SX
