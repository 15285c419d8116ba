/- Joined texts: T31 T32 T33 T34 T35 T36. -/
import Derived.Test.YtpbbpmhahkeekaaSxTJ6
import Derived.Test.YtpbbpmhahkeekaaSxV
/- Raft: what a leader says, by the plain model. -/
namespace Go.SX
open Go.Proofs
set_option maxRecDepth 1000000
variable {E : Env}

def NL.leadBy (n : NL) (i : Int) : NL := { n with s := { n.s with leader := i } }
structure W57 (n : NL) (m : MsL) where
  N : NL
  ok : Bool
  mt : Int
  ms : N.nd.msgs.length = n.nd.msgs.length
  eq : n.nd.led m.pl = N.nd.send ({ (default : MsL) with kd := 4, to := m.fr, sq := m.sq, ok := ok, mt := mt } : MsL).pl
theorem take_msgs (n : Rf.Nd) (m : Rf.Ms) : (n.take m).2.msgs = n.msgs := by
  unfold Rf.Nd.take
  split <;> rfl
theorem append_msgs (n : Rf.Nd) (m : Rf.Ms) : (n.append m).2.msgs = n.msgs := by
  unfold Rf.Nd.append
  split
  · rfl
  · split
    · rfl
    · show (n.lay _).msgs = n.msgs
      unfold Rf.Nd.lay; split <;> rfl
set_option maxHeartbeats 2000000 in
theorem c57p (b : Nat) (n : NL) (m : MsL) {k j : Nat} (h : n.nd.inv k j) (hm : m.pl.fit k) (hf : n.nd.fine m.pl = true) (hk1 : k ≤ 2 ^ 30) (hj : j ≤ 2 ^ 28) :
    Spec Try.prog E 57 [.ptr 0 b 0, .agg (encM m)] (nO b n) (fun _ hp => ∃ n' : NL, n'.nd = n.nd.led m.pl ∧ hp = nO b n') := by
  refine Spec.see2 ?_
  generalize hP : SeeP _ = P
  have fin : ∀ (r : SV) (n' : NL) {X : List Chunk}, n'.nd = n.nd.led m.pl → P r (nO b n' ++ X) := by
    intro r n' X h1
    rw [← hP]
    exact ⟨r, _, rfl, fun _ h => h, Sees.left, n', h1, rfl⟩
  obtain ⟨f1, f2, f3, f4⟩ := Rf.fine_facts hf
  have hms : n.nd.msgs.length ≤ j := h.ms
  refine spec_of (keep := k57) (args' := [.ptr 0 b 0, .agg (encM m)]) Try.func57 rfl Try.ntmps57 s57_ok (by simp) ⟨rfl, fun _ h => h⟩ (fun _ _ h => h) (go_ok _ 100 _ _ ?_)
  simp only [go_sem, s57, k57, Nat.reduceBEq, Nat.reduceAdd, Nat.zero_add, Try.results57]
  intro b1
  refine ⟨fun hr => ?_, fun hr => ?_⟩
  · have hr0 : n.rs.role = 2 := of_decide_eq_true hr
    have hr' : n.nd.role = 2 := hr0
    refine fin _ n (X := [_]) ?_
    unfold Rf.Nd.led
    rw [if_pos hr']
  have hr0 : ¬ n.rs.role = 2 := of_decide_eq_false hr
  have hr' : ¬ n.nd.role = 2 := hr0
  have hled : n.nd.led m.pl = if m.kd = 5 then ((n.followed.leadBy m.fr).anew.nd.take m.pl).2.send ({ (default : MsL) with kd := 4, to := m.fr, sq := m.sq, ok := true, mt := ((n.followed.leadBy m.fr).anew.nd.take m.pl).1 } : MsL).pl
      else ((n.followed.leadBy m.fr).anew.nd.append m.pl).2.send ({ (default : MsL) with kd := 4, to := m.fr, sq := m.sq, ok := ((n.followed.leadBy m.fr).anew.nd.append m.pl).1.1, mt := ((n.followed.leadBy m.fr).anew.nd.append m.pl).1.2 } : MsL).pl := by
    unfold Rf.Nd.led
    rw [if_neg hr']
    rfl
  have hfit : (n.followed.leadBy m.fr).anew.nd.fit k j := Rf.fit_anew (n := (n.followed.leadBy m.fr).nd) { Rf.fit_follow h.toFit with }
  have hNm : (n.followed.leadBy m.fr).anew.nd.msgs = n.nd.msgs := rfl
  refine (stp_call [0, 1, 2, 3, 4, 5, 6] (args := [.ptr 0 b 0]) rfl rfl rfl ⟨_, Try.func51, rfl, rfl⟩ (c51n b n) rfl (fun _ h => h) rfl (fun _ _ h => h) ?_).safe trivial
  rintro v hp rfl
  refine ⟨trivial, go_ok _ 100 _ _ ?_⟩
  simp only [go_sem, List.cons_append, List.nil_append, Nat.reduceBEq, Nat.zero_add]
  refine (stp_call [0, 1, 2, 3, 4, 5, 6] (args := [.ptr 0 b 0]) rfl rfl rfl ⟨_, Try.func70, rfl, rfl⟩ (c70n b (n.followed.leadBy m.fr)) rfl (fun _ h => h) rfl (fun _ _ h => h) ?_).safe trivial
  rintro v hp rfl
  generalize (n.followed.leadBy m.fr).anew = N at *
  refine ⟨trivial, go_ok _ 11 _ _ ?_⟩
  simp only [go_sem, List.cons_append, List.nil_append, Nat.reduceBEq, Nat.reduceAdd, Nat.zero_add]
  intro ba
  refine go_ok _ 7 _ _ ?_
  simp only [go_sem, List.cons_append, List.nil_append, Nat.reduceBEq, Nat.zero_add]
  refine safe_code_mid (ι := W57 n m) (fun g => ⟨[(0, .ptr 0 b 0), (4, .ptr 8 ba 0)], nO b g.N ++ [.cells b1 54 (encM m), .cells ba 54 (encM { (default : MsL) with kd := 4, to := m.fr, sq := m.sq, ok := g.ok, mt := g.mt })]⟩) ?_ ?_
  · rintro ⟨M, ok, mt, hMm, hMe⟩
    have hMl : M.msgs.length ≤ 2 ^ 30 := by
      have e : M.nd.msgs.length = M.msgs.length := by show (M.msgs.map MsL.pl).length = _; rw [List.length_map]
      omega
    refine go_ok _ 100 _ _ ?_
    simp only [go_sem, List.cons_append, List.nil_append, Nat.reduceBEq]
    refine (stp_call [0, 1, 2, 3, 4, 5, 6] (args := [.ptr 0 b 0, .agg (encM { (default : MsL) with kd := 4, to := m.fr, sq := m.sq, ok := ok, mt := mt })]) rfl rfl rfl ⟨_, Try.func71, rfl, rfl⟩ (c71n b M { (default : MsL) with kd := 4, to := m.fr, sq := m.sq, ok := ok, mt := mt } hMl) rfl (fun _ h => h) rfl (fun _ _ h => h) ?_).safe trivial
    rintro v hp ⟨w, rfl⟩
    refine ⟨trivial, go_ok _ 100 _ _ ?_⟩
    simp only [go_sem, List.cons_append, List.nil_append, Nat.reduceBEq, Try.results57]
    exact fin _ (M.sent w [{ ({ (default : MsL) with kd := 4, to := m.fr, sq := m.sq, ok := ok, mt := mt } : MsL) with fr := M.s.id, tm := M.s.hT }]) (X := [_, _]) (by rw [nd_sent, hMe])
  · intro hrest
    have hcells : ∀ (ro : RO) (H : Hp) (ok : Bool) (mt : Int), (Chunk.cells ba 54 [I 4, I 0, I m.fr, I 0, I 0, I 0, nilS, I 0, I m.sq, Bl ok, I mt, I 0, I 0, nilS, nilS]).sat ro H → (Chunk.cells ba 54 (encM { (default : MsL) with kd := 4, to := m.fr, sq := m.sq, ok := ok, mt := mt })).sat ro H := by
      intro ro H ok mt hh
      refine cells_imp (cs := [I 4, I 0, I m.fr, I 0, I 0, I 0, nilS, I 0, I m.sq, Bl ok, I mt, I 0, I 0, nilS, nilS]) rfl (fun _ => ?_) hh
      simp only [SV.oks, SV.ok, encM, true_and, and_true]
      exact ⟨nilOk ro 4 _, nilOk ro 1 _, nilOk ro 1 _⟩
    have hsees : ∀ (M : NL) (ok : Bool) (mt : Int), Sees (nO b M ++ [.cells b1 54 (encM m), .cells ba 54 [I 4, I 0, I m.fr, I 0, I 0, I 0, nilS, I 0, I m.sq, Bl ok, I mt, I 0, I 0, nilS, nilS]]) (nO b M ++ [.cells b1 54 (encM m), .cells ba 54 (encM { (default : MsL) with kd := 4, to := m.fr, sq := m.sq, ok := ok, mt := mt })]) := by
      intro M ok mt
      exact Sees.app (Sees.refl _) (Sees.same (Sees.cons (fun ro H hh => ⟨H, [], by simp, hcells ro H ok mt hh⟩) (Sees.refl [])))
    refine go_ok _ 100 _ _ ?_
    simp only [go_sem, Nat.reduceBEq]
    refine ⟨fun hk => ?_, fun hk => ?_⟩
    · rw [if_pos (of_decide_eq_true hk)] at hled
      refine (stp_call [0, 1, 2, 3, 4, 5, 6] (args := [.ptr 0 b 0, .agg (encM m)]) rfl rfl rfl ⟨_, Try.func78, rfl, rfl⟩ (c78p b N m hfit hm hk1) rfl (fun _ h => h) rfl (fun _ _ h => h) ?_).safe trivial
      rintro v hp ⟨rfl, N2, hN2, rfl⟩
      refine ⟨trivial, go_ok _ 3 _ _ ?_⟩
      simp only [go_sem, List.cons_append, List.nil_append, Nat.reduceBEq, Nat.zero_add]
      refine Safe.sub ?_ (hrest ⟨N2, true, (N.nd.take m.pl).1, by rw [hN2, take_msgs, hNm], by rw [hN2, hled]⟩)
      exact ⟨envDen_ok ⟨seen _ _ _ rfl, seen _ _ _ rfl, trivial⟩, hsees N2 true (N.nd.take m.pl).1⟩
    · rw [if_neg (of_decide_eq_false hk)] at hled
      refine (stp_call [0, 1, 2, 3, 4, 5, 6] (args := [.ptr 0 b 0, .agg (encM m)]) rfl rfl rfl ⟨_, Try.func79, rfl, rfl⟩ (c79p b N m hfit hm f3 hk1) rfl (fun _ h => h) rfl (fun _ _ h => h) ?_).safe trivial
      rintro v hp ⟨rfl, N2, hN2, rfl⟩
      refine ⟨trivial, go_ok _ 8 _ _ ?_⟩
      simp only [go_sem, List.cons_append, List.nil_append, Nat.reduceBEq, Nat.zero_add]
      refine Safe.sub ?_ (hrest ⟨N2, (N.nd.append m.pl).1.1, (N.nd.append m.pl).1.2, by rw [hN2, append_msgs, hNm], by rw [hN2, hled]⟩)
      exact ⟨envDen_ok ⟨seen _ _ _ rfl, seen _ _ _ rfl, trivial⟩, hsees N2 (N.nd.append m.pl).1.1 (N.nd.append m.pl).1.2⟩
end Go.SX

/- Raft: what a leader hears, by the plain model. -/
namespace Go.SX
open Go.Proofs
set_option maxRecDepth 1000000
variable {E : Env}

/-- another is known of -/
def NL.setP (n : NL) (i : Nat) (p : PeL) : NL := { n with peers := n.peers.set i p }
theorem map_set_find : ∀ {L : List PeL} {v : Int} {i : Nat} {p q : PeL}, (L.map PeL.id).Nodup → fndP L v = some i → L[i]? = some p → q.id = v → (L.set i q).map (fun p => (p.id, p.pl)) = (L.map fun p => (p.id, p.pl)).map fun x => if x.1 = v then (v, q.pl) else x
  | [], _, _, _, _, _, h, _, _ => by cases h
  | x :: r, v, i, p, q, hn, h, hp, hq => by
    unfold fndP at h
    rw [List.map_cons, List.nodup_cons] at hn
    split at h
    · rename_i hx
      injection h with h
      subst h
      rw [List.set_cons_zero, List.map_cons, List.map_cons, List.map_cons, if_pos hx, hq]
      congr 1
      rw [List.map_map]
      refine (List.map_congr_left fun y hy => ?_).symm
      simp only [Function.comp_apply]
      rw [if_neg]
      intro hyv
      exact hn.1 (by rw [hx, ← hyv]; exact List.mem_map_of_mem hy)
    · rename_i hx
      cases hr : fndP r v with
      | none => rw [hr] at h; cases h
      | some c =>
        rw [hr] at h
        injection h with h
        subst h
        rw [List.set_cons_succ, List.map_cons, List.map_cons, List.map_cons, if_neg hx, map_set_find hn.2 hr (by simpa using hp) hq]
theorem nd_setP {n : NL} {v : Int} {i : Nat} {p q : PeL} (hn : (n.peers.map PeL.id).Nodup) (hf : fndP n.peers v = some i) (hp : n.peers[i]? = some p) (hq : q.id = v) : (n.setP i q).nd = n.nd.setPeer v q.pl := by
  unfold Rf.Nd.setPeer
  have e : (n.setP i q).nd.peers = n.nd.peers.map fun (l : List (Int × Rf.Pe)) => l.map fun x => if x.1 = v then (v, q.pl) else x := by
    show (n.pm.map fun _ => (n.peers.set i q).map fun p => (p.id, p.pl)) = (n.pm.map fun _ => n.peers.map fun p => (p.id, p.pl)).map _
    cases n.pm with
    | none => rfl
    | some M => simp only [Option.map_some]; rw [map_set_find hn hf hp hq]
  rw [← e]
  rfl
theorem fnd_set : ∀ {L : List PeL} {v : Int} {i : Nat} {q : PeL}, fndP L v = some i → q.id = v → fndP (L.set i q) v = some i
  | [], _, _, _, h, _ => by cases h
  | x :: r, v, i, q, h, hq => by
    unfold fndP at h
    split at h
    · injection h with h
      subst h
      rw [List.set_cons_zero]
      unfold fndP
      rw [if_pos hq]
    · rename_i hx
      cases hr : fndP r v with
      | none => rw [hr] at h; cases h
      | some c =>
        rw [hr] at h
        injection h with h
        subst h
        rw [List.set_cons_succ]
        unfold fndP
        rw [if_neg hx, fnd_set hr hq]
        rfl
theorem pmC_set {L : List PeL} {i : Nat} {p q : PeL} (o : Option Nat) (h : L[i]? = some p) (h1 : q.id = p.id) (h2 : q.b = p.b) : pmC o (L.set i q) = pmC o L := by
  have e : (L.set i q).map (fun p => (p.id, SV.ptr 0 p.b 0)) = L.map (fun p => (p.id, SV.ptr 0 p.b 0)) := by
    rw [List.map_set, h1, h2]
    have hq : (L.map fun p => (p.id, SV.ptr 0 p.b 0))[i]? = some (p.id, SV.ptr 0 p.b 0) := by rw [List.getElem?_map, h]; rfl
    obtain ⟨q1, q2⟩ := List.getElem?_eq_some_iff.1 hq
    rw [← q2]
    exact List.set_getElem_self q1
  cases o with
  | none => rfl
  | some M => simp only [pmC, e]
/-- one of the others, laid back into the node -/
theorem Sees.peerIn (b : Nat) (n : NL) {i : Nat} {p q : PeL} (X : List Chunk) (h : n.peers[i]? = some p) (h1 : q.id = p.id) (h2 : q.b = p.b) :
    Sees ([rC b n.rs, n.wv.ch 3 1 encI n.votes, n.ww.ch 100 3 encW n.waits, n.wr.ch 48 2 encQ n.reads, n.wm.ch 54 15 encM n.msgs, pmC n.pm n.peers, sepC (setC (n.peers.map peC) i .emp)] ++ (peC q :: X)) (nO b (n.setP i q) ++ X) := by
  refine Sees.trans (b := ([rC b n.rs, n.wv.ch 3 1 encI n.votes, n.ww.ch 100 3 encW n.waits, n.wr.ch 48 2 encQ n.reads, n.wm.ch 54 15 encM n.msgs, pmC n.pm n.peers, sepC (setC (n.peers.map peC) i .emp)] ++ [peC q]) ++ X) ?_ (Sees.app ?_ (Sees.refl X))
  · rw [List.append_assoc]; exact Sees.refl _
  · refine Sees.trans (Sees.peerBack (c := 6) (i := i) (L := n.peers) (p := p) (p' := q) rfl h) ?_
    rw [← pmC_set n.pm h h1 h2]
    exact Sees.refl _
set_option maxHeartbeats 4000000 in
theorem c56p (b : Nat) (n : NL) (m : MsL) (i : Nat) (p : PeL) {k j : Nat} (h : n.nd.inv k j) (hm : m.pl.fit k) (hr : n.s.role = 2) (hf : fndP n.peers m.fr = some i) (hi : n.peers[i]? = some p) (hpm : n.pm.isSome = true) (hk1 : k ≤ 2 ^ 30) (hj : j + 8 ≤ 2 ^ 28) :
    Spec Try.prog E 56 [.ptr 0 b 0, .ptr 0 p.b 0, .agg (encM m)] (nO b n) (fun _ hp => ∃ n' : NL, n'.nd = n.nd.heard m.pl ∧ hp = nO b n') := by
  refine Spec.see2 ?_
  generalize hP : SeeP _ = P
  have fin : ∀ (r : SV) (n' : NL) {X : List Chunk}, n'.nd = n.nd.heard m.pl → P r (nO b n' ++ X) := by
    intro r n' X h1
    rw [← hP]
    exact ⟨r, _, rfl, fun _ h => h, Sees.left, n', h1, rfl⟩
  have hg := fit_good h.toFit hk1
  have hla := nd_last n
  obtain ⟨M, hM⟩ := Option.isSome_iff_exists.1 hpm
  have hpid : p.id = m.fr := by
    obtain ⟨q, h1, h2⟩ := fndP_some hf
    rw [hi] at h1
    injection h1 with h1
    rw [h1]; exact h2
  have hpeer := peer_nd hM hf hi
  have hkey : ((n.nd.peers.getD []).find? fun (p : Int × Rf.Pe) => p.1 == m.pl.fr).isSome = true := by
    have e : n.nd.peers = some (n.peers.map fun p => (p.id, p.pl)) := by simp only [NL.nd, hM]; rfl
    rw [e, Option.getD_some]
    show ((n.peers.map fun p => (p.id, p.pl)).find? fun q => q.1 == m.fr).isSome = true
    rw [find_pl, hf]
    rfl
  obtain ⟨l, p0, hl1, hl2, hl3, hl4, hl5, hl6, hl7⟩ := Rf.heard_facts h hm hr hkey
  have hp0 : p0 = p.pl := by rw [← hl3]; exact hpeer
  subst hp0
  have hnd : (n.peers.map PeL.id).Nodup := by
    obtain ⟨l', q1, q2, _, _⟩ := h.kn hr
    obtain ⟨_, _, rfl⟩ := nd_peers q1
    rw [keys_pl] at q2
    exact q2
  have hlk : n.rs.last ≤ k := by rw [← hla]; exact h.i1
  have hl0 : 0 ≤ n.rs.last := by have := hg.sm.m0; unfold RS.last; omega
  have hn0 : 1 ≤ p.nx := hl4.n0
  have hn1 : p.nx ≤ n.rs.last + 1 := by rw [← hla]; exact hl4.n1
  have hm0 : 0 ≤ p.mt := hl4.m0
  have hm1 : p.mt ≤ n.rs.last := by rw [← hla]; exact hl4.m1
  have hmt0 : -1 ≤ m.mt := hm.m0
  have hmt1 : m.mt ≤ k := hm.m1
  refine spec_of (keep := k56) (args' := [.ptr 0 b 0, .ptr 7 p.b 0, .agg (encM m)]) Try.func56 rfl Try.ntmps56 s56_ok (by simp) ⟨rfl, fun _ h => by simpa [SV.oks, SV.ok] using h⟩ (fun _ _ h => h) ?_
  refine safe_sees (Sees.peer (c := 6) (i := i) (L := n.peers) (p := p) rfl hi) ?_
  refine go_ok _ 17 _ _ ?_
  simp only [go_sem, s56, k56, peC, List.cons_append, List.nil_append, Nat.reduceBEq, Nat.reduceAdd, Nat.zero_add]
  intro b1
  refine go_ok _ 7 _ _ ?_
  simp only [go_sem, Nat.reduceBEq, Nat.zero_add]
  refine safe_code_mid (ι := {q : PeL // q.b = p.b ∧ q.id = m.fr ∧ ({ q.pl with nx := max q.nx (q.mt + 1) } : Rf.Pe) = p.pl.told m.pl n.nd.last ∧ 0 ≤ q.mt ∧ q.mt ≤ n.rs.last})
    (fun q => ⟨[(0, .ptr 0 b 0), (1, .ptr 7 p.b 0), (5, .ptr 8 b1 0)], [rC b n.rs, n.wv.ch 3 1 encI n.votes, n.ww.ch 100 3 encW n.waits, n.wr.ch 48 2 encQ n.reads, n.wm.ch 54 15 encM n.msgs, pmC n.pm n.peers, sepC (setC (n.peers.map peC) i .emp), peC ⟨q.1.id, p.b, q.1.nx, q.1.mt, q.1.hd⟩, .cells b1 54 (encM m)]⟩) ?_ ?_
  · rintro ⟨⟨qid, qb, qx, qm, qh⟩, hqb, hqi, hqt, hq0, hq1⟩
    simp only at hqb hqi hqt hq0 hq1
    subst hqb hqi
    refine go_ok _ 17 _ _ ?_
    simp only [go_sem, peC, List.nil_append, Nat.reduceBEq, Nat.zero_add]
    refine ⟨by simp only [inI64]; omega, ?_⟩
    have hPl : (⟨m.fr, p.b, max qx (qm + 1), qm, qh⟩ : PeL).pl = p.pl.told m.pl n.nd.last := hqt
    have hNd := nd_setP (q := ⟨m.fr, p.b, max qx (qm + 1), qm, qh⟩) hnd hf hi rfl
    rw [hPl] at hNd
    have hfr : m.pl.fr = m.fr := rfl
    rw [hfr] at hl6 hl7 hl3
    have hNp : (n.setP i ⟨m.fr, p.b, max qx (qm + 1), qm, qh⟩).peers[i]? = some ⟨m.fr, p.b, max qx (qm + 1), qm, qh⟩ := by
      show (n.peers.set i _)[i]? = _
      rw [List.getElem?_set_self (List.getElem?_eq_some_iff.1 hi).1]
    have hNf : fndP (n.setP i ⟨m.fr, p.b, max qx (qm + 1), qm, qh⟩).peers m.fr = some i := fnd_set hf rfl
    have hNm : (n.setP i ⟨m.fr, p.b, max qx (qm + 1), qm, qh⟩).pm = some M := hM
    refine safe_env (env' := [(0, .ptr 0 b 0), (1, .ptr 8 p.b 0), (5, .ptr 7 b1 0)]) ⟨seen _ _ _ rfl, seenP _ _ _ _ _ _ rfl rfl, seenP _ _ _ _ _ _ rfl rfl, trivial⟩ ?_
    refine safe_sees (hp' := nO b (n.setP i ⟨m.fr, p.b, max qx (qm + 1), qm, qh⟩) ++ [.cells b1 54 (encM m)]) ?_ ?_
    · exact Sees.peerIn b n (q := ⟨m.fr, p.b, max qx (qm + 1), qm, qh⟩) [.cells b1 54 (encM m)] hi hpid.symm rfl
    rw [← hNd] at hl6 hl7
    have hhe := Rf.heard_eq n.nd m.pl
    rw [hfr, hl3] at hhe
    dsimp only at hhe
    rw [← hNd] at hhe
    have hlst : (p.pl.told m.pl n.nd.last).mt = qm := by rw [← hqt]; rfl
    rw [hlst] at hhe
    have hl5' : (⟨m.fr, p.b, max qx (qm + 1), qm, qh⟩ : PeL).pl.fit n.nd.last := by rw [hPl]; exact hl5
    have hNl : (n.setP i ⟨m.fr, p.b, max qx (qm + 1), qm, qh⟩).nd.last = n.nd.last := by rw [hNd]; rfl
    generalize hNN : n.setP i ⟨m.fr, p.b, max qx (qm + 1), qm, qh⟩ = N at *
    refine go_ok _ 100 _ _ ?_
    simp only [go_sem, List.cons_append, List.nil_append, Nat.reduceBEq]
    refine (stp_call [0, 1, 2, 3, 4, 5, 6] (args := [.ptr 0 b 0]) rfl rfl rfl ⟨_, Try.func47, rfl, rfl⟩ (c47p b N hl6 hk1 (by omega)) rfl (fun _ h => h) rfl (fun _ _ h => h) ?_).safe trivial
    rintro v hp ⟨N2, hN2, hk2, rfl⟩
    have hi2 := Rf.inv_look hl6
    have hal := fun hr => Rf.look_alike N.nd hr
    rw [← hN2] at hi2 hal hhe
    refine ⟨trivial, go_ok _ 9 _ _ ?_⟩
    simp only [go_sem, List.cons_append, List.nil_append, Nat.reduceBEq, Nat.zero_add]
    by_cases hr2 : N2.s.role = 2
    · have hr2' : N2.nd.role = 2 := hr2
      have hdr : decide (N2.rs.role = 2) = true := decide_eq_true hr2
      obtain ⟨hpm2, hpe2⟩ := hk2 hr2
      have hal := hal hr2'
      rw [if_pos hr2'] at hhe
      rw [hdr]
      refine go_ok _ 100 _ _ ?_
      simp only [go_sem, Nat.reduceBEq, Nat.zero_add, reduceCtorEq]
      refine (stp_call [0, 1, 2, 3, 4, 5, 6] (args := [.ptr 0 b 0]) rfl rfl rfl ⟨_, Try.func48, rfl, rfl⟩ (c48p b N2 hi2 hr2 hk1) rfl (fun _ h => h) rfl (fun _ _ h => h) ?_).safe trivial
      rintro v hp ⟨ww, wr, ws, rs, hN3, rfl⟩
      have hi3 := Rf.inv_confirm hi2
      have hc3 := (Rf.confirmI_alike N2.nd.waits.length N2.nd).1
      have hr3 : (N2.waited ww ws wr rs).s.role = 2 := hr2
      have hpm3 : (N2.waited ww ws wr rs).pm = some M := hpm2.trans hNm
      have hpe3 : (N2.waited ww ws wr rs).peers = N.peers := hpe2
      have hl3' : N2.nd.confirm.last = n.nd.last := (hc3.last.trans hal.last).trans hNl
      rw [← hN3] at hi3 hhe hl3'
      generalize N2.waited ww ws wr rs = N3 at *
      have hr3' : N3.nd.role = 2 := hr3
      have hdr3 : decide (N3.rs.role = 2) = true := decide_eq_true hr3
      have hp3 : N3.peers[i]? = some ⟨m.fr, p.b, max qx (qm + 1), qm, qh⟩ := by rw [hpe3]; exact hNp
      have hf3 : fndP N3.peers m.fr = some i := by rw [hpe3]; exact hNf
      have hg3 := fit_good hi3.toFit hk1
      have hla3 := nd_last N3
      refine ⟨trivial, go_ok _ 1 _ _ ?_⟩
      simp only [go_sem, List.cons_append, List.nil_append, Nat.reduceBEq]
      refine safe_sees (Sees.peer (hp := nO b N3 ++ [.cells b1 54 (encM m)]) (c := 6) (i := i) (L := N3.peers) (p := ⟨m.fr, p.b, max qx (qm + 1), qm, qh⟩) rfl hp3) ?_
      refine go_ok _ 100 _ _ ?_
      simp only [go_sem, peC, hdr3, List.cons_append, List.nil_append, Nat.reduceBEq, Nat.zero_add, reduceCtorEq]
      refine ⟨?_, rfl⟩
      refine (stp_call [0] (args := [.ptr 0 b 0]) rfl rfl rfl ⟨_, Try.func40, rfl, rfl⟩ (c40 b N3.rs hg3.sm) (by simp [SV.dens, SV.den]) (fun _ h => by simp [SV.oks, SV.ok]) rfl (fun _ _ h => h) ?_).safeOn trivial
      rintro v hp ⟨rfl, rfl⟩
      refine ⟨by simp only [recheck, recheck1, go_sem, Nat.reduceBEq, Nat.zero_add], go_ok _ 3 _ _ ?_⟩
      simp only [go_sem, Nat.reduceBEq]
      refine safe_sees (hp' := nO b N3 ++ [.cells b1 54 (encM m)]) ?_ ?_
      · refine Sees.trans (Sees.peerBack (hp := nO b N3 |>.set 6 (sepC (setC (N3.peers.map peC) i .emp)) |> (· ++ [.cells b1 54 (encM m)])) (c := 6) (i := i) (L := N3.peers) (p := ⟨m.fr, p.b, max qx (qm + 1), qm, qh⟩) (p' := ⟨m.fr, p.b, max qx (qm + 1), qm, qh⟩) rfl hp3) ?_
        rw [set_sameP hp3]
        exact Sees.refl _
      refine go_ok _ 100 _ _ ?_
      simp only [go_sem, List.cons_append, List.nil_append, Nat.reduceBEq, Nat.zero_add, Try.results56]
      refine ⟨fun hd => ?_, fun hd => ?_⟩
      · have hd' : N3.nd.role = 2 ∧ qm < N3.nd.last := ⟨hr3', by rw [hla3]; exact of_decide_eq_true hd⟩
        rw [if_pos hd'] at hhe
        have h5 : (⟨m.fr, p.b, max qx (qm + 1), qm, qh⟩ : PeL).pl.fit N3.nd.last := by rw [hl3']; exact hl5'
        have h5a : 1 ≤ max qx (qm + 1) := h5.n0
        have h5b : max qx (qm + 1) ≤ N3.nd.last + 1 := h5.n1
        have h3l : N3.nd.last ≤ k := hi3.i1
        refine (stp_call [0, 1, 2, 3, 4, 5, 6] (args := [.ptr 0 b 0, I m.fr]) rfl rfl rfl ⟨_, Try.func69, rfl, rfl⟩ (c69n b N3 m.fr M i ⟨m.fr, p.b, max qx (qm + 1), qm, qh⟩ (fit_small hi3.toFit hk1 (by omega)) hpm3 hf3 hp3 h5a (by show max qx (qm + 1) ≤ _; omega)) rfl (fun _ h => h) rfl (fun _ _ h => h) ?_).safe trivial
        rintro v hp ⟨w, m', hN4, rfl⟩
        refine ⟨trivial, go_ok _ 100 _ _ ?_⟩
        simp only [go_sem, List.cons_append, List.nil_append, Nat.reduceBEq, Try.results56]
        exact fin _ (N3.sent w [m']) (X := [_]) (by rw [hN4, hhe])
      · rw [if_neg (fun q => of_decide_eq_false hd (by rw [← hla3]; exact q.2))] at hhe
        exact fin _ N3 (X := [_]) hhe.symm
    · have hr2' : ¬ N2.nd.role = 2 := hr2
      have hdr : decide (N2.rs.role = 2) = false := decide_eq_false hr2
      rw [if_neg hr2', if_neg (fun q => hr2' q.1)] at hhe
      rw [hdr]
      refine go_ok _ 100 _ _ ?_
      simp only [go_sem, hdr, Nat.reduceBEq, Nat.zero_add, Try.results56]
      exact ⟨fin _ N2 (X := [_]) hhe.symm, rfl⟩
  · intro hrest
    have hmx : ∀ (x y : Int), Max.max x y = max x y := fun _ _ => rfl
    refine go_ok _ 12 _ _ ?_
    simp only [go_sem, Nat.reduceBEq, Nat.zero_add]
    refine ⟨fun hk => ?_, fun hk => ⟨by simp only [inI64]; omega, go_ok _ 1 _ _ ?_⟩⟩
    rotate_left
    simp only [go_sem, Nat.reduceBEq]
    refine ⟨fun hk2 => ?_, fun hk2 => ?_⟩
    rotate_left 2
    · refine (stp_call [0] rfl rfl rfl ⟨_, Try.func40, rfl, rfl⟩ (c40 b n.rs hg.sm) rfl (fun _ h => h) rfl (fun _ _ h => h) ?_).safe trivial
      rintro v hp ⟨rfl, rfl⟩
      refine ⟨by simp only [recheck, recheck1, go_sem, Nat.reduceBEq, Nat.zero_add], go_ok _ 6 _ _ ?_⟩
      simp only [go_sem, List.cons_append, List.nil_append, Nat.reduceBEq, Nat.zero_add]
      refine Safe.sub ?_ (hrest ⟨⟨p.id, p.b, p.nx, max p.mt (min m.mt n.rs.last), max p.hd m.sq⟩, rfl, hpid, ?_, by simp only; omega, by simp only; omega⟩)
      · exact Sub.front (X := []) ⟨rfl, rfl, rfl, trivial⟩ rfl
      · unfold Rf.Pe.told
        dsimp only
        rw [if_pos (show m.pl.ok = true from hk), hla]
        rfl
    · have hk' : m.pl.mt < p.pl.nx - 1 := of_decide_eq_true hk2
      refine go_ok _ 9 _ _ ?_
      simp only [go_sem, Nat.reduceBEq, Nat.zero_add]
      refine ⟨by simp only [inI64]; omega, ?_⟩
      refine Safe.sub ?_ (hrest ⟨⟨p.id, p.b, m.mt + 1, p.mt, max p.hd m.sq⟩, rfl, hpid, ?_, hm0, hm1⟩)
      · exact Sub.front (X := []) ⟨rfl, rfl, rfl, trivial⟩ rfl
      · unfold Rf.Pe.told
        dsimp only
        rw [if_neg (show ¬ m.pl.ok = true by show ¬ m.ok = true; rw [hk]; decide), if_pos hk']
        rfl
    · have hk' : ¬ m.pl.mt < p.pl.nx - 1 := of_decide_eq_false hk2
      refine go_ok _ 1 _ _ ?_
      simp only [go_sem]
      refine Safe.sub ?_ (hrest ⟨⟨p.id, p.b, p.nx, p.mt, max p.hd m.sq⟩, rfl, hpid, ?_, hm0, hm1⟩)
      · exact Sub.front (X := []) ⟨rfl, rfl, rfl, trivial⟩ rfl
      · unfold Rf.Pe.told
        dsimp only
        rw [if_neg (show ¬ m.pl.ok = true by show ¬ m.ok = true; rw [hk]; decide), if_neg hk']
        rfl
end Go.SX

/- Raft: what may be, by the plain model. -/
namespace Go.SX
open Go.Proofs
set_option maxRecDepth 1000000
variable {E : Env}

theorem isId_eq (n : Int) : Rf.isId n = isIdB n := rfl
theorem rising_iff : ∀ (l : List Int), Rf.rising l = true ↔ ∀ i, i < l.length → okV l i = true
  | [] => by simp [Rf.rising]
  | [x] => by
    simp only [Rf.rising, isId_eq, List.length_singleton]
    constructor
    · intro h i hi
      obtain rfl : i = 0 := by omega
      simpa [okV] using h
    · intro h
      simpa [okV] using h 0 (by omega)
  | x :: y :: r => by
    simp only [Rf.rising, isId_eq, Bool.and_eq_true, decide_eq_true_eq]
    rw [rising_iff (y :: r)]
    constructor
    · rintro ⟨⟨h1, h2⟩, h3⟩ i hi
      match i with
      | 0 => simpa [okV] using h1
      | 1 =>
        have := h3 0 (by simp)
        simp only [okV, List.getD_cons_zero, List.getD_cons_succ] at this ⊢
        simp at this ⊢
        exact ⟨this, h2⟩
      | i + 2 =>
        have := h3 (i + 1) (by simpa using hi)
        simp only [okV, List.getD_cons_succ] at this ⊢
        simpa using this
    · intro h
      refine ⟨⟨by simpa [okV] using h 0 (by simp), ?_⟩, fun i hi => ?_⟩
      · have := h 1 (by simp)
        simp [okV] at this
        exact this.2
      · have := h (i + 1) (by simpa using hi)
        match i with
        | 0 =>
          simp [okV] at this ⊢
          exact this.1
        | i + 1 =>
          simp only [okV, List.getD_cons_succ] at this ⊢
          simpa using this
theorem areV_eq (l : List Int) : Rf.areVoters l = areV l := by
  unfold Rf.areVoters areV
  congr 1
  apply Bool.eq_iff_iff.2
  rw [rising_iff, List.all_eq_true]
  simp
theorem readV2_eq {xs : List UInt8} (hk : ∀ c, beN (chunk8 xs c) < 2 ^ 63) : (Rf.readV xs).2 = areV (rdV xs) := by
  cases hb : badB xs with
  | true =>
    have : rdV xs = [] := by simp [rdV, hb]
    rw [this]
    cases h : (Rf.readV xs).2 with
    | false => rfl
    | true =>
      have := (readV_true h).1
      rw [hb] at this
      cases this
  | false =>
    have h1 := readV_eq hb hk
    rw [← h1, ← areV_eq]
    unfold Rf.readV
    cases xs with
    | nil => simp [badB] at hb
    | cons x r =>
      dsimp only
      split
      · rfl
      · rfl
theorem may_eq (e : Ent) (h : okD e.d.xs) : Rf.may e.pl = mayB e := by
  unfold Rf.may mayB
  have e1 : (Rf.readV e.pl.d).2 = areV (rdV e.d.xs) := readV2_eq h.2
  rw [e1]
  have e2 : decide (e.pl.d.length ≤ 65536) = decide ((e.d.xs.length : Int) ≤ 65536) := by
    apply Bool.eq_iff_iff.2
    simp only [decide_eq_true_eq]
    show e.d.xs.length ≤ 65536 ↔ _
    omega
  rw [e2]
  rfl
theorem row_eq : ∀ (es : List Ent) (ix f t : Int), (∀ e ∈ es, okD e.d.xs) → Rf.row (es.map Ent.pl) ix f t = rowB ix f t es
  | [], _, _, _, _ => rfl
  | e :: r, ix, f, t, h => by
    rw [List.map_cons, Rf.row, rowB, may_eq e (h e (by simp)), row_eq r _ _ _ fun e he => h e (List.mem_cons_of_mem _ he)]
    unfold badE
    have e1 : e.pl.ix = e.ix := rfl
    have e2 : e.pl.tm = e.tm := rfl
    rw [e1, e2]
    congr 1
    by_cases h1 : ix < e.ix <;> by_cases h2 : e.ix - 1 = ix <;> by_cases h3 : f ≤ e.tm <;> by_cases h4 : e.tm ≤ t <;> cases mayB e <;> simp [h1, h2, h3, h4, Int.not_le, Int.not_lt] <;> omega
end Go.SX

/- Raft: which messages may be, by the plain model. -/
namespace Go.SX
open Go.Proofs
set_option maxRecDepth 1000000
variable {E : Env}

def RS.fineM (s : RS) (m : MsL) : Bool :=
  !((((((decide (m.to ≠ s.id) || decide (m.kd < 1)) || decide (5 < m.kd)) || decide (m.fr = s.id)) || !isIdB m.fr) || decide (m.tm < 0)) || decide (4611686018427387904 < m.tm)) &&
  !(decide (m.kd = 5) && (((((decide (m.mi < 1) || decide (999999999999 < m.mi)) || !areV m.mv.xs) || decide (m.mm < 0)) || decide (m.tm < m.mm)) || decide ((8388608 : Int) < m.d.xs.length))) && rowB m.ix m.lt m.tm m.es.xs
theorem nd_fine (n : NL) (m : MsL) (h : ∀ e ∈ m.es.xs, okD e.d.xs) : n.nd.fine m.pl = n.rs.fineM m := by
  unfold Rf.Nd.fine RS.fineM
  have e1 : Rf.row m.pl.es m.pl.ix m.pl.lt m.pl.tm = rowB m.ix m.lt m.tm m.es.xs := row_eq _ _ _ _ h
  have e2 : Rf.areVoters m.pl.me.vs = areV m.mv.xs := areV_eq _
  have e3 : decide (8388608 < m.pl.d.length) = decide ((8388608 : Int) < m.d.xs.length) := by
    apply Bool.eq_iff_iff.2
    simp only [decide_eq_true_eq]
    show 8388608 < m.d.xs.length ↔ _
    omega
  rw [e1, e2, e3]
  rfl
set_option maxHeartbeats 8000000 in
theorem c50r (b : Nat) (s : RS) (m : MsL) (hl : m.es.xs.length ≤ 2 ^ 40) (hd : ∀ e ∈ m.es.xs, okD e.d.xs ∧ -2 ^ 62 ≤ e.ix ∧ e.ix ≤ 2 ^ 62) (hv : m.mv.xs.length < 2 ^ 62) :
    Spec Try.prog E 50 [.ptr 0 b 0, .agg (encM m)] [rC b s] (fun v hp => v = Bl (s.fineM m) ∧ hp = [rC b s]) := by
  refine Spec.leave (Post := fun v hp => v = Bl (s.fineM m) ∧ ∃ X, hp = rC b s :: X) ?_ (fun v hp ⟨h1, X, h2⟩ => ⟨[_], X, h2, h1, rfl⟩)
  generalize hP : (fun (v : SV) (hp : List Chunk) => v = Bl (s.fineM m) ∧ ∃ X, hp = rC b s :: X) = P
  have fin : ∀ (p : Bool) {X : List Chunk}, s.fineM m = p → P (Bl p) (rC b s :: X) := by
    intro p X h
    rw [← hP, h]
    exact ⟨rfl, X, rfl⟩
  refine spec_of (keep := k50) (args' := [.ptr 0 b 0, .agg (encM m)]) Try.func50 rfl Try.ntmps50 s50_ok (by simp) ⟨rfl, fun _ h => h⟩ (fun _ _ h => h) ?_
  rcases d1 : decide (m.to ≠ s.id) with _ | _
  rotate_left
  ·
    refine go_ok _ 100 _ _ ?_
    simp only [go_sem, s50, k50, d1, Nat.reduceBEq, Nat.reduceAdd, Nat.zero_add, Try.results50, reduceCtorEq]
    intro b1
    exact ⟨fin false (X := [_]) (by simp [RS.fineM, d1]), rfl⟩
  rcases d2 : decide (m.kd < 1) with _ | _
  rotate_left
  ·
    refine go_ok _ 100 _ _ ?_
    simp only [go_sem, s50, k50, d1, d2, Nat.reduceBEq, Nat.reduceAdd, Nat.zero_add, Try.results50, reduceCtorEq]
    intro b1
    exact ⟨fin false (X := [_]) (by simp [RS.fineM, d1, d2]), rfl⟩
  rcases d3 : decide (5 < m.kd) with _ | _
  rotate_left
  ·
    refine go_ok _ 100 _ _ ?_
    simp only [go_sem, s50, k50, d1, d2, d3, Nat.reduceBEq, Nat.reduceAdd, Nat.zero_add, Try.results50, reduceCtorEq]
    intro b1
    exact ⟨fin false (X := [_]) (by simp [RS.fineM, d1, d2, d3]), rfl⟩
  rcases d4 : decide (m.fr = s.id) with _ | _
  rotate_left
  ·
    refine go_ok _ 100 _ _ ?_
    simp only [go_sem, s50, k50, d1, d2, d3, d4, Nat.reduceBEq, Nat.reduceAdd, Nat.zero_add, Try.results50, reduceCtorEq]
    intro b1
    exact ⟨fin false (X := [_]) (by simp [RS.fineM, d1, d2, d3, d4]), rfl⟩
  refine go_ok _ 100 _ _ ?_
  simp only [go_sem, s50, k50, d1, d2, d3, d4, Nat.reduceBEq, Nat.reduceAdd, Nat.zero_add, Try.results50, reduceCtorEq]
  intro b1
  refine ⟨?_, rfl⟩
  refine Stp.safeOn ?_ trivial
  refine stp_call [] (args := [I m.fr]) rfl rfl rfl ⟨_, Try.func67, rfl, rfl⟩ (c67 m.fr) rfl (fun _ h => unc_oks h) rfl (fun _ _ h => h) ?_
  rintro v hp ⟨rfl, rfl⟩
  rcases d5 : isIdB m.fr with _ | _
  · refine ⟨trivial, go_ok _ 100 _ _ ?_⟩
    simp only [go_sem, Nat.reduceBEq, Nat.reduceAdd, Nat.zero_add, Try.results50, reduceCtorEq]
    exact fin false (X := [_]) (by simp [RS.fineM, d1, d2, d3, d4, d5])
  rcases d6 : decide (m.tm < 0) with _ | _
  rotate_left
  · refine ⟨trivial, go_ok _ 100 _ _ ?_⟩
    simp only [go_sem, d6, Nat.reduceBEq, Nat.reduceAdd, Nat.zero_add, Try.results50, reduceCtorEq]
    exact fin false (X := [_]) (by simp [RS.fineM, d1, d2, d3, d4, d5, d6])
  rcases d7 : decide (4611686018427387904 < m.tm) with _ | _
  rotate_left
  · refine ⟨trivial, go_ok _ 100 _ _ ?_⟩
    simp only [go_sem, d6, d7, Nat.reduceBEq, Nat.reduceAdd, Nat.zero_add, Try.results50, reduceCtorEq]
    exact fin false (X := [_]) (by simp [RS.fineM, d1, d2, d3, d4, d5, d6, d7])
  rcases d8 : decide (m.kd = 5) with _ | _
  · refine ⟨trivial, go_ok _ 100 _ _ ?_⟩
    simp only [go_sem, d6, d7, d8, Nat.reduceBEq, Nat.reduceAdd, Nat.zero_add, Try.results50, reduceCtorEq]
    refine ⟨?_, rfl⟩
    refine (stp_call [] rfl rfl rfl ⟨_, Try.func68, rfl, rfl⟩ (c68 m.es.a m.es.cap m.es.xs m.ix m.lt m.tm hl hd) rfl (fun _ h => h) rfl (fun _ _ h => h) ?_).safe trivial
    rintro v hp ⟨rfl, rfl⟩
    refine ⟨trivial, go_ok _ 100 _ _ ?_⟩
    simp only [go_sem, Nat.reduceBEq, Try.results50]
    exact fin _ (X := [_]) (by simp [RS.fineM, d1, d2, d3, d4, d5, d6, d7, d8])
  rcases d9 : decide (m.mi < 1) with _ | _
  rotate_left
  · refine ⟨trivial, go_ok _ 100 _ _ ?_⟩
    simp only [go_sem, d6, d7, d8, d9, Nat.reduceBEq, Nat.reduceAdd, Nat.zero_add, Try.results50, reduceCtorEq]
    exact ⟨fin false (X := [_]) (by simp [RS.fineM, d1, d2, d3, d4, d5, d6, d7, d8, d9]), rfl⟩
  rcases d10 : decide (999999999999 < m.mi) with _ | _
  rotate_left
  · refine ⟨trivial, go_ok _ 100 _ _ ?_⟩
    simp only [go_sem, d6, d7, d8, d9, d10, Nat.reduceBEq, Nat.reduceAdd, Nat.zero_add, Try.results50, reduceCtorEq]
    exact ⟨fin false (X := [_]) (by simp [RS.fineM, d1, d2, d3, d4, d5, d6, d7, d8, d9, d10]), rfl⟩
  refine ⟨trivial, go_ok _ 100 _ _ ?_⟩
  simp only [go_sem, d6, d7, d8, d9, d10, Nat.reduceBEq, Nat.reduceAdd, Nat.zero_add, Try.results50, reduceCtorEq]
  refine ⟨?_, rfl⟩
  refine Stp.safeOn ?_ trivial
  refine stp_call [] (args := [vI m.mv.a m.mv.cap m.mv.xs]) rfl rfl rfl ⟨_, Try.func59, rfl, rfl⟩ (c59 m.mv.a m.mv.cap m.mv.xs hv) rfl (fun _ h => unc_oks h) rfl (fun _ _ h => h) ?_
  rintro v hp ⟨rfl, rfl⟩
  rcases d11 : areV m.mv.xs with _ | _
  · refine ⟨trivial, go_ok _ 100 _ _ ?_⟩
    simp only [go_sem, Nat.reduceBEq, Nat.reduceAdd, Nat.zero_add, Try.results50, reduceCtorEq]
    exact fin false (X := [_]) (by simp [RS.fineM, d1, d2, d3, d4, d5, d6, d7, d8, d9, d10, d11])
  rcases d12 : decide (m.mm < 0) with _ | _
  rotate_left
  · refine ⟨trivial, go_ok _ 100 _ _ ?_⟩
    simp only [go_sem, d12, Nat.reduceBEq, Nat.reduceAdd, Nat.zero_add, Try.results50, reduceCtorEq]
    exact fin false (X := [_]) (by simp [RS.fineM, d1, d2, d3, d4, d5, d6, d7, d8, d9, d10, d11, d12])
  rcases d13 : decide (m.tm < m.mm) with _ | _
  rotate_left
  · refine ⟨trivial, go_ok _ 100 _ _ ?_⟩
    simp only [go_sem, d12, d13, Nat.reduceBEq, Nat.reduceAdd, Nat.zero_add, Try.results50, reduceCtorEq]
    exact fin false (X := [_]) (by simp [RS.fineM, d1, d2, d3, d4, d5, d6, d7, d8, d9, d10, d11, d12, d13])
  rcases d14 : decide ((8388608 : Int) < m.d.xs.length) with _ | _
  rotate_left
  · refine ⟨trivial, go_ok _ 100 _ _ ?_⟩
    simp only [go_sem, d12, d13, d14, Nat.reduceBEq, Nat.reduceAdd, Nat.zero_add, Try.results50, reduceCtorEq]
    exact fin false (X := [_]) (by simp [RS.fineM, d1, d2, d3, d4, d5, d6, d7, d8, d9, d10, d11, d12, d13, d14])
  refine ⟨trivial, go_ok _ 100 _ _ ?_⟩
  simp only [go_sem, d12, d13, d14, Nat.reduceBEq, Nat.reduceAdd, Nat.zero_add, Try.results50, reduceCtorEq]
  refine (stp_call [] rfl rfl rfl ⟨_, Try.func68, rfl, rfl⟩ (c68 m.es.a m.es.cap m.es.xs m.ix m.lt m.tm hl hd) rfl (fun _ h => h) rfl (fun _ _ h => h) ?_).safe trivial
  rintro v hp ⟨rfl, rfl⟩
  refine ⟨trivial, go_ok _ 100 _ _ ?_⟩
  simp only [go_sem, Nat.reduceBEq, Try.results50]
  exact fin _ (X := [_]) (by simp [RS.fineM, d1, d2, d3, d4, d5, d6, d7, d8, d9, d10, d11, d12, d13, d14])
theorem c50p (b : Nat) (n : NL) (m : MsL) {k : Nat} (hm : m.pl.fit k) (hk : k ≤ 2 ^ 30) : Spec Try.prog E 50 [.ptr 0 b 0, .agg (encM m)] (nO b n) (fun v hp => v = Bl (n.nd.fine m.pl) ∧ hp = nO b n) := by
  have hok : ∀ e ∈ m.es.xs, okD e.d.xs ∧ -2 ^ 62 ≤ e.ix ∧ e.ix ≤ 2 ^ 62 := by
    intro e he
    have hmm : e.pl ∈ m.pl.es := List.mem_map_of_mem he
    obtain ⟨h1, h2, h3⟩ := hm.es _ hmm
    have h2 : 0 ≤ e.ix := h2
    have h3 : e.ix ≤ k := h3
    exact ⟨⟨Nat.le_trans h1.d.1 (by decide), h1.d.2⟩, by omega, by omega⟩
  have hl : m.es.xs.length ≤ 2 ^ 40 := by
    have h1 := hm.i0
    have h2 := hm.i1
    have e : m.pl.es.length = m.es.xs.length := by show (m.es.xs.map Ent.pl).length = _; rw [List.length_map]
    omega
  have hv : m.mv.xs.length ≤ 7 := hm.vl
  rw [nd_fine n m fun e he => (hok e he).1]
  refine ((c50r b n.rs m hl hok (by omega)).beside _).post ?_
  rintro v hp ⟨hp', ⟨rfl, rfl⟩, rfl⟩
  exact ⟨rfl, rfl⟩
end Go.SX

/- Raft: a message is taken (Step), by the plain model. -/
namespace Go.SX
open Go.Proofs
set_option maxRecDepth 1000000
variable {E : Env}

/-- a map that is nil has nothing -/
theorem oth_lookupN {κ : Type} {K : KV κ} {C : Ctx} {st : St} {t kt e ty : TypeId} {m kx : Operand} {mo ko : Opd} {x : κ} {z : Value} (hmo : copd m = some mo) (hko : copd kx = some ko) (hu : C.P.underlying t = some (.map kt e)) (hk : C.P.underlying kt = some K.d)
    (hm : opv st.env mo = some (.val (.map none))) (hkv : opv st.env ko = some (.val (K.v x))) (hz : (C.P.info? e).bind (·.zero) = some z) :
    OthV C st (.lookup t m kx true) ty (.tup [.val z, .val (.bool false)]) := by
  intro ro H F a w g
  obtain ⟨e1, _⟩ := opv_ok g hmo hm
  obtain ⟨e2, _⟩ := opv_ok g hko hkv
  simp only [SV.den] at e1 e2
  have hinf : ∃ i, C.P.info? e = some i ∧ i.zero = some z := by
    cases hi : C.P.info? e with
    | none => rw [hi] at hz; cases hz
    | some i => rw [hi] at hz; exact ⟨i, rfl, hz⟩
  obtain ⟨i, hi, hz'⟩ := hinf
  have hzero : (zeroValue e).run C.P w = .ok z w := by simp [zeroValue, typeInfo, hi, hz', Result.andThen]
  have hck := MapKept.run_checkKey (w := w) hk (K.key x) (#[] : Array MapEntry).isEmpty 9999
  have hf := MapKept.run_findKey (w := w) (l := (#[] : Array MapEntry).toList) (k := K.v x) (a := none) hk rfl
  refine ⟨?_, by simp [SV.ok, SV.oks]⟩
  simp only [execOp, oper0, Instr.lookup, Sem.run_bind, run_underlying hu, Result.andThen, e1, e2, Sem.run_pure, hck, hf, hzero]
  simp [SV.den, SV.dens]
def NL.laterM (n : NL) (t : Int) : NL := { n with s := { n.s with hT := t, hV := -1 } }
theorem nd_later (n : NL) (t : Int) : (n.laterM t).followed.nd = n.nd.later t := rfl
set_option maxHeartbeats 4000000 in
theorem c22p (b : Nat) (n : NL) (m : MsL) {k j : Nat} (h : n.nd.inv k j) (hm : m.pl.fit k) (hk1 : k + 2 ≤ 2 ^ 30) (hj : j + 21 ≤ 2 ^ 28) :
    Spec Try.prog E 22 [.ptr 0 b 0, .agg (encM m)] (nO b n) (fun _ hp => ∃ n' : NL, n'.nd = n.nd.step m.pl ∧ hp = nO b n') := by
  refine Spec.see2 ?_
  generalize hP : SeeP _ = P
  have fin : ∀ (r : SV) (n' : NL) {X : List Chunk}, n'.nd = n.nd.step m.pl → P r (nO b n' ++ X) := by
    intro r n' X h1
    rw [← hP]
    exact ⟨r, _, rfl, fun _ h => h, Sees.left, n', h1, rfl⟩
  have hst := Rf.step_eq n.nd m.pl
  refine spec_of (keep := k22) (args' := [.ptr 0 b 0, .agg (encM m)]) Try.func22 rfl Try.ntmps22 s22_ok (by simp) ⟨rfl, fun _ h => h⟩ (fun _ _ h => h) (go_ok _ 100 _ _ ?_)
  simp only [go_sem, s22, k22, Nat.reduceBEq, Nat.reduceAdd, Nat.zero_add]
  intro b1
  refine (stp_call [0, 1, 2, 3, 4, 5, 6] (args := [.ptr 0 b 0, .agg (encM m)]) rfl rfl rfl ⟨_, Try.func50, rfl, rfl⟩ (c50p b n m hm (by omega)) rfl (fun _ h => h) rfl (fun _ _ h => h) ?_).safe trivial
  rintro v hp ⟨rfl, rfl⟩
  refine ⟨trivial, go_ok _ 16 _ _ ?_⟩
  simp only [go_sem, List.cons_append, List.nil_append, Nat.reduceBEq, Nat.reduceAdd, Nat.zero_add, Try.results22]
  refine ⟨fun hf => ?_, fun hf => ?_⟩
  · have hf' : n.nd.fine m.pl = false := by simpa using hf
    rw [if_pos hf'] at hst
    exact fin _ n (X := [_]) hst.symm
  have hf' : n.nd.fine m.pl = true := by simpa using hf
  rw [if_neg (by rw [hf']; decide)] at hst
  have hfN : ∀ N : Rf.Nd, N = (if n.nd.hd.tm < m.pl.tm then n.nd.later m.pl.tm else n.nd) → N.inv k j ∧ N.fine m.pl = true := by
    rintro N rfl
    split
    · exact ⟨Rf.inv_later h.toFit hm.t0 hm.t1, hf'⟩
    · exact ⟨h, hf'⟩
  refine safe_code_mid (ι := {N : NL // N.nd = if n.nd.hd.tm < m.pl.tm then n.nd.later m.pl.tm else n.nd}) (fun N => ⟨[(0, .ptr 0 b 0), (3, .ptr 7 b1 0)], nO b N.1 ++ [.cells b1 54 (encM m)]⟩) ?_ ?_
  · rintro ⟨N, hN⟩
    obtain ⟨hi, hfi⟩ := hfN N.nd hN
    dsimp only at hst
    rw [← hN] at hst
    have hg := fit_good hi.toFit (show k ≤ 2 ^ 30 by omega)
    rcases d0 : decide (m.tm < N.rs.hT) with _ | _
    rotate_left
    · have hc : m.pl.tm < N.nd.hd.tm := of_decide_eq_true d0
      rw [if_pos hc] at hst
      refine go_ok _ 100 _ _ ?_
      simp only [go_sem, d0, List.cons_append, List.nil_append, Nat.reduceBEq, Nat.reduceAdd, Nat.zero_add, Try.results22, reduceCtorEq]
      refine (stp_call [0, 1, 2, 3, 4, 5, 6] (args := [.ptr 0 b 0, .agg (encM m)]) rfl rfl rfl ⟨_, Try.func52, rfl, rfl⟩ (c52n b N m (fit_small hi.toFit (by omega) (by omega))) rfl (fun _ h => h) rfl (fun _ _ h => h) ?_).safe trivial
      rintro v hp ⟨w, l, -, hnd, rfl⟩
      refine ⟨trivial, go_ok _ 100 _ _ ?_⟩
      simp only [go_sem, List.cons_append, List.nil_append, Nat.reduceBEq, Try.results22]
      exact fin _ (N.sent w l) (X := [_]) (by rw [hnd, hst])
    have hc : ¬ m.pl.tm < N.nd.hd.tm := of_decide_eq_false d0
    rw [if_neg hc] at hst
    rcases d1 : decide (m.kd = 1) with _ | _
    rotate_left
    · have hc1 : m.pl.kd = 1 := of_decide_eq_true d1
      rw [if_pos hc1] at hst
      refine go_ok _ 100 _ _ ?_
      simp only [go_sem, d0, d1, List.cons_append, List.nil_append, Nat.reduceBEq, Nat.reduceAdd, Nat.zero_add, Try.results22, reduceCtorEq]
      refine (stp_call [0, 1, 2, 3, 4, 5, 6] (args := [.ptr 0 b 0, .agg (encM m)]) rfl rfl rfl ⟨_, Try.func53, rfl, rfl⟩ (c53p b N m hi (by omega) (by omega)) rfl (fun _ h => h) rfl (fun _ _ h => h) ?_).safe trivial
      rintro v hp ⟨N2, hN2, rfl⟩
      refine ⟨trivial, go_ok _ 100 _ _ ?_⟩
      simp only [go_sem, List.cons_append, List.nil_append, Nat.reduceBEq, Try.results22]
      exact fin _ N2 (X := [_]) (by rw [hN2, hst])
    have hc1 : ¬ m.pl.kd = 1 := of_decide_eq_false d1
    rw [if_neg hc1] at hst
    rcases d2 : decide (m.kd = 2) with _ | _
    rotate_left
    · have hc2 : m.pl.kd = 2 := of_decide_eq_true d2
      rw [if_pos hc2] at hst
      have hvt : N.rs.votes = .osl 1 N.wv.nl N.wv.b N.wv.off N.votes.length N.wv.cap := rfl
      have hvl : N.votes.length ≤ k := hi.vt
      have hcon : ∀ (l : List Int) (x : Int), l.contains x = decide (x ∈ l) := by
        intro l x
        by_cases hx : x ∈ l
        · rw [decide_eq_true hx]; exact List.contains_iff_mem.2 hx
        · rw [decide_eq_false hx]; simpa using hx
      have hvs := nd_voters hg
      rw [hvs, hcon, hcon] at hst
      have hvsl : (N.rs.vs N.o).length ≤ 7 := (hg.vlen N.rs.last).2
      rcases d5 : decide (N.rs.role = 1) with _ | _
      · have h5 : ¬ N.nd.role = 1 := of_decide_eq_false d5
        rw [if_neg (fun q => h5 q.1)] at hst
        refine go_ok _ 100 _ _ ?_
        simp only [go_sem, d0, d1, d2, d5, List.cons_append, List.nil_append, Nat.reduceBEq, Nat.reduceAdd, Nat.zero_add, Try.results22, reduceCtorEq]
        exact ⟨⟨⟨fin _ N (X := [_]) hst.symm, rfl⟩, rfl⟩, rfl⟩
      have h5 : N.nd.role = 1 := of_decide_eq_true d5
      rcases d6 : m.ok with _ | _
      · have h6 : ¬ m.pl.ok = true := by show ¬ m.ok = true; rw [d6]; decide
        rw [if_neg (fun q => h6 q.2.1)] at hst
        refine go_ok _ 100 _ _ ?_
        simp only [go_sem, d0, d1, d2, d5, d6, List.cons_append, List.nil_append, Nat.reduceBEq, Nat.reduceAdd, Nat.zero_add, Try.results22, reduceCtorEq]
        exact ⟨⟨⟨fin _ N (X := [_]) hst.symm, rfl⟩, rfl⟩, rfl⟩
      have h6 : m.pl.ok = true := d6
      refine go_ok _ 100 _ _ ?_
      simp only [go_sem, d0, d1, d2, d5, d6, hvt, List.cons_append, List.nil_append, Nat.reduceBEq, Nat.reduceAdd, Nat.zero_add, Try.results22, reduceCtorEq]
      refine ⟨?_, rfl⟩
      refine Stp.safeOn ?_ trivial
      refine stp_call [1] (args := [.osl 0 N.wv.nl N.wv.b N.wv.off N.votes.length N.wv.cap, I m.fr]) rfl rfl rfl ⟨_, Try.func54, rfl, rfl⟩ (c54o N.wv.nl N.wv.b N.wv.off N.wv.cap N.votes m.fr (by omega)) rfl (fun _ h => by simp [SV.oks, SV.ok]) rfl (fun _ _ h => h) ?_
      rintro v hp ⟨rfl, rfl⟩
      rcases d7 : decide (m.fr ∈ N.votes) with _ | _
      rotate_left
      · have h7 : m.pl.fr ∈ N.nd.votes := of_decide_eq_true d7
        rw [if_neg (fun q => by have := of_decide_eq_false q.2.2.1; exact this h7)] at hst
        refine ⟨trivial, go_ok _ 100 _ _ ?_⟩
        simp only [go_sem, List.cons_append, List.nil_append, Nat.reduceBEq, Nat.reduceAdd, Nat.zero_add, Try.results22, reduceCtorEq]
        exact ⟨⟨fin _ N (X := [_]) hst.symm, rfl⟩, rfl⟩
      have h7 : ¬ m.pl.fr ∈ N.nd.votes := of_decide_eq_false d7
      refine ⟨trivial, go_ok _ 100 _ _ ?_⟩
      simp only [go_sem, List.cons_append, List.nil_append, Nat.reduceBEq, Nat.reduceAdd, Nat.zero_add, Try.results22, reduceCtorEq]
      refine ⟨?_, rfl⟩
      refine Stp.safeOn ?_ trivial
      refine stp_call [0] (args := [.ptr 0 b 0]) rfl rfl rfl ⟨_, Try.func26, rfl, rfl⟩ (c26 8 b N.rs N.o hg) rfl (fun _ h => by simp [SV.oks, SV.ok]) rfl (fun _ _ h => h) ?_
      rintro v hp ⟨nl, b', off, cap', rfl, rfl⟩
      refine ⟨by simp only [recheck, recheck1, go_sem, Nat.reduceBEq, Nat.zero_add], go_ok _ 100 _ _ ?_⟩
      simp only [go_sem, List.cons_append, List.nil_append, Nat.reduceBEq, Nat.reduceAdd, Nat.zero_add, Try.results22, reduceCtorEq]
      refine ⟨?_, rfl⟩
      refine Stp.safeOn ?_ trivial
      refine stp_call [8] (args := [.osl 0 nl b' off (N.rs.vs N.o).length cap', I m.fr]) rfl rfl rfl ⟨_, Try.func54, rfl, rfl⟩ (c54o nl b' off cap' (N.rs.vs N.o) m.fr (by omega)) rfl (fun _ h => by simp [SV.oks, SV.ok]) rfl (fun _ _ h => h) ?_
      rintro v hp ⟨rfl, rfl⟩
      rcases d8 : decide (m.fr ∈ N.rs.vs N.o) with _ | _
      · have h8 : ¬ m.pl.fr ∈ N.rs.vs N.o := of_decide_eq_false d8
        rw [if_neg (fun q => h8 (of_decide_eq_true q.2.2.2))] at hst
        refine ⟨trivial, go_ok _ 100 _ _ ?_⟩
        simp only [go_sem, List.cons_append, List.nil_append, Nat.reduceBEq, Nat.reduceAdd, Nat.zero_add, Try.results22, reduceCtorEq]
        exact fin _ N (X := [_, _]) hst.symm
      have h8 : m.pl.fr ∈ N.rs.vs N.o := of_decide_eq_true d8
      rw [if_pos ⟨h5, h6, decide_eq_false h7, decide_eq_true h8⟩] at hst
      refine ⟨trivial, go_ok _ 100 _ _ ?_⟩
      simp only [go_sem, hvt, List.cons_append, List.nil_append, Nat.reduceBEq, Nat.reduceAdd, Nat.zero_add, Try.results22, reduceCtorEq]
      intro b2
      refine (stp_app2 (c := 1) (b := N.wv.b) (off := N.wv.off) (nl := N.wv.nl) (n := N.votes.length) (cap := N.wv.cap) (x := .osl 9 false b2 0 1 1) (gx := litF 1 [I m.fr]) (m := 1) (f := rowsV encI N.votes) (f2 := rowsV encI (N.votes ++ [m.fr])) (N := N.votes.length + 1) rfl rfl rfl rfl ⟨rfl, rfl, rfl, rfl, by decide⟩ (fun i j hi hj => ?_) (by omega) rfl (fun i j hi hj => app_one (enc := encI) (y := m.fr) i j hi hj) fun nl2 b3 off2 cap2 => ?_).safe trivial
      · obtain rfl : i = 0 := by omega
        obtain rfl : j = 0 := by omega
        simp [litF, one, Value.oneCell']
      refine ⟨by simp only [recheck, recheck1, go_sem, Nat.reduceBEq], go_ok _ 3 _ _ ?_⟩
      simp only [go_sem, Nat.reduceBEq, Nat.zero_add]
      refine safe_sees (hp' := nO b { N with wv := ⟨nl2, b3, off2, cap2⟩, votes := N.votes ++ [m.fr] }) ?_ ?_
      · refine Sees.trans (Sees.left (a := [_, _, _, _, _, _, _]) (X := [_, _, _])) ?_
        simp only [nO, NL.rs, Rw.ch, Rw.sv, List.length_append, List.length_singleton]
        exact Sees.refl _
      have hi2 : ({ N with wv := ⟨nl2, b3, off2, cap2⟩, votes := N.votes ++ [m.fr] } : NL).nd.inv (k + 1) j :=
        ⟨{ (hi.mono (Nat.le_succ k) (Nat.le_refl j)).toFit with vt := by show (N.votes ++ [m.fr]).length ≤ _; rw [List.length_append, List.length_singleton]; omega }, hi.ro, hi.kn⟩
      have hst2 : n.nd.step m.pl = ({ N with wv := ⟨nl2, b3, off2, cap2⟩, votes := N.votes ++ [m.fr] } : NL).nd.elected := hst
      generalize ({ N with wv := ⟨nl2, b3, off2, cap2⟩, votes := N.votes ++ [m.fr] } : NL) = N2 at *
      refine go_ok _ 100 _ _ ?_
      simp only [go_sem, List.nil_append, Nat.reduceBEq]
      refine (stp_call [0, 1, 2, 3, 4, 5, 6] (args := [.ptr 0 b 0]) rfl rfl rfl ⟨_, Try.func55, rfl, rfl⟩ (c55p b N2 hi2 (by omega) (by omega)) rfl (fun _ h => h) rfl (fun _ _ h => h) ?_).safe trivial
      rintro v hp ⟨n3, hn3, rfl⟩
      refine ⟨trivial, go_ok _ 100 _ _ ?_⟩
      simp only [go_sem, List.cons_append, List.nil_append, Nat.reduceBEq, Try.results22]
      exact fin _ n3 (X := []) (by rw [hn3, hst2])
    have hc2 : ¬ m.pl.kd = 2 := of_decide_eq_false d2
    rw [if_neg hc2] at hst
    rcases d4 : decide (m.kd = 4) with _ | _
    rotate_left
    · have hc4 : m.pl.kd = 4 := of_decide_eq_true d4
      rw [if_pos hc4] at hst
      rcases hpm : N.pm with _ | M
      · have hpe : N.nd.peers = none := by show N.pm.map _ = none; rw [hpm]; rfl
        rw [hpe] at hst
        have hrp : N.rs.peers = .val (.map none) := by show SV.val (.map N.pm) = _; rw [hpm]
        refine go_ok _ 100 _ _ ?_
        simp only [go_sem, d0, d1, d2, d4, hrp, List.cons_append, List.nil_append, Nat.reduceBEq, Nat.reduceAdd, Nat.zero_add, Try.results22, reduceCtorEq]
        refine safe_oth (oth_lookupN (K := kvI) (x := m.fr) (z := .pointer none) (mo := .t 97) (ko := .t 99) rfl rfl Try.underlying92 (by kernel_rfl) rfl rfl (by kernel_rfl)) trivial ?_
        refine go_ok _ 100 _ _ ?_
        simp only [go_sem, List.cons_append, List.nil_append, Nat.reduceBEq, Nat.zero_add, Try.results22]
        exact fin _ N (X := [_]) hst.symm
      · have hpe : N.nd.peers = some (N.peers.map fun p => (p.id, p.pl)) := by simp only [NL.nd, hpm]; rfl
        rw [hpe, Option.getD_some] at hst
        have hff : (N.peers.map fun p => (p.id, p.pl)).find? (fun p => p.1 == m.pl.fr) = (fndP N.peers m.fr).map fun i => ((N.peers.getD i default).id, (N.peers.getD i default).pl) := find_pl N.peers m.fr
        rw [hff] at hst
        have hrp : N.rs.peers = .val (.map (some M)) := by show SV.val (.map N.pm) = _; rw [hpm]
        refine go_ok _ 100 _ _ ?_
        simp only [go_sem, d0, d1, d2, d4, hrp, hpm, pmC, List.cons_append, List.nil_append, Nat.reduceBEq, Nat.reduceAdd, Nat.zero_add, Try.results22, reduceCtorEq]
        refine safe_oth (oth_lookup (K := kvI) (x := m.fr) (b := M) (es := N.peers.map fun p => (p.id, .ptr 0 p.b 0)) (z := .pointer none) (mo := .t 97) (ko := .t 99) 5 rfl rfl Try.underlying92 (by kernel_rfl) rfl rfl rfl (by kernel_rfl)) trivial ?_
        rw [look_pm]
        refine safe_sees (hp' := nO b N ++ [.cells b1 54 (encM m)]) (by simp only [nO, hpm, pmC]; exact Sees.refl _) ?_
        rcases hf : fndP N.peers m.fr with _ | i
        · rw [hf] at hst
          refine go_ok _ 100 _ _ ?_
          simp only [go_sem, Option.map_none, Option.getD_none, Option.isSome_none, List.cons_append, List.nil_append, Nat.reduceBEq, Nat.zero_add, Try.results22]
          exact fin _ N (X := [_]) hst.symm
        · rw [hf] at hst
          obtain ⟨p, hp1, hp2⟩ := fndP_some hf
          have hpd : N.peers.getD i default = p := by rw [List.getD_eq_getElem?_getD, hp1]; rfl
          simp only [Option.map_some, Option.isSome_some, true_and] at hst
          rcases d9 : decide (N.rs.role = 2) with _ | _
          · have h9 : ¬ N.nd.role = 2 := of_decide_eq_false d9
            rw [if_neg h9] at hst
            refine go_ok _ 100 _ _ ?_
            simp only [go_sem, d9, hpd, Option.map_some, Option.getD_some, Option.isSome_some, List.cons_append, List.nil_append, Nat.reduceBEq, Nat.zero_add, Try.results22, reduceCtorEq]
            exact fin _ N (X := [_]) hst.symm
          · have h9 : N.nd.role = 2 := of_decide_eq_true d9
            rw [if_pos h9] at hst
            refine go_ok _ 100 _ _ ?_
            simp only [go_sem, d9, hpd, Option.map_some, Option.getD_some, Option.isSome_some, List.cons_append, List.nil_append, Nat.reduceBEq, Nat.zero_add, Try.results22, reduceCtorEq]
            refine (stp_call [0, 1, 2, 3, 4, 5, 6] (args := [.ptr 0 b 0, .ptr 0 p.b 0, .agg (encM m)]) rfl rfl rfl ⟨_, Try.func56, rfl, rfl⟩ (c56p b N m i p hi hm h9 hf hp1 (by rw [hpm]; rfl) (by omega) (by omega)) rfl (fun _ h => h) rfl (fun _ _ h => h) ?_).safe trivial
            rintro v hp ⟨N2, hN2, rfl⟩
            refine ⟨trivial, go_ok _ 100 _ _ ?_⟩
            simp only [go_sem, List.cons_append, List.nil_append, Nat.reduceBEq, Try.results22]
            exact fin _ N2 (X := [_]) (by rw [hN2, hst])
    have hc4 : ¬ m.pl.kd = 4 := of_decide_eq_false d4
    rw [if_neg hc4] at hst
    rcases d3 : decide (m.kd = 3) with _ | _
    · refine go_ok _ 100 _ _ ?_
      simp only [go_sem, d0, d1, d2, d3, d4, List.cons_append, List.nil_append, Nat.reduceBEq, Nat.reduceAdd, Nat.zero_add, Try.results22]
      refine (stp_call [0, 1, 2, 3, 4, 5, 6] (args := [.ptr 0 b 0, .agg (encM m)]) rfl rfl rfl ⟨_, Try.func57, rfl, rfl⟩ (c57p b N m hi hm hfi (by omega) (by omega)) rfl (fun _ h => h) rfl (fun _ _ h => h) ?_).safe trivial
      rintro v hp ⟨N2, hN2, rfl⟩
      refine ⟨trivial, go_ok _ 100 _ _ ?_⟩
      simp only [go_sem, List.cons_append, List.nil_append, Nat.reduceBEq, Try.results22]
      exact fin _ N2 (X := [_]) (by rw [hN2, hst])
    · refine go_ok _ 100 _ _ ?_
      simp only [go_sem, d0, d1, d2, d3, d4, List.cons_append, List.nil_append, Nat.reduceBEq, Nat.reduceAdd, Nat.zero_add, Try.results22, reduceCtorEq]
      refine (stp_call [0, 1, 2, 3, 4, 5, 6] (args := [.ptr 0 b 0, .agg (encM m)]) rfl rfl rfl ⟨_, Try.func57, rfl, rfl⟩ (c57p b N m hi hm hfi (by omega) (by omega)) rfl (fun _ h => h) rfl (fun _ _ h => h) ?_).safe trivial
      rintro v hp ⟨N2, hN2, rfl⟩
      refine ⟨trivial, go_ok _ 100 _ _ ?_⟩
      simp only [go_sem, List.cons_append, List.nil_append, Nat.reduceBEq, Try.results22]
      exact fin _ N2 (X := [_]) (by rw [hN2, hst])
  · intro hrest
    have hhT : n.rs.hT = n.nd.hd.tm := rfl
    refine go_ok _ 1 _ _ ?_
    simp only [go_sem, Nat.reduceBEq]
    refine ⟨fun hc => ?_, fun hc => ?_⟩
    · have hc' : n.nd.hd.tm < m.pl.tm := of_decide_eq_true hc
      refine go_ok _ 17 _ _ ?_
      simp only [go_sem, Nat.reduceBEq, Nat.reduceAdd, Nat.zero_add]
      refine (stp_call [0, 1, 2, 3, 4, 5, 6] (args := [.ptr 0 b 0]) rfl rfl rfl ⟨_, Try.func51, rfl, rfl⟩ (c51n b (n.laterM m.tm)) rfl (fun _ h => h) rfl (fun _ _ h => h) ?_).safe trivial
      rintro v hp rfl
      refine ⟨trivial, go_ok _ 1 _ _ ?_⟩
      simp only [go_sem, List.cons_append, List.nil_append, Nat.reduceBEq]
      refine Safe.sub ?_ (hrest ⟨(n.laterM m.tm).followed, by rw [if_pos hc', nd_later]; rfl⟩)
      exact Sub.front (X := []) ⟨rfl, rfl, trivial⟩ rfl
    · have hc' : ¬ n.nd.hd.tm < m.pl.tm := of_decide_eq_false hc
      refine go_ok _ 1 _ _ ?_
      simp only [go_sem]
      refine Safe.sub ?_ (hrest ⟨n, by rw [if_neg hc']⟩)
      exact Sub.front (X := []) ⟨rfl, rfl, trivial⟩ rfl
end Go.SX

/- Raft: a node begins, by the plain model. -/
namespace Go.SX
open Go.Proofs
set_option maxRecDepth 1000000
variable {E : Env}

def numB (n : Int) : Bool := decide (0 ≤ n) && decide (n ≤ 4611686018427387904)
theorem c66 (n : Int) : Spec Try.prog E 66 [I n] [] (fun v hp => v = Bl (numB n) ∧ hp = []) := by
  refine spec_of (keep := k66) (args' := [I n]) Try.func66 rfl Try.ntmps66 s66_ok (by simp) ⟨rfl, fun _ h => h⟩ (fun _ _ h => h) (go_ok _ 100 _ _ ?_)
  simp only [go_sem, s66, k66, Nat.reduceBEq, Try.results66]
  simp [numB]

set_option maxHeartbeats 2000000 in
theorem c34g (id : Int) (a : Option Addr) (cap : Nat) (vs : List Int) (t v c : Int) (mi mm : Int) (ma : Option Addr) (mc : Nat) (mv : List Int) (la : Option Addr) (lc : Nat) (es : List Ent) (hid : isIdB id = true) (hvs : areV vs = true) (ht : 0 ≤ t ∧ t ≤ 2 ^ 62) (hv : -1 ≤ v) (hc : 0 ≤ c)
    (hmi : 0 ≤ mi ∧ mi ≤ 2 ^ 62) (hmm : 0 ≤ mm ∧ mm ≤ 2 ^ 62) (hmv : mi = 0 ∨ areV mv = true) (hmvl : mv.length < 2 ^ 62) (hrow : Spec Try.prog E 68 [vE la lc es, I mi, I mm, I 4611686018427387904] [] (fun v hp => v = Bl true ∧ hp = [])) :
    Spec Try.prog E 34 [I id, vI a cap vs, .agg [I t, I v, I c], .agg [I mi, I mm, vI ma mc mv], vE la lc es] [] (fun v _ => v = Bl true) := by
  have hl : vs.length ≤ 7 := by
    simp only [areV, Bool.and_eq_true, decide_eq_true_eq] at hvs
    exact hvs.2.2
  refine spec_of (keep := k34) (args' := [I id, vI a cap vs, .agg [I t, I v, I c], .agg [I mi, I mm, vI ma mc mv], vE la lc es]) Try.func34 rfl Try.ntmps34 s34_ok (by simp) ⟨rfl, fun _ h => h⟩ (fun _ _ h => h) (go_ok _ 100 _ _ ?_)
  simp only [go_sem, s34, k34, Nat.reduceBEq, Nat.reduceAdd, Nat.zero_add]
  intro b1 b2
  refine (stp_call [] rfl rfl rfl ⟨_, Try.func67, rfl, rfl⟩ (c67 id) rfl (fun _ h => h) rfl (fun _ _ h => h) ?_).safe trivial
  rintro v hp ⟨rfl, rfl⟩
  rw [hid]
  refine ⟨by simp only [recheck, go_sem], go_ok _ 100 _ _ ?_⟩
  simp only [go_sem, Nat.reduceBEq, Nat.zero_add, reduceCtorEq]
  refine ⟨?_, rfl⟩
  refine Stp.safeOn ?_ trivial
  refine stp_call [] (args := [vI a cap vs]) rfl rfl rfl ⟨_, Try.func59, rfl, rfl⟩ (c59 a cap vs (by omega)) rfl (fun _ h => unc_oks h) rfl (fun _ _ h => h) ?_
  rintro v' hp ⟨rfl, rfl⟩
  rw [hvs]
  refine ⟨trivial, go_ok _ 100 _ _ ?_⟩
  simp only [go_sem, Nat.reduceBEq, Nat.zero_add, reduceCtorEq]
  refine ⟨?_, rfl⟩
  refine Stp.safeOn ?_ trivial
  refine stp_call [] (args := [I t]) rfl rfl rfl ⟨_, Try.func66, rfl, rfl⟩ (c66 t) rfl (fun _ h => unc_oks h) rfl (fun _ _ h => h) ?_
  rintro v' hp ⟨rfl, rfl⟩
  have : numB t = true := by simp [numB]; omega
  rw [this]
  refine ⟨by simp only [recheck, go_sem], go_ok _ 100 _ _ ?_⟩
  have e1 : decide (-1 ≤ v) = true := by simpa using hv
  have e2 : decide (0 ≤ c) = true := by simpa using hc
  simp only [go_sem, e1, e2, Nat.reduceBEq, Nat.zero_add, reduceCtorEq]
  refine ⟨?_, rfl⟩
  refine Stp.safeOn ?_ trivial
  refine stp_call [] (args := [I mi]) rfl rfl rfl ⟨_, Try.func66, rfl, rfl⟩ (c66 mi) rfl (fun _ h => unc_oks h) rfl (fun _ _ h => h) ?_
  rintro v' hp ⟨rfl, rfl⟩
  rw [show numB mi = true by simp [numB]; omega]
  refine ⟨by simp only [recheck, go_sem], go_ok _ 100 _ _ ?_⟩
  simp only [go_sem, Nat.reduceBEq, Nat.zero_add, reduceCtorEq]
  refine ⟨?_, rfl⟩
  refine Stp.safeOn ?_ trivial
  refine stp_call [] (args := [I mm]) rfl rfl rfl ⟨_, Try.func66, rfl, rfl⟩ (c66 mm) rfl (fun _ h => unc_oks h) rfl (fun _ _ h => h) ?_
  rintro v' hp ⟨rfl, rfl⟩
  rw [show numB mm = true by simp [numB]; omega]
  rcases d0 : decide (mi = 0) with _ | _
  · have hv1 : areV mv = true := hmv.resolve_left (of_decide_eq_false d0)
    refine ⟨by simp only [recheck, go_sem], go_ok _ 100 _ _ ?_⟩
    simp only [go_sem, d0, Nat.reduceBEq, Nat.zero_add, reduceCtorEq]
    refine ⟨?_, rfl⟩
    refine Stp.safeOn ?_ trivial
    refine stp_call [] (args := [vI ma mc mv]) rfl rfl rfl ⟨_, Try.func59, rfl, rfl⟩ (c59 ma mc mv hmvl) rfl (fun _ h => unc_oks h) rfl (fun _ _ h => h) ?_
    rintro v' hp ⟨rfl, rfl⟩
    rw [hv1]
    refine ⟨trivial, go_ok _ 100 _ _ ?_⟩
    simp only [go_sem, Nat.reduceBEq, Nat.zero_add, reduceCtorEq]
    refine ⟨?_, rfl⟩
    refine Stp.safeOn ?_ trivial
    refine stp_call [] (args := [vE la lc es, I mi, I mm, I 4611686018427387904]) rfl rfl rfl ⟨_, Try.func68, rfl, rfl⟩ hrow rfl (fun _ h => unc_oks h) rfl (fun _ _ h => h) ?_
    rintro v' hp ⟨rfl, rfl⟩
    refine ⟨by simp only [recheck, go_sem], go_ok _ 100 _ _ ?_⟩
    simp only [go_sem, Nat.reduceBEq, reduceCtorEq, Try.results34]
  · refine ⟨by simp only [recheck, go_sem], go_ok _ 100 _ _ ?_⟩
    simp only [go_sem, d0, Nat.reduceBEq, Nat.zero_add, reduceCtorEq]
    refine ⟨⟨?_, rfl⟩, rfl⟩
    refine Stp.safeOn ?_ trivial
    refine stp_call [] (args := [vE la lc es, I mi, I mm, I 4611686018427387904]) rfl rfl rfl ⟨_, Try.func68, rfl, rfl⟩ hrow rfl (fun _ h => unc_oks h) rfl (fun _ _ h => h) ?_
    rintro v' hp ⟨rfl, rfl⟩
    refine ⟨by simp only [recheck, go_sem], go_ok _ 100 _ _ ?_⟩
    simp only [go_sem, Nat.reduceBEq, reduceCtorEq, Try.results34]
end Go.SX
