/- Joined texts: T16 T17 T18 PI T19 PJ T20. -/
import Derived.Test.YtpbbpmhahkeekaaSxTJ3
/- Raft: a good log stays good. -/
namespace Go.SX
open Go.Proofs
set_option maxRecDepth 1000000

theorem Same.at {es es' : List Ent} (h : Same es es') (j : Nat) : (es'.getD j default).core = (es.getD j default).core := by
  have hl := h.len
  by_cases hj : j < es.length
  · have := congrArg (fun l : List (Int × Int × Int × List UInt8) => l[j]?) h
    simp only [List.getElem?_map, List.getElem?_eq_getElem hj, List.getElem?_eq_getElem (show j < es'.length by omega), Option.map_some, Option.some.injEq] at this
    rw [List.getD_eq_getElem?_getD, List.getD_eq_getElem?_getD, List.getElem?_eq_getElem hj, List.getElem?_eq_getElem (show j < es'.length by omega)]
    exact this
  · rw [List.getD_eq_getElem?_getD, List.getD_eq_getElem?_getD, List.getElem?_eq_none (by omega), List.getElem?_eq_none (by omega)]
theorem Same.mem {es es' : List Ent} (h : Same es es') {e : Ent} (he : e ∈ es') : ∃ e0 ∈ es, e0.core = e.core := by
  have : e.core ∈ es'.map Ent.core := List.mem_map_of_mem he
  rw [h] at this
  obtain ⟨e0, h1, h2⟩ := List.mem_map.1 this
  exact ⟨e0, h1, h2⟩
theorem RS.good.put {s : RS} {o : Vo} (hg : s.good o) {kd : Int} {a la : Option Addr} {cap lc : Nat} {xs : List UInt8} {es' : List Ent} {fresh : Int} (h : Same (s.es ++ [⟨s.last + 1, s.hT, kd, ⟨a, cap, xs⟩⟩]) es')
    (hx : okD xs) (hk : kd = 2 → badB xs = false ∧ 0 < (rdV xs).length ∧ (rdV xs).length ≤ 7) (hl : s.es.length + 1 ≤ 2 ^ 40) : RS.good { s with la := la, lc := lc, es := es', fresh := fresh } o := by
  have hlen := h.len
  simp only [List.length_append, List.length_singleton] at hlen
  refine ⟨⟨hg.sm.m0, hg.sm.m1, by show es'.length ≤ _; omega⟩, hg.hm, hg.hf, hg.mv, hg.ml, hg.fv, hg.fl, fun j hj => ?_, fun e he => ?_, fun e he h2 => ?_⟩
  · have hj : j < es'.length := hj
    have e1 : (es'.getD j default).ix = ((s.es ++ [(⟨s.last + 1, s.hT, kd, ⟨a, cap, xs⟩⟩ : Ent)]).getD j default).ix := congrArg (·.1) (h.at j)
    show (es'.getD j default).ix = _
    rw [e1]
    by_cases hjl : j < s.es.length
    · rw [List.getD_eq_getElem?_getD, List.getElem?_append_left hjl, ← List.getD_eq_getElem?_getD]
      exact hg.ix j hjl
    · have : j = s.es.length := by omega
      subst this
      rw [List.getD_eq_getElem?_getD, List.getElem?_append_right (Nat.le_refl _), Nat.sub_self]
      rfl
  · obtain ⟨e0, h1, h2⟩ := h.mem he
    have hd : e0.d.xs = e.d.xs := congrArg (·.2.2.2) h2
    rw [← hd]
    rcases List.mem_append.1 h1 with h1 | h1
    · exact hg.ok _ h1
    · rw [List.mem_singleton.1 h1]
      exact hx
  · obtain ⟨e0, h1, h3⟩ := h.mem he
    have hd : e0.d.xs = e.d.xs := congrArg (·.2.2.2) h3
    have hkd : e0.kd = e.kd := congrArg (·.2.2.1) h3
    rw [← hd]
    rcases List.mem_append.1 h1 with h1 | h1
    · exact hg.rd _ h1 (hkd.trans h2)
    · rw [List.mem_singleton.1 h1] at hkd ⊢
      exact hk (hkd.trans h2)
end Go.SX

/- Raft: a message is sent, over the whole node. -/
namespace Go.SX
open Go.Proofs
set_option maxRecDepth 1000000
variable {E : Env}

/-- send, over the whole node -/
theorem c71n (b : Nat) (n : NL) (m : MsL) (hl : n.msgs.length ≤ 2 ^ 30) : Spec Try.prog E 71 [.ptr 0 b 0, .agg (encM m)] (nO b n) (fun _ hp => ∃ w, hp = nO b (n.sent w [{ m with fr := n.s.id, tm := n.s.hT }])) := by
  refine Spec.see2 ?_
  generalize hP : SeeP _ = P
  refine spec_of (keep := k71) (args' := [.ptr 0 b 0, .agg (encM m)]) Try.func71 rfl Try.ntmps71 s71_ok (by simp) ⟨rfl, fun _ h => h⟩ (fun _ _ h => h) (go_ok _ 100 _ _ ?_)
  have hm : n.rs.msgs = n.wm.sv 4 n.msgs.length := rfl
  have hid : n.rs.id = n.s.id := rfl
  have hhT : n.rs.hT = n.s.hT := rfl
  simp only [go_sem, s71, k71, hm, hid, hhT, nilS, Nat.reduceBEq, Nat.reduceAdd, Nat.zero_add, Try.results71]
  intro b1 b2
  refine (stp_app2 (c := 4) (b := n.wm.b) (off := n.wm.off) (nl := n.wm.nl) (n := n.msgs.length) (cap := n.wm.cap) (x := .osl 8 false b2 0 1 1) (gx := litF 15 (encM { m with fr := n.s.id, tm := n.s.hT })) (m := 1) (f := rowsV encM n.msgs) (f2 := rowsV encM (n.msgs ++ [{ m with fr := n.s.id, tm := n.s.hT }])) (N := n.msgs.length + 1) rfl rfl rfl rfl ⟨rfl, rfl, rfl, rfl, by decide⟩ (fun i j hi hj => ?_) (by omega) rfl (fun i j hi hj => app_one i j hi hj) fun nl' b' off' cap' => ?_).safe trivial
  · obtain rfl : i = 0 := by omega
    have h15 : j = 0 ∨ j = 1 ∨ j = 2 ∨ j = 3 ∨ j = 4 ∨ j = 5 ∨ j = 6 ∨ j = 7 ∨ j = 8 ∨ j = 9 ∨ j = 10 ∨ j = 11 ∨ j = 12 ∨ j = 13 ∨ j = 14 := by omega
    rcases h15 with rfl | rfl | rfl | rfl | rfl | rfl | rfl | rfl | rfl | rfl | rfl | rfl | rfl | rfl | rfl <;> simp [litF, encM, one, Value.oneCell']
  refine ⟨by simp only [recheck, recheck1, go_sem, Nat.reduceBEq, Nat.reduceAdd, Nat.zero_add], go_ok _ 100 _ _ ?_⟩
  simp only [go_sem, Nat.reduceBEq, Nat.reduceAdd, Nat.zero_add, reduceCtorEq, Try.results71]
  rw [← hP]
  refine ⟨_, nO b (n.sent ⟨nl', b', off', cap'⟩ [{ m with fr := n.s.id, tm := n.s.hT }]), rfl, fun _ h => h, Sees.trans (Sees.left (a := [_, _, _, _, _, _, _]) (X := [_, _])) ?_, _, rfl⟩
  simp only [nO, NL.sent, NL.rs, Rw.ch, Rw.sv, List.length_append, List.length_singleton]
  exact Sees.refl _
end Go.SX

/- Raft: a message of an elder term is answered. -/
namespace Go.SX
open Go.Proofs
set_option maxRecDepth 1000000
variable {E : Env}

theorem nd_sent (n : NL) (w : Rw) (m : MsL) : (n.sent w [{ m with fr := n.s.id, tm := n.s.hT }]).nd = n.nd.send m.pl := by
  simp only [NL.nd, NL.sent, Rf.Nd.send, List.map_append, List.map_cons, List.map_nil]
  rfl
theorem c52n (b : Nat) (n : NL) (m : MsL) (hs : n.small) : Spec Try.prog E 52 [.ptr 0 b 0, .agg (encM m)] (nO b n) (fun _ hp => ∃ w l, l.length ≤ 1 ∧ (n.sent w l).nd = n.nd.old m.pl ∧ hp = nO b (n.sent w l)) := by
  refine Spec.see2 ?_
  generalize hP : SeeP _ = P
  have fin : ∀ (r : SV) (w : Rw) (m' : MsL) {X : List Chunk}, (n.sent w [{ m' with fr := n.s.id, tm := n.s.hT }]).nd = n.nd.old m.pl → P r (nO b (n.sent w [{ m' with fr := n.s.id, tm := n.s.hT }]) ++ X) := by
    intro r w m' X h
    rw [← hP]
    exact ⟨r, _, rfl, fun _ h => h, Sees.left, w, _, by simp, h, rfl⟩
  have fin0 : ∀ (r : SV) {X : List Chunk}, n.nd = n.nd.old m.pl → P r (nO b n ++ X) := by
    intro r X h
    rw [← hP]
    exact ⟨r, nO b n, rfl, fun _ h => h, Sees.left, n.wm, [], by simp, by rw [sent_nil]; exact h, by rw [sent_nil]⟩
  refine spec_of (keep := k52) (args' := [.ptr 0 b 0, .agg (encM m)]) Try.func52 rfl Try.ntmps52 s52_ok (by simp) ⟨rfl, fun _ h => h⟩ (fun _ _ h => h) (go_ok _ 100 _ _ ?_)
  simp only [go_sem, s52, k52, Nat.reduceBEq, Nat.reduceAdd, Nat.zero_add, Try.results52]
  intro b1
  refine ⟨fun h1 => ?_, fun h1 => ⟨fun h3 => ⟨fun _ => ?_, fun h => absurd (h3.symm.trans h) (by decide)⟩, fun h3 => ⟨fun h5 => ?_, fun h5 => ?_⟩⟩⟩
  · have h1 : m.kd = 1 := of_decide_eq_true h1
    refine (stp_call [0, 1, 2, 3, 4, 5, 6] (args := [.ptr 0 b 0, .agg (encM { (default : MsL) with kd := 2, to := m.fr })]) rfl rfl rfl ⟨_, Try.func71, rfl, rfl⟩ (c71n b n { (default : MsL) with kd := 2, to := m.fr } hs.ms) rfl (fun ro h => ?_) rfl (fun _ _ h => h) ?_).safe trivial
    · simp only [SV.oks, SV.ok, encM, true_and, and_true]
      exact ⟨nilOk ro 4 _, nilOk ro 1 _, nilOk ro 1 _⟩
    rintro r hp ⟨w, rfl⟩
    refine ⟨trivial, go_ok _ 100 _ _ ?_⟩
    simp only [go_sem, List.cons_append, List.nil_append, Nat.reduceBEq, Nat.reduceAdd, Nat.zero_add, Try.results52, reduceCtorEq]
    refine fin _ w { (default : MsL) with kd := 2, to := m.fr } ?_
    rw [nd_sent]
    unfold Rf.Nd.old
    exact (if_pos (show m.pl.kd = 1 from h1)).symm
  · have h1 : ¬ m.kd = 1 := of_decide_eq_false h1
    have h3 : m.kd = 3 := of_decide_eq_true h3
    refine (stp_call [0] rfl rfl rfl ⟨_, Try.func40, rfl, rfl⟩ (c40 b n.rs hs.sm) rfl (fun _ h => h) rfl (fun _ _ h => h) ?_).safe trivial
    rintro r hp ⟨rfl, rfl⟩
    refine ⟨by simp only [recheck, recheck1, go_sem, Nat.reduceBEq, Nat.reduceAdd, Nat.zero_add], go_ok _ 100 _ _ ?_⟩
    simp only [go_sem, List.cons_append, List.nil_append, Nat.reduceBEq, Nat.reduceAdd, Nat.zero_add, Try.results52, reduceCtorEq]
    refine (stp_call [0, 1, 2, 3, 4, 5, 6] (args := [.ptr 0 b 0, .agg (encM { (default : MsL) with kd := 4, to := m.fr, mt := n.rs.last, sq := m.sq })]) rfl rfl rfl ⟨_, Try.func71, rfl, rfl⟩ (c71n b n { (default : MsL) with kd := 4, to := m.fr, mt := n.rs.last, sq := m.sq } hs.ms) rfl (fun ro h => ?_) rfl (fun _ _ h => h) ?_).safe trivial
    · simp only [SV.oks, SV.ok, encM, true_and, and_true]
      exact ⟨nilOk ro 4 _, nilOk ro 1 _, nilOk ro 1 _⟩
    rintro r hp ⟨w, rfl⟩
    refine ⟨trivial, go_ok _ 100 _ _ ?_⟩
    simp only [go_sem, List.cons_append, List.nil_append, Nat.reduceBEq, Nat.reduceAdd, Nat.zero_add, Try.results52, reduceCtorEq]
    refine fin _ w { (default : MsL) with kd := 4, to := m.fr, mt := n.rs.last, sq := m.sq } ?_
    rw [nd_sent]
    unfold Rf.Nd.old
    rw [nd_last]
    exact ((if_neg (show ¬ m.pl.kd = 1 from h1)).trans (if_pos (show m.pl.kd = 3 ∨ m.pl.kd = 5 from .inl h3))).symm
  · have h1 : ¬ m.kd = 1 := of_decide_eq_false h1
    have h5 : m.kd = 5 := of_decide_eq_true h5
    refine (stp_call [0] rfl rfl rfl ⟨_, Try.func40, rfl, rfl⟩ (c40 b n.rs hs.sm) rfl (fun _ h => h) rfl (fun _ _ h => h) ?_).safe trivial
    rintro r hp ⟨rfl, rfl⟩
    refine ⟨by simp only [recheck, recheck1, go_sem, Nat.reduceBEq, Nat.reduceAdd, Nat.zero_add], go_ok _ 100 _ _ ?_⟩
    simp only [go_sem, List.cons_append, List.nil_append, Nat.reduceBEq, Nat.reduceAdd, Nat.zero_add, Try.results52, reduceCtorEq]
    refine (stp_call [0, 1, 2, 3, 4, 5, 6] (args := [.ptr 0 b 0, .agg (encM { (default : MsL) with kd := 4, to := m.fr, mt := n.rs.last, sq := m.sq })]) rfl rfl rfl ⟨_, Try.func71, rfl, rfl⟩ (c71n b n { (default : MsL) with kd := 4, to := m.fr, mt := n.rs.last, sq := m.sq } hs.ms) rfl (fun ro h => ?_) rfl (fun _ _ h => h) ?_).safe trivial
    · simp only [SV.oks, SV.ok, encM, true_and, and_true]
      exact ⟨nilOk ro 4 _, nilOk ro 1 _, nilOk ro 1 _⟩
    rintro r hp ⟨w, rfl⟩
    refine ⟨trivial, go_ok _ 100 _ _ ?_⟩
    simp only [go_sem, List.cons_append, List.nil_append, Nat.reduceBEq, Nat.reduceAdd, Nat.zero_add, Try.results52, reduceCtorEq]
    refine fin _ w { (default : MsL) with kd := 4, to := m.fr, mt := n.rs.last, sq := m.sq } ?_
    rw [nd_sent]
    unfold Rf.Nd.old
    rw [nd_last]
    exact ((if_neg (show ¬ m.pl.kd = 1 from h1)).trans (if_pos (show m.pl.kd = 3 ∨ m.pl.kd = 5 from .inr h5))).symm
  · have h1 : ¬ m.kd = 1 := of_decide_eq_false h1
    have h3 : ¬ m.kd = 3 := of_decide_eq_false h3
    have h5 : ¬ m.kd = 5 := of_decide_eq_false h5
    refine fin0 _ ?_
    unfold Rf.Nd.old
    exact ((if_neg (show ¬ m.pl.kd = 1 from h1)).trans (if_neg (show ¬ (m.pl.kd = 3 ∨ m.pl.kd = 5) from fun h => h.elim h3 h5))).symm
end Go.SX

/- Raft, plainly: what is known of a node whose numbers are small. -/
namespace Go.SX.Rf

/-- data that can be read -/
def okB (xs : List UInt8) : Prop := xs.length ≤ 65536 ∧ ∀ c, beN ((xs.drop (1 + 8 * c)).take 8) < 2 ^ 63
structure En.fit (e : En) (k : Nat) : Prop where
  t0 : 0 ≤ e.tm
  t1 : e.tm ≤ k
  d : okB e.d
  vs : e.kd = 2 → (readV e.d).2 = true
structure Pe.fit (p : Pe) (k : Int) : Prop where
  n0 : 1 ≤ p.nx
  n1 : p.nx ≤ k + 1
  m0 : 0 ≤ p.mt
  m1 : p.mt ≤ k
structure Ms.fit (m : Ms) (k : Nat) : Prop where
  t0 : 0 ≤ m.tm
  t1 : m.tm ≤ k
  i0 : 0 ≤ m.ix
  l0 : 0 ≤ m.lt
  l1 : m.lt ≤ k
  i1 : m.ix + m.es.length ≤ k
  es : ∀ e ∈ m.es, e.fit k ∧ 0 ≤ e.ix ∧ e.ix ≤ k
  c0 : 0 ≤ m.cm
  c1 : m.cm ≤ k
  s0 : 0 ≤ m.sq
  s1 : m.sq ≤ k
  m0 : -1 ≤ m.mt
  m1 : m.mt ≤ k
  x0 : 0 ≤ m.me.ix
  x1 : m.me.ix ≤ k
  y0 : 0 ≤ m.me.tm
  y1 : m.me.tm ≤ k
  vl : m.me.vs.length ≤ 7
  dl : m.d.length ≤ 2 ^ 23
structure Nd.fit (n : Nd) (k j : Nat) : Prop where
  i0 : 0 ≤ n.me.ix
  i1 : n.last ≤ k
  t0 : 0 ≤ n.me.tm
  t1 : n.me.tm ≤ k
  mv : 0 < n.me.ix → areVoters n.me.vs = true
  ml : n.me.vs.length ≤ 7
  fv : areVoters n.first = true
  dl : n.d.length ≤ 2 ^ 23
  ix : ∀ i, i < n.log.length → (n.log.getD i default).ix = n.me.ix + i + 1
  en : ∀ e ∈ n.log, e.fit k
  f0 : 0 ≤ n.fresh
  f1 : n.fresh ≤ k
  tk0 : 0 ≤ n.ticks
  tk1 : n.ticks ≤ k
  tn0 : 0 ≤ n.taken
  tn1 : n.taken ≤ 9
  dr0 : 0 ≤ n.draw
  dr1 : n.draw ≤ 9
  be0 : 0 ≤ n.beats
  be1 : n.beats ≤ 2
  h0 : 0 ≤ n.hd.tm
  h1 : n.hd.tm ≤ k
  c0 : 0 ≤ n.hd.cm
  c1 : n.hd.cm ≤ n.last
  a0 : n.me.ix ≤ n.applied
  a1 : n.applied ≤ n.hd.cm
  r0 : 0 ≤ n.round
  r1 : n.round ≤ k
  vt : n.votes.length ≤ k
  wt : n.waits.length + n.reads.length ≤ k
  ms : n.msgs.length ≤ j
  mo : ∀ m ∈ n.msgs, m.fit k
/-- what a leader knows of some -/
def Nd.knows (n : Nd) (vs : List Int) : Prop := ∃ l : List (Int × Pe), n.peers = some l ∧ (l.map (·.1)).Nodup ∧ (∀ q ∈ l, q.2.fit n.last) ∧ ∀ v ∈ vs, v ∈ l.map (·.1)
structure Nd.inv (n : Nd) (k j : Nat) : Prop extends toFit : n.fit k j where
  ro : n.role = 0 ∨ n.role = 1 ∨ n.role = 2
  kn : n.role = 2 → n.knows n.others

theorem En.fit.mono {e : En} {k k' : Nat} (h : e.fit k) (hk : k ≤ k') : e.fit k' := ⟨h.t0, by have := h.t1; omega, h.d, h.vs⟩
theorem Pe.fit.mono {p : Pe} {k k' : Int} (h : p.fit k) (hk : k ≤ k') : p.fit k' := ⟨h.n0, by have := h.n1; omega, h.m0, by have := h.m1; omega⟩
theorem Ms.fit.mono {m : Ms} {k k' : Nat} (h : m.fit k) (hk : k ≤ k') : m.fit k' := by
  obtain ⟨a1, a2, a3, a4, a5, a6, a7, a8, a9, a10, a11, a12, a13, a14, a15, a16, a17, a18, a19⟩ := h
  refine ⟨a1, ?_, a3, a4, ?_, ?_, fun e he => ?_, a8, ?_, a10, ?_, a12, ?_, a14, ?_, a16, ?_, a18, a19⟩
  case refine_4 => exact ⟨(a7 e he).1.mono hk, (a7 e he).2.1, by have := (a7 e he).2.2; omega⟩
  all_goals omega
theorem Nd.fit.mono {n : Nd} {k j k' j' : Nat} (h : n.fit k j) (hk : k ≤ k') (hj : j ≤ j') : n.fit k' j' :=
  { h with i1 := by have := h.i1; omega, t1 := by have := h.t1; omega, en := fun e he => (h.en e he).mono hk, f1 := by have := h.f1; omega, tk1 := by have := h.tk1; omega, h1 := by have := h.h1; omega, r1 := by have := h.r1; omega, vt := by have := h.vt; omega, wt := by have := h.wt; omega, ms := by have := h.ms; omega, mo := fun m hm => (h.mo m hm).mono hk }
theorem Nd.knows.sub {n : Nd} {vs vs' : List Int} (h : n.knows vs) (hv : ∀ v ∈ vs', v ∈ vs) : n.knows vs' := by
  obtain ⟨l, h1, h2, h3, h4⟩ := h
  exact ⟨l, h1, h2, h3, fun v hv' => h4 v (hv v hv')⟩
theorem Nd.inv.mono {n : Nd} {k j k' j' : Nat} (h : n.inv k j) (hk : k ≤ k') (hj : j ≤ j') : n.inv k' j' := ⟨h.toFit.mono hk hj, h.ro, h.kn⟩

theorem rising_all : ∀ {l : List Int}, rising l = true → l.Nodup ∧ (∀ v ∈ l, isId v = true) ∧ ∀ x, l.head? = some x → ∀ v ∈ l, x ≤ v
  | [], _ => ⟨List.nodup_nil, by simp, by simp⟩
  | [x], h => by
    simp only [rising] at h
    refine ⟨by simp, ?_, ?_⟩
    · intro v hv; rw [List.mem_singleton.1 hv]; exact h
    · intro y hy v hv
      simp only [List.head?_cons, Option.some.injEq] at hy
      rw [List.mem_singleton.1 hv, hy]
      exact Int.le_refl _
  | x :: y :: r, h => by
    simp only [rising, Bool.and_eq_true, decide_eq_true_eq] at h
    obtain ⟨⟨h1, h2⟩, h3⟩ := h
    obtain ⟨i1, i2, i3⟩ := rising_all h3
    have hx : ∀ v ∈ y :: r, x < v := fun v hv => by have := i3 y rfl v hv; omega
    refine ⟨List.nodup_cons.2 ⟨fun hm => by have := hx x hm; omega, i1⟩, ?_, ?_⟩
    · intro v hv
      rcases List.mem_cons.1 hv with rfl | hv
      · exact h1
      · exact i2 v hv
    · intro z hz v hv
      simp only [List.head?_cons, Option.some.injEq] at hz
      subst hz
      rcases List.mem_cons.1 hv with rfl | hv
      · exact Int.le_refl _
      · have := hx v hv; omega
theorem areVoters_facts {l : List Int} (h : areVoters l = true) : l.Nodup ∧ (∀ v ∈ l, isId v = true) ∧ 1 ≤ l.length ∧ l.length ≤ 7 := by
  simp only [areVoters, Bool.and_eq_true, decide_eq_true_eq] at h
  obtain ⟨h1, h2⟩ := h
  obtain ⟨i1, i2, _⟩ := rising_all h1
  exact ⟨i1, i2, h2⟩

section
variable {n : Nd} {k j : Nat}
def isC (u : Int) (e : En) : Bool := decide (e.kd = 2) && decide (e.ix ≤ u)
theorem chg_or (u : Int) : ∀ (es : List En) (r : Int), es.foldl (fun r e => bif isC u e then e.ix else r) r = r ∨ ∃ j, j < es.length ∧ es.foldl (fun r e => bif isC u e then e.ix else r) r = (es.getD j default).ix ∧ isC u (es.getD j default) = true
  | [], r => .inl rfl
  | e :: l, r => by
    rw [List.foldl_cons]
    rcases chg_or u l (bif isC u e then e.ix else r) with h | ⟨j, hj, h1, h2⟩
    · rw [h]
      cases he : isC u e with
      | false => exact .inl rfl
      | true => exact .inr ⟨0, by simp, rfl, he⟩
    · exact .inr ⟨j + 1, by simpa using hj, h1, h2⟩
theorem mem_getD {α : Type} [Inhabited α] {l : List α} {i : Nat} (h : i < l.length) : l.getD i default ∈ l := by
  rw [List.getD_eq_getElem?_getD, List.getElem?_eq_getElem h]
  exact List.getElem_mem h
theorem Nd.fit.chg (h : n.fit k j) (u : Int) : n.chg u = 0 ∨ ∃ i, i < n.log.length ∧ n.chg u = n.me.ix + i + 1 ∧ (n.log.getD i default).kd = 2 := by
  rcases chg_or u n.log 0 with h1 | ⟨i, hi, h1, h2⟩
  · exact .inl h1
  · refine .inr ⟨i, hi, ?_, ?_⟩
    · rw [← h.ix i hi]; exact h1
    · simp only [isC, Bool.and_eq_true, decide_eq_true_eq] at h2; exact h2.1
theorem Nd.fit.votersAt (h : n.fit k j) (u : Int) : areVoters (n.votersAt u) = true := by
  unfold Nd.votersAt
  split
  · rename_i hc
    rcases h.chg u with h1 | ⟨i, hi, h1, h2⟩
    · omega
    · have hm := mem_getD hi
      have e : (n.chg u - n.me.ix - 1).toNat = i := by rw [h1]; omega
      rw [e]
      have := (h.en _ hm).vs h2
      generalize (n.log.getD i default).d = d at this ⊢
      unfold readV at this ⊢
      cases d with
      | nil => simp at this
      | cons x r =>
        dsimp only at this ⊢
        split
        · rename_i hh; rw [if_pos hh] at this; exact this
        · rename_i hh; rw [if_neg hh] at this; simp at this
  · split
    · exact h.mv ‹_›
    · exact h.fv
theorem Nd.fit.voters (h : n.fit k j) : n.voters.Nodup ∧ (∀ v ∈ n.voters, isId v = true) ∧ 1 ≤ n.voters.length ∧ n.voters.length ≤ 7 := areVoters_facts (h.votersAt _)
theorem Nd.fit.others (h : n.fit k j) : n.others.Nodup ∧ (∀ v ∈ n.others, isId v = true) ∧ n.others.length ≤ 7 := by
  obtain ⟨h1, h2, h3, h4⟩ := h.voters
  exact ⟨h1.filter _, fun v hv => h2 v (List.mem_filter.1 hv).1, Nat.le_trans (List.length_filter_le _ _) h4⟩

/-- a node that has told more -/
def Nd.more (n : Nd) (l : List Ms) : Nd := { n with msgs := n.msgs ++ l }
theorem more_nil (n : Nd) : n.more [] = n := by simp [Nd.more]
theorem more_more (n : Nd) (l l' : List Ms) : (n.more l).more l' = n.more (l ++ l') := by simp [Nd.more]
theorem Nd.fit.more (h : n.fit k j) {l : List Ms} (hl : ∀ m ∈ l, m.fit k) : (n.more l).fit k (j + l.length) :=
  { h with ms := by have := h.ms; simp [Nd.more]; omega, mo := fun m hm => (List.mem_append.1 hm).elim (h.mo m) (hl m) }
theorem Nd.inv.more (h : n.inv k j) {l : List Ms} (hl : ∀ m ∈ l, m.fit k) : (n.more l).inv k (j + l.length) := ⟨h.toFit.more hl, h.ro, h.kn⟩
theorem fit_anew (h : n.fit k j) : n.anew.fit k j := { h with tk0 := Int.le_refl 0, tk1 := Int.natCast_nonneg k, tn0 := h.dr0, tn1 := h.dr1 }
theorem fit_follow (h : n.fit k j) : n.follow.fit k j :=
  { h with
    tk0 := by show 0 ≤ ite _ _ _; split; exact Int.le_refl 0; exact h.tk0
    tk1 := by show ite _ _ _ ≤ _; split; exact Int.natCast_nonneg k; exact h.tk1
    tn0 := by show 0 ≤ ite _ _ _; split; exact h.dr0; exact h.tn0
    tn1 := by show ite _ _ _ ≤ _; split; exact h.dr1; exact h.tn1
    r0 := Int.le_refl 0, r1 := Int.natCast_nonneg k, vt := Nat.zero_le _, wt := by have := h.wt; simp only [Nd.follow, List.length_nil]; omega }
theorem inv_anew (h : n.inv k j) : n.anew.inv k j := ⟨fit_anew h.toFit, h.ro, h.kn⟩
theorem inv_follow (h : n.fit k j) : n.follow.inv k j := ⟨fit_follow h, .inl rfl, fun h => absurd h (show (0 : Int) ≠ 2 by decide)⟩
theorem send_more (n : Nd) (m : Ms) : n.send m = n.more [{ m with fr := n.id, tm := n.hd.tm }] := rfl
theorem Nd.fit.term (h : n.fit k j) (i : Int) : 0 ≤ n.term i ∧ n.term i ≤ k := by
  unfold Nd.term
  split
  · have hm : n.log.getD (i - n.me.ix - 1).toNat default ∈ n.log := mem_getD (by omega)
    exact ⟨(h.en _ hm).t0, (h.en _ hm).t1⟩
  · split
    · exact ⟨h.t0, h.t1⟩
    · omega
theorem Nd.fit.lix (h : n.fit k j) {e : En} (he : e ∈ n.log) : n.me.ix < e.ix ∧ e.ix ≤ n.last := by
  obtain ⟨i, hi, rfl⟩ := List.getElem_of_mem he
  have := h.ix i hi
  rw [List.getD_eq_getElem?_getD, List.getElem?_eq_getElem hi, Option.getD_some] at this
  rw [this]
  unfold Nd.last
  omega
theorem from_mem {n : Nd} {i c : Int} {e : En} (h : e ∈ n.fromE i c) : e ∈ n.log := List.mem_of_mem_drop (List.mem_of_mem_take h)
theorem from_len (n : Nd) {i : Int} (c : Int) (h0 : n.me.ix < i) (h1 : i ≤ n.last + 1) : i - 1 + (n.fromE i c).length ≤ n.last := by
  unfold Nd.fromE Nd.last at *
  simp only [List.length_take, List.length_drop]
  omega
theorem peer_of {v : Int} {vs : List Int} (hn : n.knows vs) (hv : v ∈ vs) : ∃ l p, n.peers = some l ∧ (l.find? fun q => q.1 == v) = some (v, p) ∧ n.peer v = p ∧ p.fit n.last := by
  obtain ⟨l, h1, h2, h3, h4⟩ := hn
  have hv := h4 v hv
  obtain ⟨q, hq, hq2⟩ := List.mem_map.1 hv
  cases hf : l.find? (fun q => q.1 == v) with
  | none =>
    have := List.find?_eq_none.1 hf q hq
    simp [hq2] at this
  | some r =>
    have hr := List.find?_some hf
    have hm := List.mem_of_find?_eq_some hf
    obtain ⟨a, p⟩ := r
    have ha : a = v := by simpa using hr
    subst ha
    refine ⟨l, p, h1, hf, ?_, h3 _ hm⟩
    unfold Nd.peer
    rw [h1, Option.getD_some, hf]
    rfl
theorem one_more {v : Int} (h : n.fit k j) (hd : (n.peer v).fit n.last) : ∃ m : Ms, n.one v = n.more [m] ∧ m.fit k := by
  unfold Nd.one
  have h1 := h.h0; have h2 := h.h1; have h3 := h.i0; have h4 := h.i1; have h5 := h.r0; have h6 := h.r1; have h7 := h.t0; have h8 := h.t1
  have h9 : n.me.ix ≤ n.last := by unfold Nd.last; omega
  have h10 := h.c0; have h11 := h.c1
  dsimp only
  split
  · refine ⟨_, send_more _ _, ?_⟩
    refine ⟨h1, h2, ?_, ?_, ?_, ?_, ?_, ?_, ?_, h5, h6, ?_, ?_, h3, ?_, h7, h8, h.ml, h.dl⟩ <;> simp only [List.length_nil, List.not_mem_nil, false_implies, implies_true] <;> omega
  · rename_i hc
    have h12 := hd.n0
    have h13 : n.me.ix < (n.peer v).nx := by omega
    have h14 := from_len n 8 h13 hd.n1
    have h15 := h.term ((n.peer v).nx - 1)
    refine ⟨_, send_more _ _, ?_⟩
    refine ⟨h1, h2, ?_, h15.1, h15.2, ?_, fun e he => ?_, h10, ?_, h5, h6, ?_, ?_, ?_, ?_, ?_, ?_, ?_, ?_⟩
    case refine_3 =>
      have hm := from_mem he
      have := h.lix hm
      exact ⟨h.en e hm, by omega, by omega⟩
    all_goals first | (simp; done) | (dsimp only; omega)
end
end Go.SX.Rf

/- Raft: what is known of a node in plain words holds of it in memory. -/
namespace Go.SX
open Go.Proofs
set_option maxRecDepth 1000000
variable {E : Env}

theorem readV_true {xs : List UInt8} (h : (Rf.readV xs).2 = true) : badB xs = false ∧ Rf.areVoters (Rf.readV xs).1 = true := by
  unfold Rf.readV at h ⊢
  cases xs with
  | nil => simp at h
  | cons x r =>
    dsimp only at h ⊢
    split at h
    · rename_i hl
      rw [if_pos hl]
      refine ⟨?_, h⟩
      simp only [badB, List.length_cons, List.getD_cons_zero, hl]
      simp
      omega
    · cases h
theorem fit_good {n : NL} {k j : Nat} (h : n.nd.fit k j) (hk : k ≤ 2 ^ 30) : n.rs.good n.o := by
  have hlog : n.nd.log = n.s.es.map Ent.pl := rfl
  have hrs : n.rs.es = n.s.es := rfl
  have hlen : n.nd.log.length = n.s.es.length := by rw [hlog, List.length_map]
  have hi0 : 0 ≤ n.s.mIx := h.i0
  have hi1 : n.s.mIx + (n.nd.log.length : Int) ≤ k := h.i1
  rw [hlen] at hi1
  refine ⟨⟨hi0, show n.s.mIx ≤ _ by omega, show n.s.es.length ≤ _ by omega⟩, rfl, rfl, fun hp => ?_, h.ml, ?_, ?_, fun i hi => ?_, fun e he => ?_, fun e he h2 => ?_⟩
  · exact (Rf.areVoters_facts (h.mv hp)).2.2.1
  · exact (Rf.areVoters_facts h.fv).2.2.1
  · exact (Rf.areVoters_facts h.fv).2.2.2
  · have hi' : i < n.s.es.length := hi
    have := h.ix i (by rw [hlen]; exact hi')
    rw [hlog, List.getD_eq_getElem?_getD, List.getElem?_map, List.getElem?_eq_getElem hi'] at this
    show (n.s.es.getD i default).ix = _
    rw [List.getD_eq_getElem?_getD, List.getElem?_eq_getElem hi']
    exact this
  · have hm : e.pl ∈ n.nd.log := List.mem_map_of_mem he
    obtain ⟨h1, h2⟩ := (h.en _ hm).d
    exact ⟨Nat.le_trans h1 (by decide), h2⟩
  · have hm : e.pl ∈ n.nd.log := List.mem_map_of_mem he
    obtain ⟨h3, h4⟩ := readV_true ((h.en _ hm).vs h2)
    have h5 : (Rf.readV e.d.xs).1 = rdV e.d.xs := readV_eq h3 (h.en _ hm).d.2
    have h6 : Rf.areVoters (Rf.readV e.d.xs).1 = true := h4
    rw [h5] at h6
    exact ⟨h3, (Rf.areVoters_facts h6).2.2⟩
theorem fit_small {n : NL} {k j : Nat} (h : n.nd.fit k j) (hk : k ≤ 2 ^ 30) (hj : j ≤ 2 ^ 28) : n.small := by
  refine ⟨(fit_good h hk).sm, fun e he => ?_, Nat.le_trans h.dl (by decide), h.ml, ?_⟩
  · have hm : e.pl ∈ n.nd.log := List.mem_map_of_mem he
    exact Nat.le_trans (h.en _ hm).d.1 (by decide)
  · have := h.ms
    have e : n.nd.msgs.length = n.msgs.length := by show (n.msgs.map MsL.pl).length = _; rw [List.length_map]
    omega
theorem fnd_mem : ∀ {L : List PeL} {v : Int}, v ∈ L.map PeL.id → ∃ i p, fndP L v = some i ∧ L[i]? = some p ∧ p.id = v
  | [], _, h => by simp at h
  | p :: r, v, h => by
    unfold fndP
    by_cases hp : p.id = v
    · rw [if_pos hp]
      exact ⟨0, p, rfl, rfl, hp⟩
    · rw [if_neg hp]
      rcases List.mem_cons.1 h with h | h
      · exact absurd h.symm hp
      · obtain ⟨i, q, h1, h2, h3⟩ := fnd_mem h
        exact ⟨i + 1, q, by rw [h1]; rfl, by simpa using h2, h3⟩
theorem fnd_not : ∀ {L : List PeL} {v : Int}, v ∉ L.map PeL.id → fndP L v = none
  | [], _, _ => rfl
  | p :: r, v, h => by
    unfold fndP
    rw [List.map_cons, List.mem_cons, not_or] at h
    rw [if_neg (Ne.symm h.1), fnd_not h.2]
    rfl
theorem nd_peers {n : NL} {l : List (Int × Rf.Pe)} (h : n.nd.peers = some l) : ∃ M, n.pm = some M ∧ l = n.peers.map fun p => (p.id, p.pl) := by
  have h : (n.pm.map fun _ => n.peers.map fun p => (p.id, p.pl)) = some l := h
  cases hp : n.pm with
  | none => rw [hp] at h; cases h
  | some M => rw [hp] at h; exact ⟨M, rfl, by injection h with h; exact h.symm⟩
theorem keys_pl (L : List PeL) : (L.map fun p => (p.id, p.pl)).map (·.1) = L.map PeL.id := by rw [List.map_map]; rfl
theorem fit_knows {n : NL} {vs : List Int} {k j : Nat} (hf : n.nd.fit k j) (hk : k ≤ 2 ^ 30) (h : n.nd.knows vs) : n.knows vs := by
  obtain ⟨l, h1, h2, h3, h4⟩ := h
  obtain ⟨M, hM, rfl⟩ := nd_peers h1
  refine ⟨M, hM, fun v hv => ?_⟩
  have hv := h4 v hv
  rw [keys_pl] at hv
  obtain ⟨i, p, hi, hp, _⟩ := fnd_mem hv
  have hm : (p.id, p.pl) ∈ n.peers.map fun p => (p.id, p.pl) := List.mem_map_of_mem (List.mem_of_getElem? hp)
  have hq := h3 _ hm
  have := hf.i1
  exact ⟨i, p, hi, hp, hq.n0, by have := hq.n1; have e : ((p.id, p.pl) : Int × Rf.Pe).2.nx = p.nx := rfl; omega⟩
end Go.SX

/- Raft, plainly: small numbers stay so: all, look, confirm, elected, stand, tick, propose, read. -/
namespace Go.SX.Rf

theorem ones_more {n : Nd} {k : Nat} {vs : List Int} (hk : n.knows vs) : ∀ (ws : List Int) (l : List Ms) (j : Nat), (∀ v ∈ ws, v ∈ vs) → (n.more l).fit k j → ∃ l', ws.foldl (fun n v => n.one v) (n.more l) = n.more (l ++ l') ∧ l'.length = ws.length ∧ ∀ m ∈ l', m.fit k
  | [], l, _, _, _ => ⟨[], by simp, rfl, by simp⟩
  | v :: ws, l, j, hv, h => by
    obtain ⟨_, p, _, _, hp, hpf⟩ := peer_of hk (hv v (by simp))
    have hp' : (n.more l).peer v = p := hp
    obtain ⟨m, h1, h2⟩ := one_more (v := v) h (by rw [hp']; exact hpf)
    rw [List.foldl_cons, h1, more_more]
    obtain ⟨l', h3, h4, h5⟩ := ones_more hk ws (l ++ [m]) (j + 1) (fun v hv' => hv v (List.mem_cons_of_mem _ hv')) (by rw [← more_more]; exact h.more (l := [m]) (by simpa using h2))
    refine ⟨m :: l', by rw [h3, List.append_assoc]; rfl, by simp [h4], fun x hx => ?_⟩
    rcases List.mem_cons.1 hx with rfl | hx
    · exact h2
    · exact h5 x hx
variable {n : Nd} {k j : Nat}
theorem all_more (h : n.fit k j) (hk : n.knows n.others) : ∃ l, n.all = n.more l ∧ l.length ≤ 7 ∧ ∀ m ∈ l, m.fit k := by
  obtain ⟨l, h1, h2, h3⟩ := ones_more hk n.others [] j (fun _ h => h) (by rw [more_nil]; exact h)
  rw [more_nil, List.nil_append] at h1
  exact ⟨l, h1, by have := h.others.2.2; omega, h3⟩
theorem inv_all (h : n.inv k j) (hr : n.role = 2) : n.all.inv k (j + 7) := by
  obtain ⟨l, h1, h2, h3⟩ := all_more h.toFit (h.kn hr)
  rw [h1]
  exact (h.more h3).mono (Nat.le_refl _) (by omega)
/-- with another commit -/
def Nd.upto (n : Nd) (i : Int) : Nd := { n with hd := { n.hd with cm := i } }
theorem inv_upto {i : Int} (h : n.inv k j) (h0 : n.hd.cm ≤ i) (h1 : i ≤ n.last) : (n.upto i).inv k j :=
  ⟨{ h.toFit with c0 := Int.le_trans h.c0 h0, c1 := h1, a1 := Int.le_trans h.a1 h0 }, h.ro, h.kn⟩
theorem inv_look1 {i : Int} (h : n.inv k j) (hr : n.role = 2) (h0 : n.hd.cm ≤ i) (h1 : i ≤ n.last) : (n.look1 i).inv k (j + 7) := by
  have h2 := inv_all (inv_upto h h0 h1) hr
  unfold Nd.look1
  dsimp only
  split
  · exact inv_follow h2.toFit
  · exact h2
theorem inv_lookI (h : n.inv k j) (hr : n.role = 2) : ∀ (c : Nat) (i : Int), i ≤ n.last → (n.lookI c i).inv k (j + 7)
  | 0, _, _ => h.mono (Nat.le_refl _) (by omega)
  | c + 1, i, hi => by
    unfold Nd.lookI
    split
    · rename_i hc
      split
      · exact inv_look1 h hr (by omega) hi
      · exact inv_lookI h hr c (i - 1) (by omega)
    · exact h.mono (Nat.le_refl _) (by omega)
theorem inv_look (h : n.inv k j) : n.look.inv k (j + 7) := by
  unfold Nd.look
  split
  · exact h.mono (Nat.le_refl _) (by omega)
  · rename_i hr
    exact inv_lookI h (by simpa using hr) _ _ (Int.le_refl _)
theorem inv_confirmI : ∀ (c : Nat) {n : Nd}, n.inv k j → (n.confirmI c).inv k j
  | 0, _, h => h
  | c + 1, n, h => by
    unfold Nd.confirmI
    split
    · exact h
    · rename_i w ws hw
      split
      · refine inv_confirmI c ⟨{ h.toFit with wt := ?_ }, h.ro, h.kn⟩
        have := h.wt
        rw [hw] at this
        simp only [List.length_cons, List.length_append, List.length_nil] at this ⊢
        omega
      · exact h
theorem inv_confirm (h : n.inv k j) : n.confirm.inv k j := inv_confirmI _ h

/-- an entry more -/
def Nd.pushed (n : Nd) (kd : Int) (d : List UInt8) : Nd := { n with log := n.log ++ [⟨n.last + 1, n.hd.tm, kd, d⟩], fresh := if n.fresh = 0 ∨ n.last + 1 < n.fresh then n.last + 1 else n.fresh }
theorem put_pushed (n : Nd) (kd : Int) (d : List UInt8) : n.put kd d = n.pushed kd d := by
  unfold Nd.put Nd.lay Nd.pushed
  have e1 : (n.last + 1 - n.me.ix - 1).toNat = n.log.length := by unfold Nd.last; omega
  simp only [e1, List.take_length]
theorem pushed_last (n : Nd) (kd : Int) (d : List UInt8) : (n.pushed kd d).last = n.last + 1 := by
  simp only [Nd.pushed, Nd.last, List.length_append, List.length_singleton]
  omega
theorem fit_pushed (h : n.fit k j) {kd : Int} {d : List UInt8} (hd : okB d) (hv : kd = 2 → (readV d).2 = true) : (n.pushed kd d).fit (k + 1) j := by
  have hl := pushed_last n kd d
  have h0 := h.i0; have h1 := h.i1
  have hlast : 0 ≤ n.last := by unfold Nd.last; omega
  refine { h.mono (Nat.le_succ k) (Nat.le_refl j) with i1 := ?_, ix := ?_, en := ?_, f0 := ?_, f1 := ?_, c1 := ?_ }
  · rw [hl]; omega
  · intro i hi
    have hi' : i < (n.log ++ [(⟨n.last + 1, n.hd.tm, kd, d⟩ : En)]).length := hi
    show ((n.log ++ [(⟨n.last + 1, n.hd.tm, kd, d⟩ : En)]).getD i default).ix = n.me.ix + i + 1
    rw [List.length_append, List.length_singleton] at hi'
    by_cases hil : i < n.log.length
    · rw [List.getD_eq_getElem?_getD, List.getElem?_append_left hil, ← List.getD_eq_getElem?_getD]
      exact h.ix i hil
    · have : i = n.log.length := by omega
      subst this
      rw [List.getD_eq_getElem?_getD, List.getElem?_append_right (Nat.le_refl _), Nat.sub_self]
      rfl
  · intro e he
    rcases List.mem_append.1 he with he | he
    · exact (h.en e he).mono (Nat.le_succ k)
    · rw [List.mem_singleton.1 he]
      exact ⟨h.h0, by have := h.h1; show n.hd.tm ≤ _; omega, hd, hv⟩
  · have := h.f0; show 0 ≤ ite _ _ _; split <;> omega
  · have := h.f1; show ite _ _ _ ≤ _; split <;> omega
  · rw [hl]; have := h.c1; show n.hd.cm ≤ _; omega
theorem chg_up (h : n.fit k j) {u : Int} (hu : n.last ≤ u) : n.chg u = n.chg n.last := by
  unfold Nd.chg
  have : ∀ (l : List En) (r : Int), (∀ e ∈ l, e.ix ≤ n.last) → l.foldl (fun r e => bif decide (e.kd = 2) && decide (e.ix ≤ u) then e.ix else r) r = l.foldl (fun r e => bif decide (e.kd = 2) && decide (e.ix ≤ n.last) then e.ix else r) r := by
    intro l
    induction l with
    | nil => intro r _; rfl
    | cons e l ih =>
      intro r he
      rw [List.foldl_cons, List.foldl_cons, ih _ fun e h => he e (List.mem_cons_of_mem _ h)]
      have h1 := he e (by simp)
      rw [decide_eq_true h1, decide_eq_true (show e.ix ≤ u by omega)]
  exact this _ _ fun e he => (h.lix he).2
theorem voters_pushed (h : n.fit k j) {kd : Int} (d : List UInt8) (hk : kd ≠ 2) : (n.pushed kd d).voters = n.voters := by
  have hl := pushed_last n kd d
  have hc : (n.pushed kd d).chg (n.last + 1) = n.chg n.last := by
    unfold Nd.chg
    have e : (n.pushed kd d).log = n.log ++ [⟨n.last + 1, n.hd.tm, kd, d⟩] := rfl
    rw [e]
    rw [List.foldl_append, List.foldl_cons, List.foldl_nil, decide_eq_false hk, Bool.false_and, cond_false]
    exact chg_up h (by omega)
  unfold Nd.voters Nd.votersAt
  rw [hl, hc]
  split
  · rcases h.chg n.last with h1 | ⟨i, hi, h1, _⟩
    · omega
    · have e : (n.chg n.last - n.me.ix - 1).toNat = i := by rw [h1]; omega
      have e2 : (n.chg n.last - (n.pushed kd d).me.ix - 1).toNat = i := e
      rw [e, e2]
      show (readV ((n.log ++ [_]).getD i default).d).1 = _
      rw [List.getD_eq_getElem?_getD, List.getElem?_append_left hi, ← List.getD_eq_getElem?_getD]
  · rfl
theorem others_pushed (h : n.fit k j) {kd : Int} (d : List UInt8) (hk : kd ≠ 2) : (n.pushed kd d).others = n.others := by
  unfold Nd.others
  rw [voters_pushed h d hk]
  rfl
theorem knows_pushed {vs : List Int} (h : n.knows vs) (kd : Int) (d : List UInt8) : (n.pushed kd d).knows vs := by
  obtain ⟨l, h1, h2, h3, h4⟩ := h
  refine ⟨l, h1, h2, fun q hq => ?_, h4⟩
  rw [pushed_last]
  exact (h3 q hq).mono (by omega)
theorem inv_put (h : n.inv k j) {kd : Int} {d : List UInt8} (hd : okB d) (hk : kd ≠ 2) : (n.put kd d).inv (k + 1) j := by
  rw [put_pushed]
  exact ⟨fit_pushed h.toFit hd (fun h => absurd h hk), h.ro, fun hr => by rw [others_pushed h.toFit d hk]; exact knows_pushed (h.kn hr) kd d⟩

/-- one who leads, anew -/
def Nd.leads (n : Nd) : Nd := { n with role := 2, lead := n.id, beats := 0, peers := some (n.others.map fun v => (v, (⟨n.last + 1, 0, 0⟩ : Pe))) }
theorem inv_leads (h : n.fit k j) : n.leads.inv k j := by
  refine ⟨{ h with be0 := Int.le_refl 0, be1 := show (0 : Int) ≤ 2 by decide }, .inr (.inr rfl), fun _ => ⟨_, rfl, ?_, fun q hq => ?_, fun v hv => ?_⟩⟩
  · rw [List.map_map]
    have : ((fun x : Int × Pe => x.1) ∘ fun v => (v, (⟨n.last + 1, 0, 0⟩ : Pe))) = id := rfl
    rw [this, List.map_id]
    exact h.others.1
  · obtain ⟨v, _, rfl⟩ := List.mem_map.1 hq
    have h0 := h.i0
    have : 0 ≤ n.last := by unfold Nd.last; omega
    exact ⟨show 1 ≤ n.last + 1 by omega, show n.last + 1 ≤ n.last + 1 by omega, Int.le_refl 0, this⟩
  · rw [List.map_map]
    exact List.mem_map.2 ⟨v, hv, rfl⟩
theorem inv_elected (h : n.inv k j) : n.elected.inv (k + 1) (j + 14) := by
  unfold Nd.elected
  split
  · dsimp only
    have h1 : (n.leads.put 1 []).inv (k + 1) j := inv_put (inv_leads h.toFit) ⟨by simp, fun c => by simp [beN]⟩ (by decide)
    have h2 : (n.leads.put 1 []).all.inv (k + 1) (j + 7) := inv_all h1 rfl
    exact inv_look h2
  · exact h.mono (by omega) (by omega)
theorem asks_more {k : Nat} : ∀ (ws : List Int) {n : Nd} (j : Nat), n.fit k j → ∃ l, ws.foldl (fun n v => n.send { kd := 1, to := v, ix := n.last, lt := n.term n.last }) n = n.more l ∧ l.length = ws.length ∧ ∀ m ∈ l, m.fit k
  | [], n, _, _ => ⟨[], (more_nil n).symm, rfl, by simp⟩
  | v :: ws, n, j, h => by
    have h2 : ({ kd := 1, to := v, ix := n.last, lt := n.term n.last, fr := n.id, tm := n.hd.tm } : Ms).fit k := by
      have h1 := h.h0; have h2 := h.h1; have h3 := h.i0; have h4 := h.i1; have h5 := h.term n.last
      have h9 : n.me.ix ≤ n.last := by unfold Nd.last; omega
      refine ⟨h1, h2, ?_, h5.1, h5.2, ?_, ?_, ?_, ?_, ?_, ?_, ?_, ?_, ?_, ?_, ?_, ?_, ?_, ?_⟩ <;> simp <;> omega
    rw [List.foldl_cons, send_more]
    obtain ⟨l', h3, h4, h5⟩ := asks_more ws (j + 1) (h.more (l := [_]) (by simpa using h2))
    rw [more_more] at h3
    refine ⟨_ :: l', h3, by simp [h4], fun x hx => ?_⟩
    rcases List.mem_cons.1 hx with rfl | hx
    · exact h2
    · exact h5 x hx
/-- one who stands -/
def Nd.stands (n : Nd) : Nd := ({ n.follow with hd := { n.follow.hd with tm := n.follow.hd.tm + 1, vote := n.follow.id }, role := 1, votes := [n.follow.id] } : Nd).anew
theorem inv_stands (h : n.fit k j) : n.stands.inv (k + 1) j := by
  have h1 := (fit_follow h).mono (Nat.le_succ k) (Nat.le_refl j)
  refine inv_anew ⟨{ h1 with h0 := ?_, h1 := ?_, vt := ?_ }, .inr (.inl rfl), fun h => absurd h (show (1 : Int) ≠ 2 by decide)⟩
  · show 0 ≤ n.hd.tm + 1
    have := h.h0; omega
  · show n.hd.tm + 1 ≤ _
    have := h.h1; omega
  · show 1 ≤ _
    omega
theorem inv_stand (h : n.fit k j) : n.stand.inv (k + 2) (j + 21) := by
  have h1 := inv_stands h
  obtain ⟨l, h2, h3, h4⟩ := asks_more n.stands.others j h1.toFit
  have h5 : n.stand = (n.stands.others.foldl (fun n v => n.send { kd := 1, to := v, ix := n.last, lt := n.term n.last }) n.stands).elected := rfl
  rw [h5, h2]
  have h6 := h1.others.2.2
  exact inv_elected ((h1.more h4).mono (Nat.le_refl _) (by omega))
theorem tmod_10 (x : Int) : 0 ≤ Int.tmod (Int.tmod x 10 + 10) 10 ∧ Int.tmod (Int.tmod x 10 + 10) 10 ≤ 9 := by
  have hx : -10 < Int.tmod x 10 ∧ Int.tmod x 10 < 10 := by
    constructor
    · exact (Int.neg_lt_of_neg_lt (Int.neg_tmod x 10 ▸ Int.tmod_lt_of_pos (-x) (by decide)))
    · exact Int.tmod_lt_of_pos x (by decide)
  rw [Int.tmod_eq_emod_of_nonneg (by omega)]
  omega
def Nd.drawn (n : Nd) (x : Int) : Nd := { n with draw := (x.tmod 10 + 10).tmod 10 }
theorem inv_drawn (h : n.inv k j) (x : Int) : (n.drawn x).inv k j := ⟨{ h.toFit with dr0 := (tmod_10 x).1, dr1 := (tmod_10 x).2 }, h.ro, h.kn⟩
theorem inv_tick (h : n.inv k j) (x : Int) : (n.tick x).inv (k + 3) (j + 21) := by
  have h1 := inv_drawn h x
  have e : n.tick x = if (n.drawn x).role = 2 then (if 3 ≤ (n.drawn x).beats + 1 then ({ n.drawn x with beats := 0 } : Nd).all else { n.drawn x with beats := (n.drawn x).beats + 1 })
      else if 10 + (n.drawn x).taken ≤ (n.drawn x).ticks + 1 ∧ ({ n.drawn x with ticks := (n.drawn x).ticks + 1 } : Nd).voter = true then ({ n.drawn x with ticks := (n.drawn x).ticks + 1 } : Nd).stand else { n.drawn x with ticks := (n.drawn x).ticks + 1 } := rfl
  rw [e]
  generalize n.drawn x = m at h1
  split
  · rename_i hr
    split
    · have h2 : ({ m with beats := 0 } : Nd).inv k j := ⟨{ h1.toFit with be0 := Int.le_refl 0, be1 := show (0 : Int) ≤ 2 by decide }, h1.ro, h1.kn⟩
      exact (inv_all h2 hr).mono (by omega) (by omega)
    · rename_i hb
      have h2 : ({ m with beats := m.beats + 1 } : Nd).inv k j := ⟨{ h1.toFit with be0 := by have := h1.be0; show 0 ≤ m.beats + 1; omega, be1 := by show m.beats + 1 ≤ 2; omega }, h1.ro, h1.kn⟩
      exact h2.mono (by omega) (by omega)
  · have h2 : ({ m with ticks := m.ticks + 1 } : Nd).inv (k + 1) j :=
      ⟨{ (h1.mono (Nat.le_succ k) (Nat.le_refl j)).toFit with tk0 := by have := h1.tk0; show 0 ≤ m.ticks + 1; omega, tk1 := by have := h1.tk1; show m.ticks + 1 ≤ _; omega }, h1.ro, h1.kn⟩
    split
    · exact inv_stand h2.toFit
    · exact h2.mono (by omega) (by omega)
theorem inv_propose (h : n.inv k j) {d : List UInt8} (hd : okB d) : (n.propose d).2.inv (k + 1) (j + 14) := by
  unfold Nd.propose
  split
  · exact h.mono (by omega) (by omega)
  · split
    · exact h.mono (by omega) (by omega)
    · split
      · exact h.mono (by omega) (by omega)
      · rename_i hr _ _
        have h1 : (n.put 0 d).inv (k + 1) j := inv_put h hd (by decide)
        have hr1 : (n.put 0 d).role = 2 := by rw [put_pushed]; simpa [Nd.pushed] using hr
        exact inv_look (inv_all h1 hr1)
/-- one who asks -/
def Nd.asks (n : Nd) (ctx : Int) : Nd := { n with round := n.round + 1, waits := n.waits ++ [⟨ctx, n.hd.cm, n.round + 1⟩] }
theorem inv_asks (h : n.inv k j) (ctx : Int) : (n.asks ctx).inv (k + 1) j := by
  refine ⟨{ (h.mono (Nat.le_succ k) (Nat.le_refl j)).toFit with r0 := ?_, r1 := ?_, wt := ?_ }, h.ro, h.kn⟩
  · have := h.r0; show 0 ≤ n.round + 1; omega
  · have := h.r1; show n.round + 1 ≤ _; omega
  · have := h.wt; simp only [Nd.asks, List.length_append, List.length_singleton]; omega
theorem inv_read (h : n.inv k j) (ctx : Int) : (n.read ctx).2.inv (k + 1) (j + 7) := by
  unfold Nd.read
  split
  · exact h.mono (by omega) (by omega)
  · split
    · exact h.mono (by omega) (by omega)
    · split
      · exact h.mono (by omega) (by omega)
      · rename_i hr _ _
        have h1 := inv_asks h ctx
        exact inv_confirm (inv_all h1 (show (n.asks ctx).role = 2 by simpa [Nd.asks] using hr))
end Go.SX.Rf

/- Raft: all and look over the whole node, by the plain model. -/
namespace Go.SX
open Go.Proofs
set_option maxRecDepth 1000000
variable {E : Env}

theorem c41p (b : Nat) (n : NL) {k j : Nat} (h : n.nd.fit k j) (hk : n.nd.knows n.nd.others) (hk1 : k ≤ 2 ^ 30) (hj : j ≤ 2 ^ 28) :
    Spec Try.prog E 41 [.ptr 0 b 0] (nO b n) (fun _ hp => ∃ (w : Rw) (l : List MsL), (n.sent w l).nd = n.nd.all ∧ hp = nO b (n.sent w l)) := by
  have hg := fit_good h hk1
  have hs := fit_small h hk1 hj
  have ho := nd_others hg
  have hm := h.ms
  have e : n.nd.msgs.length = n.msgs.length := by show (n.msgs.map MsL.pl).length = _; rw [List.length_map]
  refine (c41n b n hs hg (by omega) (by rw [← ho]; exact fit_knows h hk1 hk)).post ?_
  rintro v hp ⟨w, l, hl, hnd, rfl⟩
  exact ⟨w, l, by rw [hnd, ← ho]; rfl, rfl⟩
def NL.upto (n : NL) (i : Int) : NL := { n with s := { n.s with hC := i } }
theorem nd_upto (n : NL) (i : Int) : (n.upto i).nd = n.nd.upto i := rfl
theorem nd_role (n : NL) : n.nd.role = n.s.role := rfl
theorem nd_most {n : NL} (hg : n.rs.good n.o) (p : Int → Bool) : n.nd.most p = decide ((n.rs.vs n.o).length < 2 * ((n.rs.vs n.o).filter p).length) := by
  unfold Rf.Nd.most
  rw [nd_voters hg]
theorem nd_voter {n : NL} (hg : n.rs.good n.o) : n.nd.voter = decide (n.rs.id ∈ n.rs.vs n.o) := by
  unfold Rf.Nd.voter
  rw [nd_voters hg]
  have e : n.nd.id = n.rs.id := rfl
  rw [e]
  by_cases h : n.rs.id ∈ n.rs.vs n.o
  · rw [decide_eq_true h]
    exact List.contains_iff_mem.2 h
  · rw [decide_eq_false h]
    simpa using h
/-- those of whom a leader knows -/
theorem knows_at {n : NL} (h : n.nd.knows n.nd.others) (hg : n.rs.good n.o) : ∀ v ∈ n.rs.vs n.o, v ≠ n.s.id → ∃ M j p, n.pm = some M ∧ fndP n.peers v = some j ∧ n.peers[j]? = some p := by
  obtain ⟨l, h1, _, _, h4⟩ := h
  obtain ⟨M, hM, rfl⟩ := nd_peers h1
  intro v hv hne
  have hm : v ∈ n.nd.others := by
    rw [nd_others hg]
    exact List.mem_filter.2 ⟨hv, decide_eq_true hne⟩
  have hv := h4 v hm
  rw [keys_pl] at hv
  obtain ⟨i, p, hi, hp, _⟩ := fnd_mem hv
  exact ⟨M, i, p, hM, hi, hp⟩
structure W47 (n : NL) where
  i : Int
  lo : n.s.hC ≤ i
  hi : i ≤ n.rs.last
  eq : n.nd.lookI (i - n.s.hC).toNat i = n.nd.look
set_option maxHeartbeats 2000000 in
theorem c47p (b : Nat) (n : NL) {k j : Nat} (h : n.nd.inv k j) (hk1 : k ≤ 2 ^ 30) (hj : j + 7 ≤ 2 ^ 28) :
    Spec Try.prog E 47 [.ptr 0 b 0] (nO b n) (fun _ hp => ∃ n' : NL, n'.nd = n.nd.look ∧ (n'.s.role = 2 → n'.pm = n.pm ∧ n'.peers = n.peers) ∧ hp = nO b n') := by
  refine Spec.see2 ?_
  generalize hP : SeeP _ = P
  have fin : ∀ (r : SV) (n' : NL) {X : List Chunk}, n'.nd = n.nd.look → (n'.s.role = 2 → n'.pm = n.pm ∧ n'.peers = n.peers) → P r (nO b n' ++ X) := by
    intro r n' X h1 h2
    rw [← hP]
    exact ⟨r, _, rfl, fun _ h => h, Sees.left, n', h1, h2, rfl⟩
  have hg := fit_good h.toFit hk1
  have hs := fit_small h.toFit hk1 (show j ≤ 2 ^ 28 by omega)
  have hla := nd_last n
  have hc0 : 0 ≤ n.s.hC := h.c0
  have hc1 : n.s.hC ≤ n.rs.last := by rw [← hla]; exact h.c1
  have hlk : n.rs.last ≤ k := by rw [← hla]; exact h.i1
  refine spec_of (keep := k47) (args' := [.ptr 0 b 0]) Try.func47 rfl Try.ntmps47 s47_ok (by simp) ⟨rfl, fun _ h => h⟩ (fun _ _ h => h) (go_ok _ 100 _ _ ?_)
  simp only [go_sem, s47, k47, Nat.reduceBEq, Nat.reduceAdd, Nat.zero_add, Try.results47]
  intro bx
  refine ⟨fun hr => ?_, fun hr => ?_⟩
  · have hr0 : n.rs.role ≠ 2 := by simpa using hr
    have hr' : n.nd.role ≠ 2 := hr0
    refine fin _ n (X := [_]) ?_ (fun _ => ⟨rfl, rfl⟩)
    unfold Rf.Nd.look
    rw [if_pos hr']
  have hr0 : n.rs.role = 2 := by simpa using hr
  have hr' : n.nd.role = 2 := hr0
  refine (stp_call [0] rfl rfl rfl ⟨_, Try.func40, rfl, rfl⟩ (c40 b n.rs hs.sm) rfl (fun _ h => h) rfl (fun _ _ h => h) ?_).safe trivial
  rintro v hp ⟨rfl, rfl⟩
  refine ⟨trivial, go_ok _ 100 _ _ ?_⟩
  simp only [go_sem, Nat.reduceBEq, Nat.reduceAdd, Nat.zero_add]
  intro bi
  refine safe_loop (ι := Nat × W47 n) (fun g => ⟨[(1, .ptr 7 bx 0), (2, .ptr 8 g.1 0)], nO b n ++ [.cells bx 24 [.ptr 0 b 0], .cells g.1 3 [I g.2.i]]⟩) (fun g => (g.2.i - n.s.hC).toNat)
    (bi, ⟨n.rs.last, hc1, Int.le_refl _, by unfold Rf.Nd.look; rw [if_neg (by simpa using hr'), hla]; rfl⟩) (Sub.front (X := []) (by simp [envSub, look]) rfl) ?_
  rintro ⟨bi, i, lo, hi, heq⟩
  refine go_ok _ 100 _ _ ?_
  simp only [go_sem, Nat.reduceBEq, Nat.reduceAdd, Nat.zero_add, Try.results47]
  have hcs : n.rs.hC = n.s.hC := rfl
  refine ⟨fun hc => ?_, fun hc => ?_, ?_⟩
  · have hc' : n.s.hC < i := by rw [← hcs]; simpa using hc
    refine (stp_call [0] (args := [.ptr 0 b 0, I i]) rfl rfl rfl ⟨_, Try.func39, rfl, rfl⟩ (c39 b n.rs i hs.sm (by omega) (by omega)) (by simp [SV.dens, SV.den, hc]) (fun _ h => by simp [SV.oks, SV.ok]) rfl (fun _ _ h => h) ?_).safeOn trivial
    rintro v hp ⟨rfl, rfl⟩
    refine ⟨by simp only [recheck, recheck1, go_sem, Nat.reduceBEq, Nat.reduceAdd, Nat.zero_add, hc], go_ok _ 100 _ _ ?_⟩
    simp only [go_sem, Nat.reduceBEq, Nat.reduceAdd, Nat.zero_add, hc, Try.results47]
    have hms : (i - n.s.hC).toNat = (i - 1 - n.s.hC).toNat + 1 := by omega
    have hterm : n.nd.term i = n.rs.term i := nd_term n i
    have hhT : n.rs.hT = n.s.hT := rfl
    rw [hms] at heq
    refine ⟨fun ht => ?_, fun ht => ?_⟩
    · have ht' : n.nd.hd.cm < i ∧ n.nd.term i = n.nd.hd.tm := ⟨hc', by rw [hterm]; exact of_decide_eq_true ht⟩
      unfold Rf.Nd.lookI at heq
      rw [if_pos ht', nd_most hg] at heq
      have hpd : (fun v => decide (v = n.nd.id) || decide (i ≤ (n.nd.peer v).mt)) = (fun v => decide (v = n.s.id) || decide (i ≤ (n.nd.peer v).mt)) := rfl
      rw [hpd] at heq
      refine (stp_call [0, 1, 2, 3, 4, 5, 6, 7, 8] rfl rfl rfl ⟨_, Try.func73, rfl, rfl⟩ (c73b b 74 n [.ptr 7 bx 0, .ptr 8 bi 0] (.cells bx 24 [.ptr 0 b 0]) (.cells bi 3 [I i]) (fun v => decide (v = n.s.id) || decide (i ≤ (n.nd.peer v).mt)) hg ⟨_, Try.func74, rfl, rfl⟩
        (fun v hv => c74n b bx bi n v i (knows_at (h.kn hr') hg v hv)) (fun ro => by simp [SV.oks, SV.ok])) rfl (fun _ h => h) rfl (fun _ _ h => h) ?_).safe trivial
      rintro v hp ⟨rfl, rfl⟩
      refine ⟨trivial, go_ok _ 100 _ _ ?_⟩
      simp only [go_sem, Nat.reduceBEq, Nat.reduceAdd, Nat.zero_add, reduceCtorEq]
      refine ⟨fun hm => ?_, fun hm => ?_⟩
      · rw [if_neg (by simpa using hm)] at heq
        intro bj
        refine ⟨by simp only [inI64]; omega, ?_⟩
        refine safe_lend ((bj, ⟨i - 1, by omega, by omega, heq⟩) : Nat × W47 n) ?_ ?_
        · simp only; omega
        refine ⟨envDen_ok ⟨seen _ _ _ rfl, seenP _ _ _ _ _ _ rfl rfl, trivial⟩, ?_⟩
        exact Sees.app (Sees.refl (nO b n)) (Sees.same (Sees.trans (Sees.perm (List.Perm.swap ..)) (Sees.left (a := [_]) (X := [_]))))
      · rw [if_pos (by simpa using hm)] at heq
        have hup := Rf.inv_upto h (i := i) lo (by rw [hla]; exact hi)
        have hupf : (n.upto i).nd.fit k j := hup.toFit
        refine (stp_call [0, 1, 2, 3, 4, 5, 6] (args := [.ptr 0 b 0]) rfl rfl rfl ⟨_, Try.func41, rfl, rfl⟩ (c41p b (n.upto i) hupf (hup.kn hr') hk1 (by omega)) rfl (fun _ h => h) rfl (fun _ _ h => h) ?_).safe trivial
        rintro v hp ⟨w, l, hnd, rfl⟩
        refine ⟨trivial, go_ok _ 100 _ _ ?_⟩
        simp only [go_sem, List.cons_append, List.nil_append, Nat.reduceBEq, Nat.reduceAdd, Nat.zero_add, reduceCtorEq]
        have hall := Rf.inv_all hup hr'
        rw [← nd_upto, ← hnd] at hall
        have hg2 := fit_good hall.toFit hk1
        refine (stp_call [0] rfl rfl rfl ⟨_, Try.func40, rfl, rfl⟩ (c40 b ((n.upto i).sent w l).rs hg2.sm) rfl (fun _ h => h) rfl (fun _ _ h => h) ?_).safe trivial
        rintro v hp ⟨rfl, rfl⟩
        refine ⟨by simp only [recheck, recheck1, go_sem, Nat.reduceBEq, Nat.reduceAdd, Nat.zero_add], ?_⟩
        refine (stp_call [0] rfl rfl rfl ⟨_, Try.func61, rfl, rfl⟩ (c61 b ((n.upto i).sent w l).rs.last 95 (RS.cs ((n.upto i).sent w l).rs) n.s.la n.s.lc n.s.es rfl (by have := hs.sm.len; show n.rs.es.length < _; omega)) rfl (fun _ h => h) rfl (fun _ _ h => h) ?_).safe trivial
        rintro v hp ⟨rfl, rfl⟩
        refine ⟨by simp only [recheck, recheck1, go_sem, Nat.reduceBEq, Nat.reduceAdd, Nat.zero_add], go_ok _ 100 _ _ ?_⟩
        simp only [go_sem, List.cons_append, List.nil_append, Nat.reduceBEq, Nat.reduceAdd, Nat.zero_add, reduceCtorEq]
        have hl1 : n.nd.look1 i = if ((n.upto i).sent w l).nd.chg ((n.upto i).sent w l).nd.last ≤ i ∧ ((n.upto i).sent w l).nd.voter = false then ((n.upto i).sent w l).nd.follow else ((n.upto i).sent w l).nd := by
          rw [hnd]; rfl
        have hch : ((n.upto i).sent w l).nd.chg ((n.upto i).sent w l).nd.last = chg n.s.es ((n.upto i).sent w l).rs.last := by rw [nd_chg, nd_last]; rfl
        have hvo := nd_voter hg2
        rw [hch, hvo] at hl1
        generalize hN : (n.upto i).sent w l = N at *
        have hNp : N.pm = n.pm ∧ N.peers = n.peers := by rw [← hN]; exact ⟨rfl, rfl⟩
        refine ⟨fun hd => ?_, fun hd => ?_, rfl⟩
        · refine (stp_call [0] (args := [.ptr 0 b 0]) rfl rfl rfl ⟨_, Try.func42, rfl, rfl⟩ (c42 b N.rs N.o hg2) (by simp [SV.dens, SV.den, hd]) (fun _ h => by simp [SV.oks, SV.ok]) rfl (fun _ _ h => h) ?_).safeOn trivial
          rintro v hp ⟨rfl, rfl⟩
          refine ⟨trivial, go_ok _ 100 _ _ ?_⟩
          simp only [go_sem, List.cons_append, List.nil_append, Nat.reduceBEq, Nat.reduceAdd, Nat.zero_add, reduceCtorEq, hd, Try.results47]
          refine ⟨fun hv => ?_, fun hv => ?_⟩
          · rw [if_pos ⟨of_decide_eq_true hd, by simpa using hv⟩] at hl1
            refine (stp_call [0, 1, 2, 3, 4, 5, 6] (args := [.ptr 0 b 0]) rfl rfl rfl ⟨_, Try.func51, rfl, rfl⟩ (c51n b N) rfl (fun _ h => h) rfl (fun _ _ h => h) ?_).safe trivial
            rintro v hp rfl
            refine ⟨trivial, go_ok _ 100 _ _ ?_⟩
            simp only [go_sem, List.cons_append, List.nil_append, Nat.reduceBEq, Nat.reduceAdd, Nat.zero_add, Try.results47]
            refine fin _ N.followed (X := [_, _]) ?_ (fun h => absurd h (show (0 : Int) ≠ 2 by decide))
            rw [nd_followed, ← heq, hl1]
          · rw [if_neg (fun q => by simp [q.2] at hv)] at hl1
            exact fin _ N (X := [_, _]) (by rw [← heq, hl1]) (fun _ => hNp)
        · rw [if_neg (fun q => of_decide_eq_false hd q.1)] at hl1
          exact ⟨fun h => (by rw [hd] at h; cases h), fun h => (by rw [hd] at h; cases h), fun _ => fin _ N (X := [_, _]) (by rw [← heq, hl1]) (fun _ => hNp)⟩
    · have ht' : ¬ (n.nd.hd.cm < i ∧ n.nd.term i = n.nd.hd.tm) := fun q => by rw [hterm] at q; exact of_decide_eq_false ht q.2
      unfold Rf.Nd.lookI at heq
      rw [if_neg ht'] at heq
      exact fin _ n (X := [_, _]) heq (fun _ => ⟨rfl, rfl⟩)
  · have hc' : ¬ n.s.hC < i := by rw [← hcs]; simpa using hc
    have hz : (i - n.s.hC).toNat = 0 := by omega
    rw [hz] at heq
    exact ⟨fun h => (by rw [hc] at h; cases h), fin _ n (X := [_, _]) heq (fun _ => ⟨rfl, rfl⟩)⟩
  · rfl
end Go.SX
