/- Contracts of the raft package: Step, of one who stands. -/
import Derived.Test.YtpbbpmhahkeekaaSxR29
namespace Go.SX
open Go.Proofs
set_option maxRecDepth 1000000
variable {E : Env}

/-- a message of one who stands, that may be -/
structure Asks (s : RS) (m : Ms) : Prop where
  kd : m.kd = 1
  to : m.to = s.id
  ne : m.fr ≠ s.id
  fr : isIdB m.fr = true
  tm : 0 ≤ m.tm ∧ m.tm ≤ 2 ^ 62

theorem c68n (x y z : Int) : Spec Try.prog E 68 [nilS, I x, I y, I z] [] (fun v hp => v = Bl true ∧ hp = []) := by
  intro ro F H w h1 h2 h3
  exact c68e none 0 x y z ro F H w h1 (by simp only [SV.oks] at h2 ⊢; exact ⟨nilOk _ _ _, h2.2⟩) h3

theorem c50 (b : Nat) (s : RS) (m : Ms) (h : Asks s m) : Spec Try.prog E 50 [.ptr 0 b 0, .agg (encM m)] [rC b s] (fun v hp => v = Bl true ∧ hp = [rC b s]) := by
  refine Spec.leave (Post := fun v hp => v = Bl true ∧ ∃ X, hp = rC b s :: X) ?_ (fun v hp ⟨h1, X, h2⟩ => ⟨[_], X, h2, h1, rfl⟩)
  obtain ⟨kd, to, ne, fr, tm1, tm2⟩ := h
  refine spec_of (keep := k50) (args' := [.ptr 0 b 0, .agg (encM m)]) Try.func50 rfl Try.ntmps50 s50_ok (by simp) ⟨rfl, fun _ h => h⟩ (fun _ _ h => h) (go_ok _ 100 _ _ ?_)
  have d1 : decide (m.to ≠ s.id) = false := by simp [to]
  have d2 : decide (m.kd < 1) = false := by simp [kd]
  have d3 : decide (5 < m.kd) = false := by simp [kd]
  have d4 : decide (m.fr = s.id) = false := by simp [ne]
  have d5 : decide (m.tm < 0) = false := by simp; omega
  have d6 : decide (4611686018427387904 < m.tm) = false := by simp; omega
  have d7 : decide (m.kd = 5) = false := by simp [kd]
  simp only [go_sem, s50, k50, nilS, d1, d2, d3, d4, Nat.reduceBEq, Nat.reduceAdd, Nat.zero_add, Try.results50, reduceCtorEq]
  intro b1
  refine ⟨?_, rfl⟩
  refine Stp.safeOn ?_ trivial
  refine stp_call [] (args := [I m.fr]) rfl rfl rfl ⟨_, Try.func67, rfl, rfl⟩ (c67 m.fr) rfl (fun _ h => unc_oks h) rfl (fun _ _ h => h) ?_
  rintro v hp ⟨rfl, rfl⟩
  rw [fr]
  refine ⟨trivial, go_ok _ 100 _ _ ?_⟩
  simp only [go_sem, nilS, d5, d6, d7, Nat.reduceBEq, Nat.reduceAdd, Nat.zero_add, Try.results50, reduceCtorEq]
  refine ⟨?_, rfl⟩
  refine (stp_call [] rfl rfl rfl ⟨_, Try.func68, rfl, rfl⟩ (c68n m.ix m.lt m.tm) rfl (fun _ h => h) rfl (fun _ _ h => h) ?_).safe trivial
  rintro v hp ⟨rfl, rfl⟩
  refine ⟨trivial, go_ok _ 100 _ _ ?_⟩
  simp only [go_sem, Nat.reduceBEq, Nat.reduceAdd, Nat.zero_add, Try.results50]
  exact ⟨_, rfl⟩

/-- a later term is heard of -/
def RS.heard (s : RS) (tm : Int) : RS := if s.hT < tm then RS.followed { s with hT := tm, hV := -1 } else s
theorem RS.heard_es (s : RS) (tm : Int) : (s.heard tm).es = s.es ∧ (s.heard tm).mIx = s.mIx ∧ (s.heard tm).mTm = s.mTm ∧ (s.heard tm).id = s.id ∧ (s.heard tm).msgs = s.msgs ∧ (s.heard tm).hC = s.hC ∧ (s.heard tm).fresh = s.fresh ∧ (s.heard tm).applied = s.applied ∧ (s.heard tm).reads = s.reads ∧ (s.heard tm).snap = s.snap ∧ (s.role = 0 → (s.heard tm).role = 0) := by
  unfold RS.heard
  split
  · exact ⟨rfl, rfl, rfl, rfl, rfl, rfl, rfl, rfl, rfl, rfl, fun _ => rfl⟩
  · exact ⟨rfl, rfl, rfl, rfl, rfl, rfl, rfl, rfl, rfl, rfl, fun h => h⟩

theorem c22 (b : Nat) (s : RS) (m : Ms) (h : Asks s m) (hs : s.small) (hla : s.last ≤ 2 ^ 61) (hm : s.msgs = nilS) (hr : s.role = 0) (ht : s.hT ≤ m.tm) :
    Spec Try.prog E 22 [.ptr 0 b 0, .agg (encM m)] [rC b s] (fun _ hp => ∃ am cm, hp = [rC b (((s.heard m.tm).voted m).msg1 am cm ⟨2, s.id, m.fr, m.tm, 0, 0, 0, 0, (s.heard m.tm).grants m, 0⟩)]) := by
  refine Spec.leave (Post := fun _ hp => ∃ am cm X, hp = rC b (((s.heard m.tm).voted m).msg1 am cm ⟨2, s.id, m.fr, m.tm, 0, 0, 0, 0, (s.heard m.tm).grants m, 0⟩) :: X) ?_ (fun v hp ⟨am, cm, X, h⟩ => ⟨[_], X, h, am, cm, rfl⟩)
  obtain ⟨e1, e2, e3, e4, e5, e6, e7, e8, e9, e10, e11⟩ := s.heard_es m.tm
  have hT : (s.heard m.tm).hT = m.tm := by
    unfold RS.heard
    split
    · rfl
    · omega
  have hs1 : (s.heard m.tm).small := ⟨by rw [e2]; exact hs.m0, by rw [e2]; exact hs.m1, by rw [e1]; exact hs.len⟩
  have hl1 : (s.heard m.tm).last ≤ 2 ^ 61 := by
    have : (s.heard m.tm).last = s.last := by simp only [RS.last, e1, e2]
    rw [this]; exact hla
  have hfin := c53 (E := E) b (s.heard m.tm) m hs1 hl1 (by rw [e5, hm]) (by rw [e11 hr]; decide)
  rw [e4, hT] at hfin
  refine spec_of (keep := k22) (args' := [.ptr 0 b 0, .agg (encM m)]) Try.func22 rfl Try.ntmps22 s22_ok (by simp) ⟨rfl, fun _ h => h⟩ (fun _ _ h => h) (go_ok _ 100 _ _ ?_)
  simp only [go_sem, s22, k22, Nat.reduceBEq, Nat.reduceAdd, Nat.zero_add, Try.results22]
  intro b1
  refine (stp_call [0] rfl rfl rfl ⟨_, Try.func50, rfl, rfl⟩ (c50 b s m h) rfl (fun _ h => h) rfl (fun _ _ h => h) ?_).safe trivial
  rintro v hp ⟨rfl, rfl⟩
  refine ⟨trivial, go_ok _ 100 _ _ ?_⟩
  have d1 : decide (m.kd = 1) = true := by simp [h.kd]
  have d2 : decide (m.tm < m.tm) = false := by simp
  rcases Int.lt_or_le s.hT m.tm with hlt | hge
  · have d0 : decide (s.hT < m.tm) = true := by simpa using hlt
    have hhe : s.heard m.tm = RS.followed { s with hT := m.tm, hV := -1 } := by rw [RS.heard, if_pos hlt]
    simp only [go_sem, d0, Nat.reduceBEq, Nat.reduceAdd, Nat.zero_add, Try.results22]
    refine ⟨?_, fun h => absurd h (by decide)⟩
    refine (stp_call [0] rfl rfl rfl ⟨_, Try.func51, rfl, rfl⟩ (c51 b { s with hT := m.tm, hV := -1 }) rfl (fun _ h => h) rfl (fun _ _ h => h) ?_).safe trivial
    rintro v hp rfl
    refine ⟨trivial, go_ok _ 100 _ _ ?_⟩
    rw [← hhe]
    simp only [go_sem, hT, d1, d2, Nat.reduceBEq, Nat.reduceAdd, Nat.zero_add, Try.results22]
    refine ⟨?_, fun h => absurd h (by decide)⟩
    refine (stp_call [0] rfl rfl rfl ⟨_, Try.func53, rfl, rfl⟩ hfin rfl (fun _ h => h) rfl (fun ro H h => by exact h) ?_).safe trivial
    rintro v hp ⟨am, cm, rfl⟩
    refine ⟨trivial, go_ok _ 100 _ _ ?_⟩
    simp only [go_sem, Nat.reduceBEq, Nat.reduceAdd, Nat.zero_add, Try.results22]
    exact ⟨am, cm, _, rfl⟩
  · have heq : s.hT = m.tm := by omega
    have d0 : decide (s.hT < m.tm) = false := by simp; omega
    have d3 : decide (m.tm < s.hT) = false := by simp; omega
    have hhe : s.heard m.tm = s := by rw [RS.heard, if_neg (by omega)]
    simp only [go_sem, d0, d1, d3, Nat.reduceBEq, Nat.reduceAdd, Nat.zero_add, Try.results22]
    refine ⟨?_, fun h => absurd h (by decide)⟩
    refine (stp_call [0] rfl rfl rfl ⟨_, Try.func53, rfl, rfl⟩ hfin rfl (fun _ h => h) rfl (fun ro H h => by rw [hhe]; exact h) ?_).safe trivial
    rintro v hp ⟨am, cm, rfl⟩
    refine ⟨trivial, go_ok _ 100 _ _ ?_⟩
    simp only [go_sem, Nat.reduceBEq, Nat.reduceAdd, Nat.zero_add, Try.results22]
    exact ⟨am, cm, _, rfl⟩
end Go.SX
