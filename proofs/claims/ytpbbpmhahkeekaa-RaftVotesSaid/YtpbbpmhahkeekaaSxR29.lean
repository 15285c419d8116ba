/- Contracts of the raft package: one who stands is answered. -/
import Derived.Test.YtpbbpmhahkeekaaSxR28
namespace Go.SX
open Go.Proofs
set_option maxRecDepth 1000000
variable {E : Env}

/-- a message without entries and snapshot -/
structure Ms where
  kd : Int
  fr : Int
  to : Int
  tm : Int
  ix : Int
  lt : Int
  cm : Int
  sq : Int
  ok : Bool
  mt : Int
instance : Inhabited Ms := ⟨⟨0, 0, 0, 0, 0, 0, 0, 0, false, 0⟩⟩
@[go_sem] def encM (m : Ms) : List SV := [I m.kd, I m.fr, I m.to, I m.tm, I m.ix, I m.lt, nilS, I m.cm, I m.sq, Bl m.ok, I m.mt, I 0, I 0, nilS, nilS]
abbrev vM (a : Option Addr) (cap : Nat) (ms : List Ms) : SV := .view a ms.length cap 15 (rowsV encM ms)
theorem encM_len (m : Ms) : (encM m).length = 15 := rfl

def RS.msg1 (s : RS) (am : Option Addr) (cm : Nat) (m : Ms) : RS := { s with msgs := vM am cm [m] }
theorem c71 (b : Nat) (s : RS) (m : Ms) (hm : s.msgs = nilS) : Spec Try.prog E 71 [.ptr 0 b 0, .agg (encM m)] [rC b s] (fun _ hp => ∃ am cm, hp = [rC b (s.msg1 am cm { m with fr := s.id, tm := s.hT })]) := by
  refine Spec.leave (Post := fun _ hp => ∃ am cm X, hp = rC b (s.msg1 am cm { m with fr := s.id, tm := s.hT }) :: X) ?_ (fun v hp ⟨am, cm, X, h⟩ => ⟨[_], X, h, am, cm, rfl⟩)
  refine spec_of (keep := k71) (args' := [.ptr 0 b 0, .agg (encM m)]) Try.func71 rfl Try.ntmps71 s71_ok (by simp) ⟨rfl, fun _ h => h⟩ (fun _ _ h => h) (go_ok _ 100 _ _ ?_)
  simp only [go_sem, s71, k71, hm, nilS, Nat.reduceBEq, Nat.reduceAdd, Nat.zero_add, Try.results71]
  intro b1 b2
  refine (stp_appn (x := .osl 2 false b2 0 1 1) (gx := litF 15 (encM { m with fr := s.id, tm := s.hT })) (sz0 := 1) rfl rfl rfl ⟨rfl, rfl, rfl, rfl, by decide⟩ (by decide) fun nl2 b3 off2 cap2 => ?_).safe trivial
  refine ⟨by simp only [go_sem, Nat.reduceBEq, Nat.reduceAdd, Nat.zero_add], ?_⟩
  refine safe_frz2 (hp := [_, _, _]) (f' := rowsV encM [{ m with fr := s.id, tm := s.hT }]) (fun i j hi hj => ?_) ?_
  · obtain rfl : i = 0 := by omega
    simp only [litF, rowsV, Nat.zero_mul, Nat.zero_add, List.getD_cons_zero]
  refine go_ok _ 100 _ _ ?_
  simp only [go_sem, frz, Nat.reduceBEq, Nat.reduceAdd, Nat.zero_add, reduceCtorEq, Try.results71]
  exact ⟨_, cap2, _, rfl⟩

def RS.grants (s : RS) (m : Ms) : Bool := (decide (s.hV = -1) || decide (s.hV = m.fr)) && (decide (s.term s.last < m.lt) || decide (m.lt = s.term s.last) && decide (s.last ≤ m.ix))
def RS.voted (s : RS) (m : Ms) : RS := if s.grants m then { s with hV := m.fr, ticks := 0, taken := s.draw } else s
theorem safe_ops_mid {S : Setup} {k : List Frag} {st : St} {l : List (SOp × List SOp)} (mid : St) (hrest : Safe S k mid) (h : Safe S k mid → Safe S (.ops l :: k) st) : Safe S (.ops l :: k) st := h hrest

theorem c53 (b : Nat) (s : RS) (m : Ms) (hs : s.small) (hla : s.last ≤ 2 ^ 61) (hm : s.msgs = nilS) (hr : s.role ≠ 2) :
    Spec Try.prog E 53 [.ptr 0 b 0, .agg (encM m)] [rC b s] (fun _ hp => ∃ am cm, hp = [rC b ((s.voted m).msg1 am cm ⟨2, s.id, m.fr, s.hT, 0, 0, 0, 0, s.grants m, 0⟩)]) := by
  refine Spec.leave (Post := fun _ hp => ∃ am cm X, hp = rC b ((s.voted m).msg1 am cm ⟨2, s.id, m.fr, s.hT, 0, 0, 0, 0, s.grants m, 0⟩) :: X) ?_ (fun v hp ⟨am, cm, X, h⟩ => ⟨[_], X, h, am, cm, rfl⟩)
  refine spec_of (keep := k53) (args' := [.ptr 0 b 0, .agg (encM m)]) Try.func53 rfl Try.ntmps53 s53_ok (by simp) ⟨rfl, fun _ h => h⟩ (fun _ _ h => h) (go_ok _ 100 _ _ ?_)
  simp only [go_sem, s53, k53, Nat.reduceBEq, Nat.reduceAdd, Nat.zero_add, Try.results53]
  intro b1
  have hla0 : 0 ≤ s.last := by
    obtain ⟨m0, m1, m2⟩ := hs
    simp only [RS.last]
    omega
  refine (stp_call [0] rfl rfl rfl ⟨_, Try.func40, rfl, rfl⟩ (c40 b s hs) rfl (fun _ h => h) rfl (fun _ _ h => h) ?_).safe trivial
  rintro v hp ⟨rfl, rfl⟩
  refine ⟨by simp only [go_sem, Nat.reduceBEq, Nat.reduceAdd, Nat.zero_add], ?_⟩
  refine (stp_call [0] rfl rfl rfl ⟨_, Try.func39, rfl, rfl⟩ (c39 b s s.last hs (by omega) hla) rfl (fun _ h => h) rfl (fun _ _ h => h) ?_).safe trivial
  rintro v hp ⟨rfl, rfl⟩
  refine ⟨trivial, go_ok _ 4 _ _ ?_⟩
  simp only [go_sem, Nat.reduceBEq, Nat.reduceAdd, Nat.zero_add]
  refine safe_ops_mid ⟨[(0, .ptr 0 b 0), (3, .ptr 1 b1 0), (4, I (s.term s.last)), (5, Bl (s.grants m))], [rC b s, .cells b1 54 (encM m)]⟩ ?_ ?_
  · refine go_ok _ 100 _ _ ?_
    simp only [go_sem, Nat.reduceBEq, Nat.reduceAdd, Nat.zero_add, Try.results53]
    have hmv : (s.voted m).msgs = nilS := by
      unfold RS.voted
      split <;> exact hm
    have hid : (s.voted m).id = s.id ∧ (s.voted m).hT = s.hT := by
      unfold RS.voted
      split <;> exact ⟨rfl, rfl⟩
    have hfin := c71 (E := E) b (s.voted m) ⟨2, 0, m.fr, 0, 0, 0, 0, 0, s.grants m, 0⟩ hmv
    rw [hid.1, hid.2] at hfin
    refine ⟨fun hg => ⟨fun _ => ?_, fun h => absurd h (by simp [hr])⟩, fun hg => ?_⟩
    · have hv : s.voted m = { s with hV := m.fr, ticks := 0, taken := s.draw } := by simp [RS.voted, hg]
      refine (stp_call [0] rfl rfl rfl ⟨_, Try.func70, rfl, rfl⟩ (c70 b { s with hV := m.fr }) rfl (fun _ h => h) rfl (fun _ _ h => h) ?_).safe trivial
      rintro v hp rfl
      refine ⟨trivial, go_ok _ 100 _ _ ?_⟩
      simp only [go_sem, Nat.reduceBEq, Nat.reduceAdd, Nat.zero_add]
      refine (stp_call [0] rfl rfl rfl ⟨_, Try.func71, rfl, rfl⟩ hfin rfl (fun _ h => h) rfl (fun ro H h => by rw [hv]; exact h) ?_).safe trivial
      rintro v hp ⟨am, cm, rfl⟩
      refine ⟨trivial, go_ok _ 100 _ _ ?_⟩
      simp only [go_sem, Nat.reduceBEq, Nat.reduceAdd, Nat.zero_add, Try.results53]
      exact ⟨am, cm, _, rfl⟩
    · have hv : s.voted m = s := by simp [RS.voted, hg]
      refine (stp_call [0] rfl rfl rfl ⟨_, Try.func71, rfl, rfl⟩ hfin rfl (fun _ h => h) rfl (fun ro H h => by rw [hv]; exact h) ?_).safe trivial
      rintro v hp ⟨am, cm, rfl⟩
      refine ⟨trivial, go_ok _ 100 _ _ ?_⟩
      simp only [go_sem, Nat.reduceBEq, Nat.reduceAdd, Nat.zero_add, Try.results53]
      exact ⟨am, cm, _, rfl⟩
  · intro hrest
    refine go_ok _ 39 _ _ ?_
    simp only [go_sem, Nat.reduceBEq, Nat.reduceAdd, Nat.zero_add]
    refine ⟨fun h => by rw [h]; rfl, fun h => by rw [h]; rfl, fun h => by rw [h]; rfl, fun hg => ?_, fun hg => ?_, ?_⟩
    · refine Stp.safeOn ?_ trivial
      refine stp_call [0] (args := [.ptr 0 b 0]) rfl rfl rfl ⟨_, Try.func40, rfl, rfl⟩ (c40 b s hs) (by simp [SV.dens, SV.den, hg]) (fun _ h => by simp [SV.oks, SV.ok]) rfl (fun _ _ h => h) ?_
      rintro v hp ⟨rfl, rfl⟩
      refine ⟨by simp only [go_sem, Nat.reduceBEq, Nat.reduceAdd, Nat.zero_add], go_ok _ 6 _ _ ?_⟩
      simp only [go_sem, Nat.reduceBEq, Nat.reduceAdd, Nat.zero_add]
      refine ⟨fun h => ⟨h, fun h2 => by rw [h, h2]; rfl⟩, fun h => ⟨h, fun h2 => by rw [h, h2]; rfl⟩, ?_⟩
      refine Safe.sub ?_ hrest
      exact Sub.front (X := []) ⟨rfl, rfl, rfl, rfl, trivial⟩ rfl
    · have e : s.grants m = ((decide (s.hV = -1) || decide (s.hV = m.fr)) && decide (s.term s.last < m.lt)) := by
        unfold RS.grants
        revert hg
        generalize (decide (s.hV = -1) || decide (s.hV = m.fr)) = A
        generalize decide (s.term s.last < m.lt) = B
        generalize decide (m.lt = s.term s.last) = C
        generalize decide (s.last ≤ m.ix) = D
        cases A <;> cases B <;> cases C <;> cases D <;> decide
      refine ⟨fun h => (by rw [hg] at h; cases h), fun h => ⟨h, fun h2 => by rw [h, h2]; rfl⟩, fun h => ⟨h, fun h2 => by rw [h, h2]; rfl⟩, ?_⟩
      refine Safe.sub ?_ hrest
      rw [e]
      exact Sub.front (X := []) ⟨rfl, rfl, rfl, rfl, trivial⟩ rfl
    · rfl
end Go.SX
