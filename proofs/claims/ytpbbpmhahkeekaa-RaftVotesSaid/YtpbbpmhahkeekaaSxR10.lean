/- Contracts of the raft package: what is committed (a single voter). -/
import Derived.Test.YtpbbpmhahkeekaaSxR9
namespace Go.SX
open Go.Proofs
set_option maxRecDepth 1000000
variable {E : Env}

def RS.looked (s : RS) : RS := if s.role = 2 ∧ s.hC < s.last ∧ s.term s.last = s.hT then { s with hC := s.last } else s

theorem c47 (b : Nat) (s : RS) (hs : s.small) (hl : s.lone s.id) (h0 : 0 ≤ s.hC) : Spec Try.prog E 47 [.ptr 0 b 0] [rC b s] (fun _ hp => hp = [rC b s.looked]) := by
  refine Spec.leave (Post := fun _ hp => ∃ X, hp = rC b s.looked :: X) ?_ (fun v hp ⟨X, h⟩ => ⟨[_], X, by rw [h]; rfl, rfl⟩)
  refine spec_of (keep := k47) (args' := [.ptr 0 b 0]) Try.func47 rfl Try.ntmps47 s47_ok (by simp) ⟨rfl, fun _ h => h⟩ (fun _ _ h => h) (go_ok _ 100 _ _ ?_)
  simp only [go_sem, s47, k47, Nat.reduceBEq, Nat.reduceAdd, Nat.zero_add, Try.results47]
  intro bx
  refine ⟨fun h => ?_, fun h => ?_⟩
  · have h' : s.role ≠ 2 := by simpa using h
    have hn : ¬ (s.role = 2 ∧ s.hC < s.last ∧ s.term s.last = s.hT) := fun q => h' q.1
    exact ⟨_, by rw [RS.looked, if_neg hn]⟩
  refine (stp_call [0] rfl rfl rfl ⟨_, Try.func40, rfl, rfl⟩ (c40 b s hs) rfl (fun _ h => h) rfl (fun _ _ h => h) ?_).safe trivial
  rintro v hp ⟨rfl, rfl⟩
  refine ⟨trivial, go_ok _ 100 _ _ ?_⟩
  simp only [go_sem, Nat.reduceBEq, Nat.reduceAdd, Nat.zero_add]
  intro bi
  refine safe_loop (ι := Unit) (fun _ => ⟨[(0, .ptr 0 b 0), (1, .ptr 1 bx 0), (2, .ptr 2 bi 0)], [rC b s, .cells bx 24 [.ptr 0 b 0], .cells bi 3 [I s.last]]⟩) (fun _ => 0) () (Sub.front (by simp [envSub, look]) rfl) ?_
  intro _
  refine go_ok _ 100 _ _ ?_
  simp only [go_sem, Nat.reduceBEq, Nat.reduceAdd, Nat.zero_add, Try.results47]
  have hsm := hs
  obtain ⟨m0, m1, m2⟩ := hsm
  have hla : s.last = s.mIx + s.es.length := rfl
  have hix := hl.ix
  refine ⟨fun hc => ?_, fun hc => ?_, ?_⟩
  · refine (stp_call [0] (args := [.ptr 0 b 0, I s.last]) rfl rfl rfl ⟨_, Try.func39, rfl, rfl⟩ (c39 b s s.last hs (by omega) (by omega)) (by simp [SV.dens, SV.den, hc]) (fun _ h => by simp [SV.oks, SV.ok]) rfl (fun _ _ h => h) ?_).safeOn trivial
    rintro v hp ⟨rfl, rfl⟩
    refine ⟨by simp only [go_sem, Nat.reduceBEq, Nat.reduceAdd, Nat.zero_add, hc], go_ok _ 100 _ _ ?_⟩
    simp only [go_sem, Nat.reduceBEq, Nat.reduceAdd, Nat.zero_add, hc, Try.results47]
    refine ⟨fun ht => ?_, fun ht => ?_⟩
    · have hlook : s.looked = { s with hC := s.last } := by
        unfold RS.looked
        rw [if_pos ⟨by simpa using h, by simpa using hc, by simpa using ht⟩]
      have hsm' : RS.small { s with hC := s.last } := ⟨hs.m0, hs.m1, hs.len⟩
      have hl' : RS.lone { s with hC := s.last } s.id := ⟨hl.ix, hl.kd, hl.fi⟩
      refine (stp_call [0, 1, 2] rfl rfl rfl ⟨_, Try.func73, rfl, rfl⟩ (c73b b 74 s [.ptr 1 bx 0, .ptr 2 bi 0] (.cells bx 24 [.ptr 0 b 0]) (.cells bi 3 [I s.last]) hs hl ⟨_, Try.func74, rfl, rfl⟩ (c74 b bx bi s s.last)) rfl (fun _ h => h) rfl (fun _ _ h => h) ?_).safe trivial
      rintro v hp ⟨rfl, rfl⟩
      refine ⟨trivial, go_ok _ 100 _ _ ?_⟩
      simp only [go_sem, Nat.reduceBEq, Nat.reduceAdd, Nat.zero_add, reduceCtorEq]
      refine (stp_call [0] rfl rfl rfl ⟨_, Try.func41, rfl, rfl⟩ (c41 b { s with hC := s.last } hsm' hl') rfl (fun _ h => h) rfl (fun _ _ h => h) ?_).safe trivial
      rintro v hp rfl
      refine ⟨trivial, go_ok _ 100 _ _ ?_⟩
      simp only [go_sem, Nat.reduceBEq, Nat.reduceAdd, Nat.zero_add, reduceCtorEq]
      refine (stp_call [0] rfl rfl rfl ⟨_, Try.func40, rfl, rfl⟩ (c40 b { s with hC := s.last } hsm') rfl (fun _ h => h) rfl (fun _ _ h => h) ?_).safe trivial
      rintro v hp ⟨rfl, rfl⟩
      refine ⟨by simp only [go_sem, Nat.reduceBEq, Nat.reduceAdd, Nat.zero_add], ?_⟩
      refine (stp_call [0] rfl rfl rfl ⟨_, Try.func61, rfl, rfl⟩ (c61 b s.last 95 (RS.cs { s with hC := s.last }) s.la s.lc s.es rfl (by omega)) rfl (fun _ h => h) rfl (fun _ _ h => h) ?_).safe trivial
      rintro v hp ⟨rfl, rfl⟩
      rw [hl.chg]
      refine ⟨by simp only [go_sem, Nat.reduceBEq, Nat.reduceAdd, Nat.zero_add], go_ok _ 100 _ _ ?_⟩
      simp only [go_sem, Nat.reduceBEq, Nat.reduceAdd, Nat.zero_add, reduceCtorEq]
      have hpos : decide (0 ≤ s.last) = true := by simp; omega
      rw [hpos]
      refine ⟨fun _ => ?_, fun h => (by cases h), rfl⟩
      refine (stp_call [0] (args := [.ptr 0 b 0]) rfl rfl rfl ⟨_, Try.func42, rfl, rfl⟩ (c42 b { s with hC := s.last } s.id hsm' hl' rfl) (by simp [SV.dens, SV.den, hpos]) (fun _ h => by simp [SV.oks, SV.ok]) rfl (fun _ _ h => h) ?_).safeOn trivial
      rintro v hp ⟨rfl, rfl⟩
      refine ⟨trivial, go_ok _ 100 _ _ ?_⟩
      simp only [go_sem, Nat.reduceBEq, Nat.reduceAdd, Nat.zero_add, reduceCtorEq, hpos, Try.results47]
      exact ⟨_, by rw [hlook]⟩
    · have hn : ¬ (s.role = 2 ∧ s.hC < s.last ∧ s.term s.last = s.hT) := fun q => by simp [q.2.2] at ht
      exact ⟨_, by rw [RS.looked, if_neg hn]⟩
  · have hn : ¬ (s.role = 2 ∧ s.hC < s.last ∧ s.term s.last = s.hT) := fun q => by simp [q.2.1] at hc
    exact ⟨fun h => (by rw [hc] at h; cases h), _, by rw [RS.looked, if_neg hn]⟩
  · rfl
end Go.SX
