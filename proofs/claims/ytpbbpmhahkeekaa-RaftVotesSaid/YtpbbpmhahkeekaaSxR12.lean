/- Contracts of the raft package: a single voter stands, and is elected. -/
import Derived.Test.YtpbbpmhahkeekaaSxR11
import Derived.Test.YtpbbpmhahkeekaaSxU
namespace Go.SX
open Go.Proofs
set_option maxRecDepth 1000000
variable {E : Env}

def RS.stood (s : RS) (a : Option Addr) (cap : Nat) : RS := { s.followed with hT := s.hT + 1, hV := s.id, role := 1, votes := vI a cap [s.id], ticks := 0, taken := s.draw }

theorem c43 (b : Nat) (s : RS) (hs : s.small) (hl : s.lone s.id) (hd : s.fitsD) (hlen : s.es.length < 2 ^ 40) (h0 : 0 ≤ s.hC) (hT : 0 ≤ s.hT ∧ s.hT ≤ 2 ^ 62) :
    Spec Try.prog E 43 [.ptr 0 b 0] [rC b s] (fun _ hp => ∃ a cap bm la lc es' X, Same (s.es ++ [⟨s.last + 1, s.hT + 1, 1, ⟨none, 0, []⟩⟩]) es' ∧ hp = rC b (((s.stood a cap).led bm la lc es').looked) :: X) := by
  refine spec_of (keep := k43) (args' := [.ptr 0 b 0]) Try.func43 rfl Try.ntmps43 s43_ok (by simp) ⟨rfl, fun _ h => h⟩ (fun _ _ h => h) (go_ok _ 100 _ _ ?_)
  simp only [go_sem, s43, k43, Nat.reduceBEq, Nat.reduceAdd, Nat.zero_add]
  refine (stp_call [0] rfl rfl rfl ⟨_, Try.func51, rfl, rfl⟩ (c51 b s) rfl (fun _ h => h) rfl (fun _ _ h => h) ?_).safe trivial
  rintro v hp rfl
  refine ⟨trivial, go_ok _ 35 _ _ ?_⟩
  simp only [go_sem, Nat.reduceBEq, Nat.reduceAdd, Nat.zero_add]
  have hT' : s.followed.hT = s.hT := rfl
  refine ⟨by simp only [inI64]; omega, fun b1 => ?_⟩
  refine safe_frz2 (hp := [.cells b 95 _]) (f' := rowsV encI [s.id]) (fun i j hi hj => ?_) ?_
  · have : i = 0 := by omega
    have : j = 0 := by omega
    subst i j
    rfl
  refine go_ok _ 100 _ _ ?_
  simp only [go_sem, frz, Nat.reduceBEq, Nat.reduceAdd, Nat.zero_add, if_false]
  have e1 : ({ s.followed with hT := s.hT + 1, hV := s.id, role := 1, votes := vI (some ⟨b1, 0, none⟩) 1 [s.id] } : RS).small := ⟨hs.m0, hs.m1, hs.len⟩
  refine (stp_call [0] rfl rfl rfl ⟨_, Try.func70, rfl, rfl⟩ (c70 b { s.followed with hT := s.hT + 1, hV := s.id, role := 1, votes := vI (some ⟨b1, 0, none⟩) 1 [s.id] }) rfl (fun _ h => h) rfl (fun _ _ h => h) ?_).safe trivial
  rintro v hp rfl
  refine ⟨trivial, go_ok _ 100 _ _ ?_⟩
  simp only [go_sem, Nat.reduceBEq, Nat.reduceAdd, Nat.zero_add]
  have hsm : (s.stood (some ⟨b1, 0, none⟩) 1).small := ⟨hs.m0, hs.m1, hs.len⟩
  have hlo : (s.stood (some ⟨b1, 0, none⟩) 1).lone (s.stood (some ⟨b1, 0, none⟩) 1).id := ⟨hl.ix, hl.kd, hl.fi⟩
  refine (stp_call [0] rfl rfl rfl ⟨_, Try.func63, rfl, rfl⟩ (c63 b (s.stood (some ⟨b1, 0, none⟩) 1) hsm hlo) rfl (fun _ h => h) rfl (fun _ _ h => h) ?_).safe trivial
  rintro v hp ⟨c, nl, br, off, cap', rfl, rfl⟩
  refine ⟨trivial, go_ok _ 100 _ _ ?_⟩
  simp only [go_sem, Nat.reduceBEq, Nat.reduceAdd, Nat.zero_add]
  refine safe_loop (ι := Unit) (fun _ => ⟨[(0, .ptr 0 b 0), (38, I 0), (39, I 0)], [rC b (s.stood (some ⟨b1, 0, none⟩) 1)]⟩) (fun _ => 0) ()
    (Sub.front (by simp [envSub, look]) rfl) ?_
  intro _
  refine go_ok _ 100 _ _ ?_
  simp only [go_sem, Nat.reduceBEq, Nat.reduceAdd, Nat.zero_add]
  refine ⟨fun h => absurd h (by decide), fun _ => ?_⟩
  refine (stp_call [0] rfl rfl rfl ⟨_, Try.func55, rfl, rfl⟩ (c55 b (s.stood (some ⟨b1, 0, none⟩) 1) (some ⟨b1, 0, none⟩) 1 hsm hlo hd hlen rfl h0) rfl (fun _ h => h) rfl (fun _ _ h => h) ?_).safe trivial
  rintro v hp ⟨bm, la, lc, es', X, hsame, rfl⟩
  refine ⟨trivial, go_ok _ 100 _ _ ?_⟩
  simp only [go_sem, Nat.reduceBEq, Nat.reduceAdd, Nat.zero_add, Try.results43]
  exact ⟨some ⟨b1, 0, none⟩, 1, bm, la, lc, es', _, hsame, rfl⟩
end Go.SX
