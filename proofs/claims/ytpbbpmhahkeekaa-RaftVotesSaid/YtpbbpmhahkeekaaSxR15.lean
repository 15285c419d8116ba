/- Contracts of the raft package: ticks of a single voter. -/
import Derived.Test.YtpbbpmhahkeekaaSxR14
namespace Go.SX
open Go.Proofs
set_option maxRecDepth 1000000
variable {E : Env}

def RS.tick1 (s : RS) (x : Int) : RS := { s with draw := Int.tmod (Int.tmod x 10 + 10) 10, ticks := s.ticks + 1 }

theorem c15a (b : Nat) (s : RS) (x : Int) (hro : s.role ≠ 2) (ht : 0 ≤ s.ticks ∧ s.ticks ≤ 2 ^ 40) (hk : 0 ≤ s.taken ∧ s.taken ≤ 2 ^ 40) (hlt : s.ticks + 1 < 10 + s.taken) :
    Spec Try.prog E 15 [.ptr 0 b 0, I x] [rC b s] (fun _ hp => hp = [rC b (s.tick1 x)]) := by
  have hx : -10 < Int.tmod x 10 ∧ Int.tmod x 10 < 10 := by
    constructor
    · exact (Int.neg_lt_of_neg_lt (Int.neg_tmod x 10 ▸ Int.tmod_lt_of_pos (-x) (by decide)))
    · exact Int.tmod_lt_of_pos x (by decide)
  refine spec_of (keep := k15) (args' := [.ptr 0 b 0, I x]) Try.func15 rfl Try.ntmps15 s15_ok (by simp) ⟨rfl, fun _ h => h⟩ (fun _ _ h => h) (go_ok _ 100 _ _ ?_)
  simp only [go_sem, s15, k15, Nat.reduceBEq, Nat.reduceAdd, Nat.zero_add, Try.results15]
  refine ⟨by decide, by simp only [inI64]; omega, by decide, fun h => absurd h (by simp [hro]), fun _ => ?_⟩
  refine ⟨by simp only [inI64]; omega, by simp only [inI64]; omega, ?_⟩
  have hn : decide (10 + s.taken ≤ s.ticks + 1) = false := by simp; omega
  simp only [hn]
  exact ⟨fun h => absurd h (by decide), fun _ => ⟨fun h => absurd h (by decide), rfl⟩, rfl⟩

theorem c15b (b : Nat) (s : RS) (x : Int) (hs : s.small) (hl : s.lone s.id) (hd : s.fitsD) (hlen : s.es.length < 2 ^ 40) (h0 : 0 ≤ s.hC) (hT : 0 ≤ s.hT ∧ s.hT ≤ 2 ^ 62) (hro : s.role ≠ 2) (ht : 0 ≤ s.ticks ∧ s.ticks ≤ 2 ^ 40) (hk : 0 ≤ s.taken ∧ s.taken ≤ 2 ^ 40) (hge : 10 + s.taken ≤ s.ticks + 1) :
    Spec Try.prog E 15 [.ptr 0 b 0, I x] [rC b s] (fun _ hp => ∃ a cap bm la lc es' X, Same (s.es ++ [⟨s.last + 1, s.hT + 1, 1, ⟨none, 0, []⟩⟩]) es' ∧ hp = rC b ((((s.tick1 x).stood a cap).led bm la lc es').looked) :: X) := by
  have hx : -10 < Int.tmod x 10 ∧ Int.tmod x 10 < 10 := by
    constructor
    · exact (Int.neg_lt_of_neg_lt (Int.neg_tmod x 10 ▸ Int.tmod_lt_of_pos (-x) (by decide)))
    · exact Int.tmod_lt_of_pos x (by decide)
  refine spec_of (keep := k15) (args' := [.ptr 0 b 0, I x]) Try.func15 rfl Try.ntmps15 s15_ok (by simp) ⟨rfl, fun _ h => h⟩ (fun _ _ h => h) (go_ok _ 100 _ _ ?_)
  simp only [go_sem, s15, k15, Nat.reduceBEq, Nat.reduceAdd, Nat.zero_add, Try.results15]
  refine ⟨by decide, by simp only [inI64]; omega, by decide, fun h => absurd h (by simp [hro]), fun _ => ?_⟩
  refine ⟨by simp only [inI64]; omega, by simp only [inI64]; omega, ?_⟩
  have hn : decide (10 + s.taken ≤ s.ticks + 1) = true := by simp; omega
  simp only [hn]
  refine ⟨fun _ => ?_, fun h => absurd h (by decide), rfl⟩
  have hsm : (s.tick1 x).small := ⟨hs.m0, hs.m1, hs.len⟩
  have hlo : (s.tick1 x).lone (s.tick1 x).id := ⟨hl.ix, hl.kd, hl.fi⟩
  refine Stp.safeOn ?_ trivial
  refine stp_call [0] (args := [.ptr 0 b 0]) rfl rfl rfl ⟨_, Try.func42, rfl, rfl⟩ (c42 b (s.tick1 x) (s.tick1 x).id hsm hlo rfl) (by simp [SV.dens, SV.den]) (fun _ h => by simp [SV.oks, SV.ok]) (by rfl) (fun _ _ h => h) ?_
  rintro v hp ⟨rfl, rfl⟩
  refine ⟨trivial, go_ok _ 100 _ _ ?_⟩
  simp only [go_sem, Nat.reduceBEq, Nat.reduceAdd, Nat.zero_add, Try.results15]
  refine ⟨?_, fun h => by cases h⟩
  refine (stp_call [0] rfl rfl rfl ⟨_, Try.func43, rfl, rfl⟩ (c43 b (s.tick1 x) hsm hlo hd hlen h0 hT) rfl (fun _ h => h) rfl (fun _ _ h => h) ?_).safe trivial
  rintro v hp ⟨a, cap, bm, la, lc, es', X, hsame, rfl⟩
  refine ⟨trivial, go_ok _ 100 _ _ ?_⟩
  simp only [go_sem, Nat.reduceBEq, Nat.reduceAdd, Nat.zero_add, Try.results15]
  exact ⟨a, cap, bm, la, lc, es', _, hsame, rfl⟩
end Go.SX
