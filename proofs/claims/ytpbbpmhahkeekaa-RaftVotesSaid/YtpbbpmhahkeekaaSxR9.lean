/- Contracts of the raft package: a single voter comes to lead. -/
import Derived.Test.YtpbbpmhahkeekaaSxR8
namespace Go.SX
open Go.Proofs
set_option maxRecDepth 1000000
variable {E : Env}

theorem c77 (b bx : Nat) (s : RS) (a : Option Addr) (cap : Nat) (hv : s.votes = vI a cap [s.id]) : Spec Try.prog E 77 [I s.id, .ptr 1 bx 0] [rC b s, .cells bx 24 [.ptr 0 b 0]] (fun r hp => r = Bl true ∧ hp = [rC b s, .cells bx 24 [.ptr 0 b 0]]) := by
  refine spec_of (keep := k77) (args' := [I s.id, .ptr 1 bx 0]) Try.func77 rfl Try.ntmps77 s77_ok (by simp) ⟨rfl, fun _ h => h⟩ (fun _ _ h => h) (go_ok _ 100 _ _ ?_)
  simp only [go_sem, s77, k77, Nat.reduceBEq, Nat.reduceAdd, Nat.zero_add]
  refine (stp_call [] (args := [vI a cap [s.id], I s.id]) rfl rfl rfl ⟨_, Try.func54, rfl, rfl⟩ (c54 a cap [s.id] s.id (by simp)) (by rw [hv]; rfl) (fun _ h => by rw [hv] at h; exact h) rfl (fun _ _ h => h) ?_).safe trivial
  rintro v hp ⟨rfl, rfl⟩
  refine ⟨trivial, go_ok _ 100 _ _ ?_⟩
  simp only [go_sem, Nat.reduceBEq, Nat.reduceAdd, Nat.zero_add, Try.results77]
  simp

theorem c75 (b bx bw : Nat) (s : RS) (x y z : Int) : Spec Try.prog E 75 [I s.id, .ptr 1 bx 0, .ptr 2 bw 0] [rC b s, .cells bx 24 [.ptr 0 b 0], .cells bw 100 [I x, I y, I z]] (fun r hp => r = Bl true ∧ hp = [rC b s, .cells bx 24 [.ptr 0 b 0], .cells bw 100 [I x, I y, I z]]) := by
  refine spec_of (keep := k75) (args' := [I s.id, .ptr 1 bx 0, .ptr 2 bw 0]) Try.func75 rfl Try.ntmps75 s75_ok (by simp) ⟨rfl, fun _ h => h⟩ (fun _ _ h => h) (go_ok _ 100 _ _ ?_)
  simp only [go_sem, s75, k75, Nat.reduceBEq, Nat.reduceAdd, Nat.zero_add, Try.results75, decide_true, reduceCtorEq]
  rfl
end Go.SX
