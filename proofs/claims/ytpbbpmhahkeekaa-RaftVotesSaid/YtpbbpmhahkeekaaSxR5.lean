/- Contracts of the raft package: the other voters (a single voter has none); copies of entries. -/
import Derived.Test.YtpbbpmhahkeekaaSxR4
import Derived.Test.YtpbbpmhahkeekaaSxQ
namespace Go.SX
open Go.Proofs
set_option maxRecDepth 1000000
variable {E : Env}

/-- the closure of 'others': is it this node? -/
theorem c84 (b bx : Nat) (s : RS) (v : Int) : Spec Try.prog E 84 [I v, .ptr 1 bx 0] [rC b s, .cells bx 24 [.ptr 0 b 0]] (fun r hp => r = Bl (decide (v = s.id)) ∧ hp = [rC b s, .cells bx 24 [.ptr 0 b 0]]) := by
  refine spec_of (keep := k84) (args' := [I v, .ptr 1 bx 0]) Try.func84 rfl Try.ntmps84 s84_ok (by simp) ⟨rfl, fun _ h => h⟩ (fun _ _ h => h) (go_ok _ 100 _ _ ?_)
  simp only [go_sem, s84, k84, Nat.reduceBEq, Nat.reduceAdd, Nat.zero_add, Try.results84]

/-- IndexFunc over [id] with the closure -/
theorem c91 (b bx : Nat) (s : RS) (nl : Bool) (br off cap : Nat) : Spec Try.prog E 91 [.osl 2 nl br off 1 cap, .fn (.func 84) [] [.ptr 1 bx 0]] [rC b s, .cells bx 24 [.ptr 0 b 0], .row nl br 3 off 1 1 cap (rowsV encI [s.id])]
    (fun r hp => r = I 0 ∧ hp = [rC b s, .cells bx 24 [.ptr 0 b 0], .row nl br 3 off 1 1 cap (rowsV encI [s.id])]) := by
  refine spec_of (keep := k91) (args' := [.osl 2 nl br off 1 cap, .fn (.func 84) [] [.ptr 1 bx 0]]) Try.func91 rfl Try.ntmps91 s91_ok (by simp) ⟨rfl, fun _ h => h⟩ (fun _ _ h => h) (go_ok _ 100 _ _ ?_)
  simp only [go_sem, s91, k91, Nat.reduceBEq, Nat.reduceAdd, Nat.zero_add]
  refine safe_loop (ι := Unit) (fun _ => ⟨[(0, .osl 2 nl br off 1 cap), (1, .fn (.func 84) [] [.ptr 1 bx 0]), (7, I 1), (8, I 0)], [rC b s, .cells bx 24 [.ptr 0 b 0], .row nl br 3 off 1 1 cap (rowsV encI [s.id])]⟩) (fun _ => 0) ()
    (Sub.front (by simp [envSub, look]) rfl) ?_
  intro _
  refine go_ok _ 100 _ _ ?_
  simp only [go_sem, Nat.reduceBEq, Nat.reduceAdd, Nat.zero_add]
  refine ⟨fun _ => ?_, fun h => by simp at h⟩
  and_intros
  all_goals try (first | rfl | omega | decide)
  refine (stp_call [0, 1] rfl rfl rfl ⟨_, Try.func84, rfl, rfl⟩ (c84 b bx s s.id) rfl (fun _ h => h) rfl (fun _ _ h => h) ?_).safe trivial
  rintro v hp ⟨rfl, rfl⟩
  refine ⟨trivial, go_ok _ 100 _ _ ?_⟩
  simp only [go_sem, Nat.reduceBEq, Nat.reduceAdd, Nat.zero_add, Try.results91, reduceCtorEq, Int.reduceNeg, Int.reduceEq, Int.reduceLT, Int.reduceLE, Int.reduceAdd, Int.reduceSub, Int.reduceToNat, decide_true, decide_false, false_implies, true_implies]

/-- DeleteFunc over [id] with the closure -/
theorem c83 (b bx : Nat) (s : RS) (nl : Bool) (br off cap : Nat) : Spec Try.prog E 83 [.osl 2 nl br off 1 cap, .fn (.func 84) [] [.ptr 1 bx 0]] [rC b s, .cells bx 24 [.ptr 0 b 0], .row nl br 3 off 1 1 cap (rowsV encI [s.id])]
    (fun r hp => ∃ c nl br off cap X, r = .osl c nl br off 0 cap ∧ hp = rC b s :: X) := by
  refine spec_of (keep := k83) (args' := [.osl 2 nl br off 1 cap, .fn (.func 84) [] [.ptr 1 bx 0]]) Try.func83 rfl Try.ntmps83 s83_ok (by simp) ⟨rfl, fun _ h => h⟩ (fun _ _ h => h) (safe_rowcap (c := 2) rfl fun hcap => go_ok _ 100 _ _ ?_)
  simp only [go_sem, s83, k83, Nat.reduceBEq, Nat.reduceAdd, Nat.zero_add]
  refine (stp_call [0, 1, 2] rfl rfl rfl ⟨_, Try.func91, rfl, rfl⟩ (c91 b bx s nl br off cap) rfl (fun _ h => h) rfl (fun _ _ h => h) ?_).safe trivial
  rintro v hp ⟨rfl, rfl⟩
  refine ⟨trivial, go_ok _ 100 _ _ ?_⟩
  simp only [go_sem, Nat.reduceBEq, Nat.reduceAdd, Nat.zero_add, reduceCtorEq, Int.reduceNeg, Int.reduceEq, Int.reduceLT, Int.reduceLE, Int.reduceAdd, Int.reduceSub, Int.reduceToNat, decide_true, decide_false, false_implies, true_implies]
  refine ⟨by simp [inI64], ?_⟩
  refine safe_loop (ι := Unit) (fun _ => ⟨[(0, .osl 2 nl br off 1 cap), (5, I 0), (6, I 1)], [rC b s, .cells bx 24 [.ptr 0 b 0], .row nl br 3 off 1 1 cap (rowsV encI [s.id])]⟩) (fun _ => 0) ()
    (Sub.front (by simp [envSub, look]) rfl) ?_
  intro _
  refine go_ok _ 100 _ _ ?_
  simp only [go_sem, Nat.reduceBEq, Nat.reduceAdd, Nat.zero_add, reduceCtorEq, Int.reduceNeg, Int.reduceEq, Int.reduceLT, Int.reduceLE, Int.reduceAdd, Int.reduceSub, Int.reduceToNat, decide_true, decide_false, false_implies, true_implies]
  refine ⟨fun h => absurd h (by decide), fun _ => ?_⟩
  have hcz : ¬ (cap : Int) = 0 := by omega
  simp only [if_neg hcz, Nat.zero_mul, Nat.add_zero, Nat.sub_zero, Int.toNat_natCast]
  refine ⟨by omega, ?_⟩
  refine Stp.safeE (stp_clear (xo := .t 38) (c := 2) (b := br) (off := off) (off' := off) (n := 1) (n' := 1) (cap := cap) (nl := nl) (T := 3) (p := 0) (e := 3) (z := .int .i64 0) (sz := 1) (f := rowsV encI [s.id]) rfl rfl rfl rfl rfl (by decide) (by simp [Value.oneCell', Value.cells]) rfl rfl rfl (by decide) (by decide) trivial ?_) rfl
  refine go_ok _ 100 _ _ ?_
  simp only [go_sem, Nat.reduceBEq, Nat.reduceAdd, Nat.zero_add, Try.results83, reduceCtorEq, Int.reduceNeg, Int.reduceEq, Int.reduceLT, Int.reduceLE, Int.reduceAdd, Int.reduceSub, Int.reduceToNat, decide_true, decide_false, false_implies, true_implies]
  exact ⟨by simp, 2, nl, br, _, _, _, rfl, rfl⟩

/-- who else votes: none -/
theorem c63 (b : Nat) (s : RS) (hs : s.small) (hl : s.lone s.id) : Spec Try.prog E 63 [.ptr 0 b 0] [rC b s] (fun r hp => ∃ c nl br off cap, r = .osl c nl br off 0 cap ∧ hp = [rC b s]) := by
  refine Spec.leave (Post := fun r hp => ∃ c nl br off cap X, r = .osl c nl br off 0 cap ∧ hp = rC b s :: X) ?_ (fun v hp ⟨c, nl, br, off, cap, X, h1, h2⟩ => ⟨[rC b s], X, by simp [h2], c, nl, br, off, cap, h1, rfl⟩)
  refine spec_of (keep := k63) (args' := [.ptr 0 b 0]) Try.func63 rfl Try.ntmps63 s63_ok (by simp) ⟨rfl, fun _ h => h⟩ (fun _ _ h => h) (go_ok _ 100 _ _ ?_)
  simp only [go_sem, s63, k63, Nat.reduceBEq, Nat.reduceAdd, Nat.zero_add]
  intro bx
  refine (stp_call [0] rfl rfl rfl ⟨_, Try.func26, rfl, rfl⟩ (c26 2 b s s.id hs hl) rfl (fun _ h => h) rfl (fun _ _ h => h) ?_).safe trivial
  rintro v hp ⟨nl, b', off, cap', rfl, rfl⟩
  refine ⟨trivial, go_ok _ 100 _ _ ?_⟩
  simp only [go_sem, Nat.reduceBEq, Nat.reduceAdd, Nat.zero_add]
  refine (stp_call [0, 1, 2] rfl rfl rfl ⟨_, Try.func83, rfl, rfl⟩ (c83 b bx s nl b' off cap') rfl (fun _ h => h) rfl (fun _ _ h => h) ?_).safe trivial
  rintro v hp ⟨c, nl, br, off, cap, X, rfl, rfl⟩
  refine ⟨trivial, go_ok _ 100 _ _ ?_⟩
  simp only [go_sem, Nat.reduceBEq, Nat.reduceAdd, Nat.zero_add, Try.results63]
  obtain ⟨Y, hY⟩ := place_head [1, 2] (rC b s) [.cells bx 24 [.ptr 0 b 0], .row _ b' 3 _ 1 1 cap' (rowsV encI [s.id])] X (by simp)
  exact ⟨c, nl, br, off, cap, Y, rfl, hY⟩

/-- all others are sent to: there are none -/
theorem c41 (b : Nat) (s : RS) (hs : s.small) (hl : s.lone s.id) : Spec Try.prog E 41 [.ptr 0 b 0] [rC b s] (fun r hp => hp = [rC b s]) := by
  refine spec_of (keep := k41) (args' := [.ptr 0 b 0]) Try.func41 rfl Try.ntmps41 s41_ok (by simp) ⟨rfl, fun _ h => h⟩ (fun _ _ h => h) (go_ok _ 100 _ _ ?_)
  simp only [go_sem, s41, k41, Nat.reduceBEq, Nat.reduceAdd, Nat.zero_add]
  refine (stp_call [0] rfl rfl rfl ⟨_, Try.func63, rfl, rfl⟩ (c63 b s hs hl) rfl (fun _ h => h) rfl (fun _ _ h => h) ?_).safe trivial
  rintro v hp ⟨c, nl, br, off, cap, rfl, rfl⟩
  refine ⟨trivial, go_ok _ 100 _ _ ?_⟩
  simp only [go_sem, Nat.reduceBEq, Nat.reduceAdd, Nat.zero_add]
  refine safe_loop (ι := Unit) (fun _ => ⟨[(6, I 0), (7, I 0)], [rC b s]⟩) (fun _ => 0) () (Sub.front (by simp [envSub, look]) rfl) ?_
  intro _
  refine go_ok _ 100 _ _ ?_
  simp only [go_sem, Nat.reduceBEq, Nat.reduceAdd, Nat.zero_add, Try.results41]
  exact fun h => absurd h (by decide)

theorem c70 (b : Nat) (s : RS) : Spec Try.prog E 70 [.ptr 0 b 0] [rC b s] (fun r hp => hp = [rC b { s with ticks := 0, taken := s.draw }]) := by
  refine spec_of (keep := k70) (args' := [.ptr 0 b 0]) Try.func70 rfl Try.ntmps70 s70_ok (by simp) ⟨rfl, fun _ h => h⟩ (fun _ _ h => h) (go_ok _ 100 _ _ ?_)
  simp only [go_sem, s70, k70, Nat.reduceBEq, Nat.reduceAdd, Nat.zero_add, Try.results70]
  rfl

def nilS : SV := .view none 0 0 1 (fun _ _ => .val undef)
def RS.followed (s : RS) : RS := { s with ticks := if s.role ≠ 0 then 0 else s.ticks, taken := if s.role ≠ 0 then s.draw else s.taken, role := 0, leader := -1, votes := nilS, peers := .val (.map none), waits := nilS, round := 0 }
theorem c51 (b : Nat) (s : RS) : Spec Try.prog E 51 [.ptr 0 b 0] [rC b s] (fun r hp => hp = [rC b s.followed]) := by
  refine spec_of (keep := k51) (args' := [.ptr 0 b 0]) Try.func51 rfl Try.ntmps51 s51_ok (by simp) ⟨rfl, fun _ h => h⟩ (fun _ _ h => h) (go_ok _ 100 _ _ ?_)
  simp only [go_sem, s51, k51, Nat.reduceBEq, Nat.reduceAdd, Nat.zero_add, Try.results51]
  refine ⟨fun h => ?_, fun h => ?_⟩
  · have h' : s.role ≠ 0 := by simpa using h
    refine (stp_call [0] rfl rfl rfl ⟨_, Try.func70, rfl, rfl⟩ (c70 b s) rfl (fun _ h => h) rfl (fun _ _ h => h) ?_).safe trivial
    rintro v hp rfl
    refine ⟨trivial, go_ok _ 100 _ _ ?_⟩
    simp only [go_sem, Nat.reduceBEq, Nat.reduceAdd, Nat.zero_add, Try.results51]
    simp only [RS.followed, if_pos h', nilS]
    rfl
  · have h' : s.role = 0 := by simpa using h
    simp [RS.followed, RS.cs, h', nilS]
end Go.SX
