/- Contracts of the raft package: what most of the voters want (a single voter). -/
import Derived.Test.YtpbbpmhahkeekaaSxR7
namespace Go.SX
open Go.Proofs
set_option maxRecDepth 1000000
variable {E : Env}

/-- most of one are one: 'fid' says yes of it; two captured blocks -/
theorem c73b (b fid : Nat) (s : RS) (cap : List SV) (x y : Chunk) (hs : s.small) (hl : s.lone s.id) (hb : ∃ fn, Try.prog.funcs[fid]? = some fn ∧ fn.body.isSome = true ∧ (fn.name == "runtime.NumGoroutine") = false)
    (hc : Spec Try.prog E fid (I s.id :: cap) [rC b s, x, y] (fun v hp => v = Bl true ∧ hp = [rC b s, x, y])) :
    Spec Try.prog E 73 [.ptr 0 b 0, .fn (.func fid) [] cap] [rC b s, x, y] (fun v hp => v = Bl true ∧ hp = [rC b s, x, y]) := by
  refine Spec.leave (Post := fun v hp => v = Bl true ∧ ∃ X, hp = rC b s :: x :: y :: X) ?_ (fun v hp ⟨h1, X, h2⟩ => ⟨[rC b s, x, y], X, by rw [h2]; rfl, h1, rfl⟩)
  refine spec_of (keep := k73) (args' := [.ptr 0 b 0, .fn (.func fid) [] cap]) Try.func73 rfl Try.ntmps73 s73_ok (by simp) ⟨rfl, fun _ h => h⟩ (fun _ _ h => h) (go_ok _ 100 _ _ ?_)
  simp only [go_sem, s73, k73, Nat.reduceBEq, Nat.reduceAdd, Nat.zero_add]
  refine (stp_call [0] rfl rfl rfl ⟨_, Try.func26, rfl, rfl⟩ (c26 3 b s s.id hs hl) rfl (fun _ h => h) rfl (fun _ _ h => h) ?_).safe trivial
  rintro v hp ⟨nl, b', off, cap', rfl, rfl⟩
  refine ⟨trivial, go_ok _ 100 _ _ ?_⟩
  simp only [go_sem, Nat.reduceBEq, Nat.reduceAdd, Nat.zero_add]
  refine safe_loop (fun i : {i : Nat // i ≤ 1} => ⟨[(0, .ptr 0 b 0), (1, .fn (.func fid) [] cap), (5, I i.1), (6, .osl 3 nl b' off 1 cap'), (11, .osl 3 nl b' off 1 cap'), (12, I 1), (13, I i.1)], [rC b s, x, y, .row nl b' 3 off 1 1 cap' (rowsV encI [s.id])]⟩) (fun i => 1 - i.1) ⟨0, by omega⟩
    (Sub.front (by simp [envSub, look]) rfl) ?_
  rintro ⟨i, hi⟩
  refine go_ok _ 100 _ _ ?_
  simp only [go_sem, Nat.reduceBEq, Nat.reduceAdd, Nat.zero_add, Try.results73]
  refine ⟨fun h => ?_, fun h => ?_⟩
  · have h0 : i = 0 := by simp at h; omega
    subst h0
    and_intros
    all_goals try (first | omega | decide)
    refine (stp_call [0, 1, 2] (args := I s.id :: cap) rfl rfl rfl hb hc (by simp [SV.dens]) (fun _ h => by simpa using h) rfl (fun _ _ h => h) ?_).safe trivial
    rintro v hp ⟨rfl, rfl⟩
    refine ⟨trivial, go_ok _ 100 _ _ ?_⟩
    simp only [go_sem, Nat.reduceBEq, Nat.reduceAdd, Nat.zero_add]
    refine ⟨⟨by simp [inI64], by simp [inI64], ?_⟩, fun h => by cases h⟩
    exact safe_lend ⟨1, by omega⟩ (by simp) (Sub.front (X := []) (by simp [envSub, look]) rfl)
  · have h0 : i = 1 := by simp at h; omega
    subst h0
    exact ⟨by simp [inI64], rfl, _, rfl⟩
/-- most of one are one: 'fid' says yes of it; one captured block -/
theorem c73a (b fid : Nat) (s : RS) (cap : List SV) (x : Chunk) (hs : s.small) (hl : s.lone s.id) (hb : ∃ fn, Try.prog.funcs[fid]? = some fn ∧ fn.body.isSome = true ∧ (fn.name == "runtime.NumGoroutine") = false)
    (hc : Spec Try.prog E fid (I s.id :: cap) [rC b s, x] (fun v hp => v = Bl true ∧ hp = [rC b s, x])) :
    Spec Try.prog E 73 [.ptr 0 b 0, .fn (.func fid) [] cap] [rC b s, x] (fun v hp => v = Bl true ∧ hp = [rC b s, x]) := by
  refine Spec.leave (Post := fun v hp => v = Bl true ∧ ∃ X, hp = rC b s :: x :: X) ?_ (fun v hp ⟨h1, X, h2⟩ => ⟨[rC b s, x], X, by rw [h2]; rfl, h1, rfl⟩)
  refine spec_of (keep := k73) (args' := [.ptr 0 b 0, .fn (.func fid) [] cap]) Try.func73 rfl Try.ntmps73 s73_ok (by simp) ⟨rfl, fun _ h => h⟩ (fun _ _ h => h) (go_ok _ 100 _ _ ?_)
  simp only [go_sem, s73, k73, Nat.reduceBEq, Nat.reduceAdd, Nat.zero_add]
  refine (stp_call [0] rfl rfl rfl ⟨_, Try.func26, rfl, rfl⟩ (c26 2 b s s.id hs hl) rfl (fun _ h => h) rfl (fun _ _ h => h) ?_).safe trivial
  rintro v hp ⟨nl, b', off, cap', rfl, rfl⟩
  refine ⟨trivial, go_ok _ 100 _ _ ?_⟩
  simp only [go_sem, Nat.reduceBEq, Nat.reduceAdd, Nat.zero_add]
  refine safe_loop (fun i : {i : Nat // i ≤ 1} => ⟨[(0, .ptr 0 b 0), (1, .fn (.func fid) [] cap), (5, I i.1), (6, .osl 2 nl b' off 1 cap'), (11, .osl 2 nl b' off 1 cap'), (12, I 1), (13, I i.1)], [rC b s, x, .row nl b' 3 off 1 1 cap' (rowsV encI [s.id])]⟩) (fun i => 1 - i.1) ⟨0, by omega⟩
    (Sub.front (by simp [envSub, look]) rfl) ?_
  rintro ⟨i, hi⟩
  refine go_ok _ 100 _ _ ?_
  simp only [go_sem, Nat.reduceBEq, Nat.reduceAdd, Nat.zero_add, Try.results73]
  refine ⟨fun h => ?_, fun h => ?_⟩
  · have h0 : i = 0 := by simp at h; omega
    subst h0
    and_intros
    all_goals try (first | omega | decide)
    refine (stp_call [0, 1] (args := I s.id :: cap) rfl rfl rfl hb hc (by simp [SV.dens]) (fun _ h => by simpa using h) rfl (fun _ _ h => h) ?_).safe trivial
    rintro v hp ⟨rfl, rfl⟩
    refine ⟨trivial, go_ok _ 100 _ _ ?_⟩
    simp only [go_sem, Nat.reduceBEq, Nat.reduceAdd, Nat.zero_add]
    refine ⟨⟨by simp [inI64], by simp [inI64], ?_⟩, fun h => by cases h⟩
    exact safe_lend ⟨1, by omega⟩ (by simp) (Sub.front (X := []) (by simp [envSub, look]) rfl)
  · have h0 : i = 1 := by simp at h; omega
    subst h0
    exact ⟨by simp [inI64], rfl, _, rfl⟩

theorem c74 (b bx bi : Nat) (s : RS) (i : Int) : Spec Try.prog E 74 [I s.id, .ptr 1 bx 0, .ptr 2 bi 0] [rC b s, .cells bx 24 [.ptr 0 b 0], .cells bi 3 [I i]] (fun r hp => r = Bl true ∧ hp = [rC b s, .cells bx 24 [.ptr 0 b 0], .cells bi 3 [I i]]) := by
  refine spec_of (keep := k74) (args' := [I s.id, .ptr 1 bx 0, .ptr 2 bi 0]) Try.func74 rfl Try.ntmps74 s74_ok (by simp) ⟨rfl, fun _ h => h⟩ (fun _ _ h => h) (go_ok _ 100 _ _ ?_)
  simp only [go_sem, s74, k74, Nat.reduceBEq, Nat.reduceAdd, Nat.zero_add, Try.results74, decide_true, reduceCtorEq]
  rfl
end Go.SX
