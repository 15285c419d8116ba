/- Contracts of the raft package: a single voter's calls: Role, Hard, Read, Propose. -/
import Derived.Test.YtpbbpmhahkeekaaSxR13
namespace Go.SX
open Go.Proofs
set_option maxRecDepth 1000000
variable {E : Env}

theorem c14 (b : Nat) (s : RS) : Spec Try.prog E 14 [.ptr 0 b 0] [rC b s] (fun v hp => v = I s.role ∧ hp = [rC b s]) := by
  refine spec_of (keep := k14) (args' := [.ptr 0 b 0]) Try.func14 rfl Try.ntmps14 s14_ok (by simp) ⟨rfl, fun _ h => h⟩ (fun _ _ h => h) (go_ok _ 100 _ _ ?_)
  simp only [go_sem, s14, k14, Nat.reduceBEq, Nat.reduceAdd, Nat.zero_add, Try.results14]

theorem ag30 : aggOf Try.prog 30 = some (some 3) := by kernel_rfl
theorem c19 (b : Nat) (s : RS) : Spec Try.prog E 19 [.ptr 0 b 0] [rC b s] (fun v hp => v = .agg [I s.hT, I s.hV, I s.hC] ∧ hp = [rC b s]) := by
  refine Spec.leave (Post := fun v hp => v = .agg [I s.hT, I s.hV, I s.hC] ∧ ∃ X, hp = rC b s :: X) ?_ (fun v hp ⟨h1, X, h2⟩ => ⟨[rC b s], X, by rw [h2]; rfl, h1, rfl⟩)
  refine spec_of (keep := k19) (args' := [.ptr 0 b 0]) Try.func19 rfl Try.ntmps19 s19_ok (by simp) ⟨rfl, fun _ h => h⟩ (fun _ _ h => h) (go_ok _ 100 _ _ ?_)
  simp only [go_sem, s19, k19, Nat.reduceBEq, Nat.reduceAdd, Nat.zero_add, Try.results19]
  intro b1
  refine safe_retC (l := [.agg [I s.hT, I s.hV, I s.hC]]) (vc := True) ?_ trivial ⟨rfl, _, rfl⟩ rfl rfl
  simp only [retC, Try.results19, go_sem, Nat.reduceBEq, ag30]

def RS.asked (s : RS) : RS := { s with round := s.round + 1 }
theorem c18 (b : Nat) (s : RS) (x : Int) (hs : s.small) (hl : s.lone s.id) (hw : s.waits = nilS) (hr : s.reads = nilS) (hro : s.role = 2) (ht : s.term s.hC = s.hT) (hC : 0 ≤ s.hC ∧ s.hC ≤ 2 ^ 61) (hrd : 0 ≤ s.round ∧ s.round ≤ 2 ^ 61) :
    Spec Try.prog E 18 [.ptr 0 b 0, I x] [rC b s] (fun v hp => v = I 0 ∧ ∃ c X, hp = rC b (s.asked.conf x s.hC c) :: X) := by
  refine spec_of (keep := k18) (args' := [.ptr 0 b 0, I x]) Try.func18 rfl Try.ntmps18 s18_ok (by simp) ⟨rfl, fun _ h => h⟩ (fun _ _ h => h) (go_ok _ 100 _ _ ?_)
  simp only [go_sem, s18, k18, Nat.reduceBEq, Nat.reduceAdd, Nat.zero_add, Try.results18]
  refine ⟨fun h => absurd h (by simp [hro]), fun _ => ?_⟩
  refine (stp_call [0] rfl rfl rfl ⟨_, Try.func39, rfl, rfl⟩ (c39 b s s.hC hs (by omega) (by omega)) rfl (fun _ h => h) rfl (fun _ _ h => h) ?_).safe trivial
  rintro v hp ⟨rfl, rfl⟩
  refine ⟨by simp only [go_sem, Nat.reduceBEq, Nat.reduceAdd, Nat.zero_add], go_ok _ 100 _ _ ?_⟩
  simp only [go_sem, Nat.reduceBEq, Nat.reduceAdd, Nat.zero_add, hw, nilS]
  refine ⟨fun h => absurd h (by simp [ht]), fun _ => ⟨fun h => absurd h (by decide), fun _ => ?_⟩⟩
  refine ⟨by simp only [inI64]; omega, fun b1 => ?_⟩
  refine (stp_appn (x := .osl 1 false b1 0 1 1) (gx := litF 3 [I x, I s.hC, I (s.round + 1)]) (sz0 := 1) rfl rfl rfl ⟨rfl, rfl, rfl, rfl, by decide⟩ (by decide) fun nl2 b2 off2 cap2 => ?_).safe trivial
  refine ⟨by simp only [go_sem, Nat.reduceBEq, Nat.reduceAdd, Nat.zero_add], ?_⟩
  refine safe_frz2 (hp := [_, _]) (f' := rowsV encW [(x, s.hC, s.round + 1)]) (fun i j hi hj => ?_) ?_
  · obtain rfl : i = 0 := by omega
    simp only [litF, rowsV, Nat.zero_mul, Nat.zero_add]
    rfl
  refine go_ok _ 100 _ _ ?_
  simp only [go_sem, frz, Nat.reduceBEq, Nat.reduceAdd, Nat.zero_add, reduceCtorEq]
  have hsm : ({ s.asked with waits := vW (if nl2 = true then none else some ⟨b2, off2, none⟩) cap2 [(x, s.hC, s.round + 1)] } : RS).small := ⟨hs.m0, hs.m1, hs.len⟩
  have hlo : ({ s.asked with waits := vW (if nl2 = true then none else some ⟨b2, off2, none⟩) cap2 [(x, s.hC, s.round + 1)] } : RS).lone s.id := ⟨hl.ix, hl.kd, hl.fi⟩
  refine (stp_call [0] rfl rfl rfl ⟨_, Try.func41, rfl, rfl⟩ (c41 b { s.asked with waits := vW (if nl2 = true then none else some ⟨b2, off2, none⟩) cap2 [(x, s.hC, s.round + 1)] } hsm hlo) rfl (fun _ h => h) rfl (fun _ _ h => h) ?_).safe trivial
  rintro v hp rfl
  refine ⟨trivial, go_ok _ 100 _ _ ?_⟩
  simp only [go_sem, Nat.reduceBEq, Nat.reduceAdd, Nat.zero_add]
  refine (stp_call [0] rfl rfl rfl ⟨_, Try.func48, rfl, rfl⟩ (c48 b { s.asked with waits := vW (if nl2 = true then none else some ⟨b2, off2, none⟩) cap2 [(x, s.hC, s.round + 1)] } (if nl2 = true then none else some ⟨b2, off2, none⟩) cap2 x s.hC (s.round + 1) hsm hlo rfl hr) rfl (fun _ h => h) rfl (fun _ _ h => h) ?_).safe trivial
  rintro v hp ⟨c, X, rfl⟩
  refine ⟨trivial, go_ok _ 100 _ _ ?_⟩
  simp only [go_sem, Nat.reduceBEq, Nat.reduceAdd, Nat.zero_add, Try.results18]
  exact ⟨c, _, rfl⟩

def RS.putS (s : RS) (la : Option Addr) (lc : Nat) (es' : List Ent) : RS := { s with la := la, lc := lc, es := es', fresh := if s.fresh = 0 ∨ s.last + 1 < s.fresh then s.last + 1 else s.fresh }
theorem c17 (b : Nat) (s : RS) (a : Option Addr) (cap : Nat) (xs : List UInt8) (hs : s.small) (hl : s.lone s.id) (hd : s.fitsD) (hlen : s.es.length < 2 ^ 40) (hxs : xs.length ≤ 65536) (hro : s.role = 2) (hC : 0 ≤ s.hC ∧ s.hC ≤ s.last) (hw : s.last - s.hC < 64) :
    Spec Try.prog E 17 [.ptr 0 b 0, vB a cap xs] [rC b s] (fun v hp => v = .tup [I (s.last + 1), I s.hT, I 0] ∧ ∃ la lc es' X, Same (s.es ++ [⟨s.last + 1, s.hT, 0, ⟨a, cap, xs⟩⟩]) es' ∧ hp = rC b (s.putS la lc es').looked :: X) := by
  refine spec_of (keep := k17) (args' := [.ptr 0 b 0, vB a cap xs]) Try.func17 rfl Try.ntmps17 s17_ok (by simp) ⟨rfl, fun _ h => h⟩ (fun _ _ h => h) (go_ok _ 100 _ _ ?_)
  simp only [go_sem, s17, k17, Nat.reduceBEq, Nat.reduceAdd, Nat.zero_add, Try.results17]
  refine ⟨fun h => absurd h (by simp [hro]), fun _ => ⟨fun h => absurd h (by simp; omega), fun _ => ?_⟩⟩
  refine (stp_call [0] rfl rfl rfl ⟨_, Try.func40, rfl, rfl⟩ (c40 b s hs) rfl (fun _ h => h) rfl (fun _ _ h => h) ?_).safe trivial
  rintro v hp ⟨rfl, rfl⟩
  refine ⟨by simp only [go_sem, Nat.reduceBEq, Nat.reduceAdd, Nat.zero_add], go_ok _ 100 _ _ ?_⟩
  simp only [go_sem, Nat.reduceBEq, Nat.reduceAdd, Nat.zero_add, Try.results17]
  have hlast : 0 ≤ s.last ∧ s.last ≤ 2 ^ 61 + 2 ^ 40 := by
    obtain ⟨m0, m1, m2⟩ := hs
    simp only [RS.last]
    omega
  refine ⟨by simp only [inI64]; omega, fun h => absurd h (by simp; omega), fun _ => ?_⟩
  refine (stp_call [0] rfl rfl rfl ⟨_, Try.func46, rfl, rfl⟩ (c46 b s 0 a cap xs hs hd (by omega) hlen) rfl (fun _ h => by simpa using h) rfl (fun _ _ h => h) ?_).safe trivial
  rintro v hp ⟨rfl, la, lc, es', hsame, rfl⟩
  have hlen' := hsame.len
  simp only [List.length_append, List.length_singleton] at hlen'
  have hsm : (s.putS la lc es').small := ⟨hs.m0, hs.m1, show es'.length ≤ 2 ^ 40 by omega⟩
  have hkd : ∀ e ∈ es', e.kd ≠ 2 := hsame.kd fun e he => by
    rcases List.mem_append.1 he with he | he
    · exact hl.kd e he
    · rw [List.mem_singleton.1 he]; show (0 : Int) ≠ 2; decide
  have hlo : (s.putS la lc es').lone (s.putS la lc es').id := ⟨hl.ix, hkd, hl.fi⟩
  refine ⟨by simp only [go_sem, Nat.reduceBEq, Nat.reduceAdd, Nat.zero_add], go_ok _ 100 _ _ ?_⟩
  simp only [go_sem, Nat.reduceBEq, Nat.reduceAdd, Nat.zero_add, Try.results17]
  refine (stp_call [0] rfl rfl rfl ⟨_, Try.func41, rfl, rfl⟩ (c41 b (s.putS la lc es') hsm hlo) rfl (fun _ h => h) rfl (fun _ _ h => h) ?_).safe trivial
  rintro v hp rfl
  refine ⟨trivial, go_ok _ 100 _ _ ?_⟩
  simp only [go_sem, Nat.reduceBEq, Nat.reduceAdd, Nat.zero_add]
  refine (stp_call [0] rfl rfl rfl ⟨_, Try.func47, rfl, rfl⟩ (c47 b (s.putS la lc es') hsm hlo hC.1) rfl (fun _ h => h) rfl (fun _ _ h => h) ?_).safe trivial
  rintro v hp rfl
  refine ⟨trivial, go_ok _ 100 _ _ ?_⟩
  simp only [go_sem, Nat.reduceBEq, Nat.reduceAdd, Nat.zero_add, Try.results17]
  exact ⟨la, lc, es', _, hsame, rfl⟩
end Go.SX
