/- Contracts of the raft package: what is read is confirmed (a single voter). -/
import Derived.Test.YtpbbpmhahkeekaaSxR12
namespace Go.SX
open Go.Proofs
set_option maxRecDepth 1000000
variable {E : Env}

def encW (x : Int × Int × Int) : List SV := [I x.1, I x.2.1, I x.2.2]
def encR (x : Int × Int) : List SV := [I x.1, I x.2]
abbrev vW (a : Option Addr) (cap : Nat) (xs : List (Int × Int × Int)) : SV := .view a xs.length cap 3 (rowsV encW xs)
abbrev vR (a : Option Addr) (cap : Nat) (xs : List (Int × Int)) : SV := .view a xs.length cap 2 (rowsV encR xs)
@[simp, go_sem] theorem rowsW0 (xs : List (Int × Int × Int)) (i : Nat) : rowsV encW xs i 0 = I (xs.getD i default).1 := rfl
@[simp, go_sem] theorem rowsW1 (xs : List (Int × Int × Int)) (i : Nat) : rowsV encW xs i 1 = I (xs.getD i default).2.1 := rfl
@[simp, go_sem] theorem rowsW2 (xs : List (Int × Int × Int)) (i : Nat) : rowsV encW xs i 2 = I (xs.getD i default).2.2 := rfl
@[simp, go_sem] theorem rowsR0 (xs : List (Int × Int)) (i : Nat) : rowsV encR xs i 0 = I (xs.getD i default).1 := rfl
@[simp, go_sem] theorem rowsR1 (xs : List (Int × Int)) (i : Nat) : rowsV encR xs i 1 = I (xs.getD i default).2 := rfl

structure Cf where
  ra : Option Addr
  rc : Nat
  wa : Option Addr
  wc : Nat
  wf : Nat → Nat → SV

def RS.conf (s : RS) (x y : Int) (c : Cf) : RS := { s with reads := vR c.ra c.rc [(x, y)], waits := .view c.wa 0 c.wc 3 c.wf }
def RS.confO (s : RS) (x y : Int) : Option Cf → RS
  | none => s
  | some c => s.conf x y c

theorem c48 (b : Nat) (s : RS) (wa : Option Addr) (wc : Nat) (x y z : Int) (hs : s.small) (hl : s.lone s.id) (hw : s.waits = vW wa wc [(x, y, z)]) (hr : s.reads = nilS) :
    Spec Try.prog E 48 [.ptr 0 b 0] [rC b s] (fun _ hp => ∃ c X, hp = rC b (s.conf x y c) :: X) := by
  refine spec_of (keep := k48) (args' := [.ptr 0 b 0]) Try.func48 rfl Try.ntmps48 s48_ok (by simp) ⟨rfl, fun _ h => h⟩ (fun _ _ h => h) (safe_cellview (c := 0) (kk := 24) rfl (congrArg some hw) fun hcap => go_ok _ 100 _ _ ?_)
  simp only [go_sem, s48, k48, Nat.reduceBEq, Nat.reduceAdd, Nat.zero_add]
  intro bx
  refine safe_loop (ι := Option Cf) (fun i => ⟨[(0, .ptr 0 b 0), (1, .ptr 1 bx 0)], [rC b (s.confO x y i), .cells bx 24 [.ptr 0 b 0]]⟩) (fun i => if i.isNone then 1 else 0) none (Sub.front (by simp [envSub, look]) rfl) ?_
  rintro (_ | c)
  · refine go_ok _ 100 _ _ ?_
    simp only [go_sem, RS.confO, hw, Nat.reduceBEq, Nat.reduceAdd, Nat.zero_add, Try.results48, List.length_singleton]
    refine ⟨fun _ => ?_, fun h => absurd h (by decide)⟩
    refine ⟨by decide, by decide, fun bw => ?_⟩
    simp only [Int.toNat_zero, List.getD_cons_zero]
    refine (stp_call [0, 1, 2] rfl rfl rfl ⟨_, Try.func73, rfl, rfl⟩ (c73b b 75 s [.ptr 1 bx 0, .ptr 2 bw 0] (.cells bx 24 [.ptr 0 b 0]) (.cells bw 100 [I x, I y, I z]) hs hl ⟨_, Try.func75, rfl, rfl⟩ (c75 b bx bw s x y z)) rfl (fun _ h => h) rfl (fun _ _ h => h) ?_).safe trivial
    rintro v hp ⟨rfl, rfl⟩
    refine ⟨trivial, go_ok _ 100 _ _ ?_⟩
    simp only [go_sem, hw, hr, nilS, Nat.reduceBEq, Nat.reduceAdd, Nat.zero_add, reduceCtorEq]
    intro b1
    refine (stp_appn (x := .osl 3 false b1 0 1 1) (gx := litF 2 [I x, I y]) (sz0 := 1) rfl rfl rfl ⟨rfl, rfl, rfl, rfl, by decide⟩ (by decide) fun nl2 b2 off2 cap2 => ?_).safe trivial
    refine ⟨by simp only [go_sem, Nat.reduceBEq, Nat.reduceAdd, Nat.zero_add], ?_⟩
    refine safe_frz2 (hp := [_, _, _, _]) (f' := rowsV encR [(x, y)]) (fun i j hi hj => ?_) ?_
    · obtain rfl : i = 0 := by omega
      simp only [litF, rowsV, Nat.zero_mul, Nat.zero_add]
      rfl
    refine go_ok _ 100 _ _ ?_
    simp only [go_sem, hw, frz, Nat.reduceBEq, Nat.reduceAdd, Nat.zero_add, reduceCtorEq, List.length_singleton]
    have hcap' : 1 ≤ wc := hcap
    refine ⟨by omega, ?_⟩
    refine safe_lend (some ⟨if nl2 = true then none else some ⟨b2, off2, none⟩, cap2, if (wc : Int) = 1 then wa else Option.map (fun x => x.add (Int.toNat 1 * 3)) wa, ((wc : Int)).toNat - Int.toNat 1, fun i => rowsV encW [(x, y, z)] (i + Int.toNat 1)⟩) (by simp)
      (Sub.front (X := [.cells bw 100 [I x, I y, I z], .row false b1 48 0 2 1 1 (litF 2 [I x, I y])]) (by simp [envSub, look]) rfl)
  · refine go_ok _ 100 _ _ ?_
    simp only [go_sem, RS.confO, RS.conf, Nat.reduceBEq, Nat.reduceAdd, Nat.zero_add, Try.results48]
    refine ⟨fun h => absurd h (by decide), fun _ => ?_⟩
    exact ⟨c, _, rfl⟩
end Go.SX
