/- Contracts of the raft package: a node begins. -/
import Derived.Test.YtpbbpmhahkeekaaSxR16
namespace Go.SX
open Go.Proofs
set_option maxRecDepth 1000000
variable {E : Env}

/-- what a guard covers, the guard being on -/
def unc : SV → SV
  | .cnd true x => x
  | x => x
theorem unc_den (x : SV) : (unc x).den = x.den := by
  unfold unc
  split <;> simp [SV.den]
theorem unc_ok {ro : RO} {x : SV} (h : x.ok ro) : (unc x).ok ro := by
  unfold unc
  split
  · simp only [SV.ok] at h; exact h trivial
  · exact h
theorem unc_dens : ∀ xs : List SV, SV.dens xs = SV.dens (xs.map unc)
  | [] => rfl
  | x :: xs => by simp [SV.dens, unc_den, ← unc_dens xs]
theorem unc_oks {ro : RO} : ∀ {xs : List SV}, SV.oks ro xs → SV.oks ro (xs.map unc)
  | [], _ => by simp only [List.map_nil, SV.oks]
  | x :: xs, h => by
    simp only [SV.oks] at h
    simp only [List.map_cons, SV.oks]
    exact ⟨unc_ok h.1, unc_oks h.2⟩

def numB (n : Int) : Bool := decide (0 ≤ n) && decide (n ≤ 4611686018427387904)
theorem c66 (n : Int) : Spec Try.prog E 66 [I n] [] (fun v hp => v = Bl (numB n) ∧ hp = []) := by
  refine spec_of (keep := k66) (args' := [I n]) Try.func66 rfl Try.ntmps66 s66_ok (by simp) ⟨rfl, fun _ h => h⟩ (fun _ _ h => h) (go_ok _ 100 _ _ ?_)
  simp only [go_sem, s66, k66, Nat.reduceBEq, Nat.reduceAdd, Nat.zero_add, Try.results66]
  simp [numB]

theorem c68e (a : Option Addr) (cap : Nat) (x y z : Int) : Spec Try.prog E 68 [vE a cap [], I x, I y, I z] [] (fun v hp => v = Bl true ∧ hp = []) := by
  refine spec_of (keep := k68) (args' := [vE a cap [], I x, I y, I z]) Try.func68 rfl Try.ntmps68 s68_ok (by simp) ⟨rfl, fun _ h => h⟩ (fun _ _ h => h) (go_ok _ 100 _ _ ?_)
  simp only [go_sem, s68, k68, Nat.reduceBEq, Nat.reduceAdd, Nat.zero_add, Try.results68]
  refine safe_loop (ι := Unit) (fun _ => ⟨[(12, I 0), (13, I 0)], []⟩) (fun _ => 0) () (Sub.front (by simp [envSub, look]) rfl) ?_
  intro _
  refine go_ok _ 100 _ _ ?_
  simp only [go_sem, Nat.reduceBEq, Nat.reduceAdd, Nat.zero_add, Try.results68]
  exact fun h => absurd h (by decide)

theorem c34 (id : Int) (a : Option Addr) (cap : Nat) (vs : List Int) (t v c : Int) (mV : SV) (la : Option Addr) (lc : Nat) (es : List Ent) (hid : isIdB id = true) (hvs : areV vs = true) (ht : 0 ≤ t ∧ t ≤ 2 ^ 62) (hv : -1 ≤ v) (hc : 0 ≤ c)
    (hmV : ∃ ma mn mc mz mf, mV = .view ma mn mc mz mf) (hrow : Spec Try.prog E 68 [vE la lc es, I 0, I 0, I 4611686018427387904] [] (fun v hp => v = Bl true ∧ hp = [])) :
    Spec Try.prog E 34 [I id, vI a cap vs, .agg [I t, I v, I c], .agg [I 0, I 0, mV], vE la lc es] [] (fun v _ => v = Bl true) := by
  obtain ⟨ma, mn, mc, mz, mf, rfl⟩ := hmV
  have hl : vs.length ≤ 7 := by
    simp only [areV, Bool.and_eq_true, decide_eq_true_eq] at hvs
    exact hvs.2.2
  refine spec_of (keep := k34) (args' := [I id, vI a cap vs, .agg [I t, I v, I c], .agg [I 0, I 0, .view ma mn mc mz mf], vE la lc es]) Try.func34 rfl Try.ntmps34 s34_ok (by simp) ⟨rfl, fun _ h => h⟩ (fun _ _ h => h) (go_ok _ 100 _ _ ?_)
  simp only [go_sem, s34, k34, Nat.reduceBEq, Nat.reduceAdd, Nat.zero_add]
  intro b1 b2
  refine (stp_call [] rfl rfl rfl ⟨_, Try.func67, rfl, rfl⟩ (c67 id) rfl (fun _ h => h) rfl (fun _ _ h => h) ?_).safe trivial
  rintro v hp ⟨rfl, rfl⟩
  rw [hid]
  refine ⟨by simp only [go_sem, Nat.reduceBEq, Nat.reduceAdd, Nat.zero_add], go_ok _ 100 _ _ ?_⟩
  simp only [go_sem, Nat.reduceBEq, Nat.reduceAdd, Nat.zero_add, reduceCtorEq]
  refine ⟨?_, rfl⟩
  refine Stp.safeOn ?_ trivial
  refine stp_call [] (args := [vI a cap vs]) rfl rfl rfl ⟨_, Try.func59, rfl, rfl⟩ (c59 a cap vs (by omega)) rfl (fun _ h => unc_oks h) rfl (fun _ _ h => h) ?_
  rintro v' hp ⟨rfl, rfl⟩
  rw [hvs]
  refine ⟨trivial, go_ok _ 100 _ _ ?_⟩
  simp only [go_sem, Nat.reduceBEq, Nat.reduceAdd, Nat.zero_add, reduceCtorEq]
  refine ⟨?_, rfl⟩
  refine Stp.safeOn ?_ trivial
  refine stp_call [] (args := [I t]) rfl rfl rfl ⟨_, Try.func66, rfl, rfl⟩ (c66 t) rfl (fun _ h => unc_oks h) rfl (fun _ _ h => h) ?_
  rintro v' hp ⟨rfl, rfl⟩
  have : numB t = true := by simp [numB]; omega
  rw [this]
  refine ⟨by simp only [go_sem, Nat.reduceBEq, Nat.reduceAdd, Nat.zero_add], go_ok _ 100 _ _ ?_⟩
  have e1 : decide (-1 ≤ v) = true := by simpa using hv
  have e2 : decide (0 ≤ c) = true := by simpa using hc
  simp only [go_sem, e1, e2, Nat.reduceBEq, Nat.reduceAdd, Nat.zero_add, reduceCtorEq]
  refine ⟨?_, rfl⟩
  refine Stp.safeOn ?_ trivial
  refine stp_call [] (args := [I 0]) rfl rfl rfl ⟨_, Try.func66, rfl, rfl⟩ (c66 0) rfl (fun _ h => unc_oks h) rfl (fun _ _ h => h) ?_
  rintro v' hp ⟨rfl, rfl⟩
  rw [show numB 0 = true from rfl]
  refine ⟨by simp only [go_sem, Nat.reduceBEq, Nat.reduceAdd, Nat.zero_add], go_ok _ 100 _ _ ?_⟩
  simp only [go_sem, Nat.reduceBEq, Nat.reduceAdd, Nat.zero_add, reduceCtorEq]
  refine ⟨?_, rfl⟩
  refine Stp.safeOn ?_ trivial
  refine stp_call [] (args := [I 0]) rfl rfl rfl ⟨_, Try.func66, rfl, rfl⟩ (c66 0) rfl (fun _ h => unc_oks h) rfl (fun _ _ h => h) ?_
  rintro v' hp ⟨rfl, rfl⟩
  rw [show numB 0 = true from rfl]
  refine ⟨by simp only [go_sem, Nat.reduceBEq, Nat.reduceAdd, Nat.zero_add], go_ok _ 100 _ _ ?_⟩
  simp only [go_sem, Nat.reduceBEq, Nat.reduceAdd, Nat.zero_add, reduceCtorEq]
  refine ⟨⟨?_, rfl⟩, rfl⟩
  refine Stp.safeOn ?_ trivial
  refine stp_call [] (args := [vE la lc es, I 0, I 0, I 4611686018427387904]) rfl rfl rfl ⟨_, Try.func68, rfl, rfl⟩ hrow rfl (fun _ h => unc_oks h) rfl (fun _ _ h => h) ?_
  rintro v' hp ⟨rfl, rfl⟩
  refine ⟨by simp only [go_sem, Nat.reduceBEq, Nat.reduceAdd, Nat.zero_add], go_ok _ 100 _ _ ?_⟩
  simp only [go_sem, Nat.reduceBEq, Nat.reduceAdd, Nat.zero_add, reduceCtorEq, Try.results34]
end Go.SX
