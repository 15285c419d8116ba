/- Contracts of the raft package: small ones. -/
import Derived.Test.YtpbbpmhahkeekaaSxO
import Derived.Test.YtpbbpmhahkeekaaSxSB
namespace Go.SX
open Go.Proofs
set_option maxRecDepth 1000000
variable {E : Env}

abbrev I (n : Int) : SV := .val (.int .i64 n)
abbrev Bl (b : Bool) : SV := .val (.bool b)
def isIdB (n : Int) : Bool := decide (0 ≤ n) && decide (n ≤ 1073741823)

theorem c67 (n : Int) : Spec Try.prog E 67 [I n] [] (fun v hp => v = Bl (isIdB n) ∧ hp = []) := by
  refine spec_of (keep := k67) (args' := [I n]) Try.func67 rfl Try.ntmps67 s67_ok (by simp) ⟨rfl, fun _ h => h⟩ (fun _ _ h => h) (go_ok _ 100 _ _ ?_)
  simp only [go_sem, s67, k67, Try.results67, Nat.reduceBEq]
  simp [isIdB]

def encI (n : Int) : List SV := [I n]
abbrev vI (a : Option Addr) (cap : Nat) (xs : List Int) : SV := .view a xs.length cap 1 (rowsV encI xs)
@[simp, go_sem] theorem rowsI (xs : List Int) (i : Nat) : rowsV encI xs i 0 = I (xs.getD i 0) := rfl

def okV (xs : List Int) (i : Nat) : Bool := isIdB (xs.getD i 0) && (i == 0 || decide (xs.getD (i - 1) 0 < xs.getD i 0))
def areV (xs : List Int) : Bool := (List.range xs.length).all (okV xs) && (decide (1 ≤ xs.length) && decide (xs.length ≤ 7))

theorem c59 (a : Option Addr) (cap : Nat) (xs : List Int) (hl : xs.length < 2 ^ 62) : Spec Try.prog E 59 [vI a cap xs] [] (fun v hp => v = Bl (areV xs) ∧ hp = []) := by
  refine spec_of (keep := k59) (args' := [vI a cap xs]) Try.func59 rfl Try.ntmps59 s59_ok (by simp) ⟨rfl, fun _ h => h⟩ (fun _ _ h => h) (go_ok _ 100 _ _ ?_)
  simp only [go_sem, s59, k59, Nat.reduceBEq]
  refine safe_loop (fun i : {i : Nat // i ≤ xs.length ∧ ∀ k, k < i → okV xs k = true} => ⟨[(0, vI a cap xs), (2, Bl false), (5, vI a cap xs), (6, I xs.length), (7, I i.1)], []⟩) (fun i => xs.length - i.1) ⟨0, by omega, by omega⟩
    (Sub.front (by simp [envSub, look]) rfl) ?_
  rintro ⟨i, hi, hall⟩
  refine go_ok _ 100 _ _ ?_
  simp only [go_sem, Nat.reduceBEq]
  refine ⟨fun h => ?_, fun h => ?_⟩
  · have hlt : i < xs.length := by simpa using h
    refine ⟨by omega, by omega, ?_⟩
    refine (stp_call [] rfl rfl rfl ⟨_, Try.func67, rfl, rfl⟩ (c67 _) rfl (fun _ h => h) rfl (fun _ _ h => h) ?_).safe trivial
    rintro v hp ⟨rfl, rfl⟩
    refine ⟨trivial, go_ok _ 100 _ _ ?_⟩
    simp only [go_sem, Nat.reduceBEq, Try.results59, Int.toNat_natCast, inI64]
    have hk : (!isIdB (xs.getD i 0) || decide (0 < (i : Int)) && decide (xs.getD i 0 ≤ xs.getD ((i : Int) - 1).toNat 0)) = !okV xs i := by
      rw [show ((i : Int) - 1).toNat = i - 1 by omega]
      unfold okV
      rcases Nat.eq_zero_or_pos i with h0 | h0
      · subst h0; simp
      · have : decide (xs.getD i 0 ≤ xs.getD (i - 1) 0) = !decide (xs.getD (i - 1) 0 < xs.getD i 0) := by simp only [← decide_not, Int.not_lt]
        rw [this]
        have : (i == 0) = false := by simp; omega
        have h2 : decide (0 < (i : Int)) = true := by simp; omega
        rw [this, h2]
        cases isIdB (xs.getD i 0) <;> simp
    rw [hk]
    and_intros
    all_goals try (intros; first | omega | simp_all; done | (simp_all; omega))
    · intro h'
      have : okV xs i = false := by simpa using h'
      have : (List.range xs.length).all (okV xs) = false := by
        rw [List.all_eq_false]
        exact ⟨i, by simpa using hlt, by simp [this]⟩
      simp [areV, this]
    · intro h'
      have h' : okV xs i = true := by simpa using h'
      refine ⟨by omega, ?_⟩
      refine safe_lend ⟨i + 1, hlt, fun k hk => ?_⟩ (by simp only; omega) (Sub.front (by simp [envSub, look]) rfl)
      rcases Nat.lt_or_eq_of_le (Nat.lt_succ_iff.1 hk) with h1 | rfl
      · exact hall k h1
      · exact h'
  · simp only [Try.results59, go_sem]
    have hi' : i = xs.length := by simp at h; omega
    have : (List.range xs.length).all (okV xs) = true := by
      rw [List.all_eq_true]
      intro k hk
      exact hall k (by rw [hi']; simpa using hk)
    have e1 : decide ((1 : Int) ≤ (xs.length : Int)) = decide (1 ≤ xs.length) := by apply Bool.eq_iff_iff.2; simp; omega
    have e2 : decide ((xs.length : Int) ≤ 7) = decide (xs.length ≤ 7) := by apply Bool.eq_iff_iff.2; simp; omega
    simp only [areV, this, Bool.true_and, e1, e2]
    trivial
end Go.SX
