/- The law of the dead disk: plain facts. -/
import Derived.Test.YthpnhfnilogflaaSxK22
namespace Go.SX
open Go.Proofs
set_option maxRecDepth 1000000

/-- what an operation answers -/
structure OpRes (p : PS) (r : Int × PS) : Prop where
  dd : p.begun.dead = true → r.1 = 13 ∧ r.2 = p.begun
  al : p.begun.dead = false → r.1 ≠ 13 ∧ r.2.left = p.begun.left ∧ r.2.dead = false ∧ r.2.ops = p.begun.ops + 1
theorem res_app (p : PS) (x ys : List UInt8) : OpRes p (p.app x ys) := by
  refine ⟨fun h => by rw [app_dead h]; exact ⟨rfl, rfl⟩, fun h => ?_⟩
  unfold PS.app
  rw [if_neg (by simp [h])]
  split
  · exact ⟨by simp, rfl, h, rfl⟩
  split
  · exact ⟨by simp, rfl, h, rfl⟩
  · exact ⟨by simp, rfl, h, rfl⟩
theorem res_one (p : PS) (x : List UInt8) (g : List FS → List FS) : OpRes p (p.one x g) := by
  refine ⟨fun h => by rw [one_dead h]; exact ⟨rfl, rfl⟩, fun h => ?_⟩
  unfold PS.one
  rw [if_neg (by simp [h])]
  split
  · exact ⟨by simp, rfl, h, rfl⟩
  split
  · exact ⟨by simp, rfl, h, rfl⟩
  · exact ⟨by simp, rfl, h, rfl⟩
theorem res_ren (p : PS) (x y : List UInt8) : OpRes p (p.ren x y) := by
  refine ⟨fun h => by rw [ren_dead h]; exact ⟨rfl, rfl⟩, fun h => ?_⟩
  unfold PS.ren
  rw [if_neg (by simp [h])]
  split
  · exact ⟨by simp, rfl, h, rfl⟩
  split
  · exact ⟨by simp, rfl, h, rfl⟩
  · exact ⟨by simp, rfl, h, rfl⟩
/-- a disk that stops at its n-th operation, behind bg of them -/
structure Dd (n : Int) (bg : Nat) (p : PS) : Prop where
  lf : p.left = if (bg : Int) < n then n - bg else 0
  dd : p.dead = decide (n ≤ bg)
  op : p.ops = min (bg : Int) (n - 1)
theorem Dd.step {n : Int} {bg : Nat} {p : PS} (h : Dd n bg p) (hn : 1 ≤ n) {r : Int × PS} (hr : OpRes p r) : Dd n (bg + 1) r.2 ∧ (decide (r.1 = 13) = decide (n ≤ (bg : Int) + 1)) := by
  have hb : p.begun.left = (if (bg : Int) + 1 < n then n - (bg + 1) else 0) ∧ p.begun.dead = decide (n ≤ (bg : Int) + 1) ∧ p.begun.ops = p.ops := by
    unfold PS.begun
    rw [h.lf, h.dd]
    by_cases h1 : (bg : Int) < n
    · have q1 : decide (0 < n - (bg : Int)) = true := by simp; omega
      have q2 : decide (n ≤ (bg : Int)) = false := by simp; omega
      simp only [if_pos h1, q1, q2, cond_true, Bool.false_or, and_true]
      refine ⟨?_, decide_eq_decide.2 (by omega)⟩
      split <;> omega
    · have q1 : decide (0 < (0 : Int)) = false := by decide
      have q2 : decide (n ≤ (bg : Int) + 1) = true := by simp; omega
      have q3 : decide (n ≤ (bg : Int)) = true := by simp; omega
      simp only [if_neg h1, q1, cond_false, q2, and_true]
      rw [h.lf, h.dd, if_neg h1, if_neg (by omega)]
      exact ⟨rfl, q3⟩
  obtain ⟨b1, b2, b3⟩ := hb
  by_cases hd : n ≤ (bg : Int) + 1
  · have q : p.begun.dead = true := by rw [b2]; simpa using hd
    obtain ⟨e1, e2⟩ := hr.dd q
    rw [e1, e2]
    refine ⟨⟨by rw [b1]; push_cast; rfl, by rw [b2]; push_cast; rfl, ?_⟩, by simp [hd]⟩
    rw [b3, h.op]
    push_cast
    omega
  · have q : p.begun.dead = false := by rw [b2]; simpa using hd
    obtain ⟨e1, e2, e3, e4⟩ := hr.al q
    refine ⟨⟨by rw [e2, b1]; push_cast; rfl, by rw [e3, ← q, b2]; push_cast; rfl, ?_⟩, by simp [hd, e1]⟩
    rw [e4, b3, h.op]
    push_cast
    omega
theorem Dd.new {n : Int} (hn : 1 ≤ n) {p : PS} (h1 : p.left = n) (h2 : p.dead = false) (h3 : p.ops = 0) : Dd n 0 p :=
  ⟨by rw [h1]; simp; omega, by rw [h2]; simp; omega, by rw [h3]; simp; omega⟩
end Go.SX
