/- The disk, as it lies in memory; its small functions. -/
import Derived.Test.YthpnhfnilogflaaSxK1
import Derived.Test.YthpnhfnilogflaaSxKS
namespace Go.SX
open Go.Proofs
set_option maxRecDepth 1000000
variable {E : Env}

/-- a file -/
structure FS where
  nm : List UInt8
  xs : List UInt8
  syn : Nat
/-- a file, as it lies in memory -/
structure FL extends FS where
  fb : Nat
  nl : Bool
  db : Nat
  off : Nat
  cap : Nat
instance : Inhabited FL := ⟨⟨⟨[], [], 0⟩, 0, true, 0, 0, 0⟩⟩
def fcell (c : Nat) (f : FL) : Chunk := .cells f.fb 73 [.osl c f.nl f.db f.off f.xs.length f.cap, I f.syn]
def frow (f : FL) : Chunk := .row f.nl f.db 5 f.off 1 f.xs.length f.cap (rowsV encB f.xs)
def fC (f : FL) : Chunk := sepC [fcell 0 f, frow f]
structure DS where
  room : Int
  ops : Int
  left : Int
  dead : Bool
  M : Nat
  L : List FL
abbrev DS.mp (d : DS) : List (List UInt8 × SV) := d.L.map fun f => (f.nm, .ptr 0 f.fb 0)
@[go_sem] def dO (b : Nat) (d : DS) : List Chunk := [.cells b 68 [I d.room, .val (.map (some d.M)), I d.ops, I d.left, Bl d.dead], mpC kvS d.M d.mp, sepC (d.L.map fC)]

def validB (xs : List (List UInt8)) : Bool := xs.all nameB
theorem c36 (a : Option Addr) (cap : Nat) (xs : List (List UInt8)) (hl : xs.length ≤ 2 ^ 40) : Spec Try.prog E 36 [vT a cap xs] [] (fun v hp => v = I (if validB xs then 0 else 1) ∧ hp = []) := by
  refine Spec.leave (Post := fun v hp => v = I (if validB xs then 0 else 1) ∧ ∃ X, hp = X) ?_ (fun v hp ⟨h1, X, h2⟩ => ⟨[], X, by simpa using h2, h1, rfl⟩)
  refine spec_of (keep := k36) (args' := [vT a cap xs]) Try.func36 rfl Try.ntmps36 s36_ok (by simp) ⟨rfl, fun _ h => h⟩ (fun _ _ h => h) (go_ok _ 100 _ _ ?_)
  simp only [go_sem, s36, k36, Nat.reduceBEq]
  refine safe_loop (ι := {p : Nat // p ≤ xs.length ∧ ∀ i, i < p → nameB (xs.getD i []) = true}) (fun p => ⟨[(5, vT a cap xs), (6, I xs.length), (7, I p.1)], []⟩) (fun p => xs.length - p.1) ⟨0, Nat.zero_le _, fun i hi => absurd hi (by omega)⟩
    (Sub.front (X := []) ⟨rfl, rfl, rfl, trivial⟩ rfl) ?_
  rintro ⟨p, hp, hok⟩
  refine go_ok _ 100 _ _ ?_
  simp only [go_sem, Nat.reduceBEq, Try.results36, Int.toNat_natCast]
  have hgd : ∀ i (hi : i < xs.length), xs.getD i [] = xs[i] := fun i hi => by simp [List.getD_eq_getElem?_getD, hi]
  refine ⟨fun h => ?_, fun h => ⟨?_, _, rfl⟩⟩
  · have hlt : p < xs.length := by simpa using h
    refine ⟨by omega, by decide, ?_⟩
    refine (stp_call [] rfl rfl rfl ⟨_, Try.func33, rfl, rfl⟩ (c33 (xs.getD p [])) rfl (fun _ h => h) rfl (fun _ _ h => h) ?_).safe trivial
    rintro v hp' ⟨rfl, rfl⟩
    refine ⟨trivial, go_ok _ 100 _ _ ?_⟩
    simp only [go_sem, Nat.reduceBEq, Try.results36]
    refine ⟨fun hb => ⟨?_, _, rfl⟩, fun hb => ⟨by simp only [inI64]; omega, ?_⟩⟩
    · have : validB xs = false := List.all_eq_false.2 ⟨xs[p], List.getElem_mem hlt, by rw [← hgd p hlt]; simpa using hb⟩
      rw [this]; rfl
    · refine safe_lend ⟨p + 1, hlt, fun i hi => ?_⟩ (by simp only; omega) (Sub.front (X := []) ⟨rfl, rfl, rfl, trivial⟩ rfl)
      rcases Nat.lt_or_ge i p with h | h
      · exact hok i h
      · obtain rfl : i = p := by omega
        simpa using hb
  · have hpl : p = xs.length := by have := of_decide_eq_false h; omega
    have : validB xs = true := by
      rw [validB, List.all_eq_true]
      intro x hx
      obtain ⟨i, hi, rfl⟩ := List.getElem_of_mem hx
      rw [← hgd i hi]
      exact hok i (by omega)
    rw [this]; rfl

/-- an operation begins -/
def DS.begun (d : DS) : DS := bif decide (0 < d.left) then { d with left := d.left - 1, dead := d.dead || decide (d.left - 1 = 0) } else d
def DS.did (d : DS) : DS := { d with ops := d.ops + 1 }
def BegP (b : Nat) (d : DS) (xs : List (List UInt8)) (v : SV) (hp : List Chunk) : Prop :=
  (d.begun.dead = true ∧ v = I 13 ∧ hp = dO b d.begun) ∨ (d.begun.dead = false ∧ v = I (if validB xs then 0 else 1) ∧ hp = dO b d.begun.did)
theorem c35 (b : Nat) (d : DS) (a : Option Addr) (cap : Nat) (xs : List (List UInt8)) (hl : xs.length ≤ 2 ^ 40) (hops : 0 ≤ d.ops ∧ d.ops < 2 ^ 60) (hleft : inI64 d.left) : Spec Try.prog E 35 [.ptr 0 b 0, vT a cap xs] (dO b d) (BegP b d xs) := by
  refine spec_of (keep := k35) (args' := [.ptr 0 b 0, vT a cap xs]) Try.func35 rfl Try.ntmps35 s35_ok (by simp) ⟨rfl, fun _ h => h⟩ (fun _ _ h => h) (go_ok _ 100 _ _ ?_)
  simp only [go_sem, s35, k35, Nat.reduceBEq, Nat.zero_add, Try.results35]
  obtain ⟨l1, l2⟩ := hleft
  have hi : inI64 (d.ops + 1) := by simp only [inI64]; omega
  refine ⟨fun h => ⟨by simp only [decide_eq_true_eq] at h; simp only [inI64]; omega, fun h2 => ?_, fun h2 => ⟨hi, ?_⟩⟩, fun h => ⟨fun h2 => ?_, fun h2 => ⟨hi, ?_⟩⟩⟩
  · have e : d.begun = { d with left := d.left - 1, dead := d.dead || decide (d.left - 1 = 0) } := by rw [DS.begun, h]; rfl
    exact .inl ⟨by rw [e]; exact h2, rfl, by rw [e]; rfl⟩
  · have e : d.begun = { d with left := d.left - 1, dead := d.dead || decide (d.left - 1 = 0) } := by rw [DS.begun, h]; rfl
    refine (stp_call [] rfl rfl rfl ⟨_, Try.func36, rfl, rfl⟩ (c36 a cap xs hl) rfl (fun _ h => h) rfl (fun _ _ h => h) ?_).safe trivial
    rintro v hp ⟨rfl, rfl⟩
    refine ⟨trivial, go_ok _ 100 _ _ ?_⟩
    simp only [go_sem, Nat.reduceBEq, Try.results35]
    exact .inr ⟨by rw [e]; exact h2, rfl, by rw [e]; rfl⟩
  · have e : d.begun = d := by rw [DS.begun, h]; rfl
    exact .inl ⟨by rw [e]; exact h2, rfl, by rw [e]; rfl⟩
  · have e : d.begun = d := by rw [DS.begun, h]; rfl
    refine (stp_call [] rfl rfl rfl ⟨_, Try.func36, rfl, rfl⟩ (c36 a cap xs hl) rfl (fun _ h => h) rfl (fun _ _ h => h) ?_).safe trivial
    rintro v hp ⟨rfl, rfl⟩
    refine ⟨trivial, go_ok _ 100 _ _ ?_⟩
    simp only [go_sem, Nat.reduceBEq, Try.results35]
    exact .inr ⟨by rw [e]; exact h2, rfl, by rw [e]; rfl⟩

theorem mpC_nil (ro : RO) (M : Nat) (H : Hp) (h : (mapC M).sat ro H) : (mpC kvS M []).sat ro H :=
  ⟨#[], 0, h, MapKept.stamped_empty 0, rfl, rfl, trivial⟩
theorem sepC_nil (ro : RO) : (sepC []).sat ro [] := ⟨[], List.Perm.refl _, rfl⟩
/-- New -/
def NewP (r : Int) (c : Nat) (v : SV) (hp : List Chunk) : Prop := (r < 0 ∧ v = .tup [.val (.pointer none), I 1] ∧ hp = []) ∨ (0 ≤ r ∧ ∃ b M, v = .tup [.ptr c b 0, I 0] ∧ hp = dO b ⟨r, 0, 0, false, M, []⟩)
theorem c11 (r : Int) (c : Nat) : Spec Try.prog E 11 [I r] [] (NewP r c) := by
  refine Spec.sees (Post := fun v hp => (r < 0 ∧ v = .tup [.val (.pointer none), I 1] ∧ hp = []) ∨ (0 ≤ r ∧ ∃ b M, v = .tup [.ptr 1 b 0, I 0] ∧ hp = [mapC M, .cells b 68 [I r, .val (.map (some M)), I 0, I 0, Bl false]])) ?_ fun v hp h => ?_
  · refine spec_of (keep := k11) (args' := [I r]) Try.func11 rfl Try.ntmps11 s11_ok (by simp) ⟨rfl, fun _ h => h⟩ (fun _ _ h => h) (go_ok _ 100 _ _ ?_)
    simp only [go_sem, s11, k11, Nat.reduceBEq, Try.results11]
    refine ⟨fun h => .inl (by simpa using h), fun h => ?_⟩
    refine Stp.safeE (stp_mkmap fun bm => ⟨trivial, ?_⟩) rfl
    refine go_ok _ 100 _ _ ?_
    simp only [go_sem, Nat.reduceBEq, Nat.zero_add, Try.results11]
    intro b
    exact .inr ⟨by have := of_decide_eq_false h; omega, b, bm, rfl, rfl⟩
  · rcases h with ⟨h0, rfl, rfl⟩ | ⟨h0, b, M, rfl, rfl⟩
    · exact ⟨_, [], rfl, fun _ h => h, Sees.refl _, Or.inl ⟨h0, rfl, rfl⟩⟩
    · refine ⟨.tup [.ptr c b 0, I 0], dO b ⟨r, 0, 0, false, M, []⟩, rfl, fun _ _ => by simp [SV.ok, SV.oks], ?_, .inr ⟨h0, b, M, rfl, rfl⟩⟩
      refine Sees.trans (Sees.perm (List.Perm.swap _ _ _)) ?_
      refine Sees.same (Sees.cons (fun ro H h => ⟨H, [], by simp, mpC_nil ro M H h⟩) ?_)
      exact Sees.new (fun ro => sepC_nil ro) (Sees.refl [])

theorem c17 (b : Nat) (d : DS) : Spec Try.prog E 17 [.ptr 0 b 0] (dO b d) (fun v hp => v = I d.ops ∧ hp = dO b d) := by
  refine spec_of (keep := k17) (args' := [.ptr 0 b 0]) Try.func17 rfl Try.ntmps17 s17_ok (by simp) ⟨rfl, fun _ h => h⟩ (fun _ _ h => h) (go_ok _ 100 _ _ ?_)
  simp only [go_sem, s17, k17, Nat.reduceBEq, Nat.zero_add, Try.results17]
theorem c20 (b : Nat) (d : DS) (n : Int) : Spec Try.prog E 20 [.ptr 0 b 0, I n] (dO b d) (fun v hp => v = .tup [] ∧ hp = dO b { d with left := max n 0 }) := by
  refine spec_of (keep := k20) (args' := [.ptr 0 b 0, I n]) Try.func20 rfl Try.ntmps20 s20_ok (by simp) ⟨rfl, fun _ h => h⟩ (fun _ _ h => h) (go_ok _ 100 _ _ ?_)
  simp only [go_sem, s20, k20, Nat.reduceBEq, Nat.zero_add, Try.results20]
end Go.SX
