/- The law of what is published: its walk. -/
import Derived.Test.YthpnhfnilogflaaSxK17
namespace Go.SX
open Go.Proofs
set_option maxRecDepth 1000000
variable {E : Env}

theorem app_ok {p : PS} {x ys : List UInt8} (h1 : p.begun.dead = false) (h2 : nameB x = true) (h3 : (ys.length : Int) ≤ p.room - sumF p.fs) : p.app x ys = (0, { p.begun.did with fs := addF p.fs x ys }) := by
  unfold PS.app
  rw [if_neg (by simp [h1]), if_neg (by simp [h2]), if_neg (by omega)]
theorem app_dead {p : PS} {x ys : List UInt8} (h1 : p.begun.dead = true) : p.app x ys = (13, p.begun) := by
  unfold PS.app
  rw [if_pos h1]
theorem one_ok {p : PS} {x : List UInt8} {g : List FS → List FS} (h1 : p.begun.dead = false) (h2 : nameB x = true) (h3 : getF p.fs x ≠ none) : p.one x g = (0, { p.begun.did with fs := g p.fs }) := by
  unfold PS.one
  rw [if_neg (by simp [h1]), if_neg (by simp [h2]), if_neg (fun h => h3 ((fndF_get p.fs x).1.1 h))]
theorem one_dead {p : PS} {x : List UInt8} {g : List FS → List FS} (h1 : p.begun.dead = true) : p.one x g = (13, p.begun) := by
  unfold PS.one
  rw [if_pos h1]
theorem ren_ok {p : PS} {x y : List UInt8} (h1 : p.begun.dead = false) (h2 : (nameB x && nameB y) = true) (h3 : getF p.fs x ≠ none) : p.ren x y = (0, { p.begun.did with fs := renF p.fs x y }) := by
  unfold PS.ren
  rw [if_neg (by simp [h1]), if_neg (by simp only [h2]; decide), if_neg (fun h => h3 ((fndF_get p.fs x).1.1 h))]
theorem ren_dead {p : PS} {x y : List UInt8} (h1 : p.begun.dead = true) : p.ren x y = (13, p.begun) := by
  unfold PS.ren
  rw [if_pos h1]
/-- what stands ahead of the crash -/
structure Pub (old data : List UInt8) (k : Int) (done : Bool) (p : PS) : Prop where
  dn : done = decide (k = 0 ∨ k = 4)
  iv : PInv p 10
  f : ∃ f, getF p.fs [102] = some f ∧ f.xs = (if done then data else old) ∧ f.syn = f.xs.length

theorem c5 (a1 a2 a3 : Option Addr) (c1 c2 c3 : Nat) (old data : List UInt8) (stop : Int) (picks : List Int) (ho : old.length < 2 ^ 47) (hd : data.length < 2 ^ 47) : Spec Try.prog E 5 [vB a1 c1 old, vB a2 c2 data, I stop, vI a3 c3 picks] [] (fun v _ => v = Bl true) := by
  refine spec_of (keep := k5) (args' := [vB a1 c1 old, vB a2 c2 data, I stop, vI a3 c3 picks]) Try.func5 rfl Try.ntmps5 s5_ok (by simp) ⟨rfl, fun _ h => h⟩ (fun _ _ h => h) (go_ok _ 100 _ _ ?_)
  simp only [go_sem, s5, k5, Nat.reduceBEq, Nat.reduceAdd, Nat.zero_add]
  refine (stp_call [] rfl rfl rfl ⟨_, Try.func10, rfl, rfl⟩ (c10.leave (Post' := fun v hp => v = Bl true ∧ hp = []) fun _ hp h => ⟨[], hp, rfl, h.1, rfl⟩) rfl (fun _ h => h) rfl (fun _ _ h => h) ?_).safe trivial
  rintro v hp ⟨rfl, rfl⟩
  refine ⟨trivial, go_ok _ 100 _ _ ?_⟩
  simp only [go_sem, Nat.reduceBEq, Try.results5]
  refine ⟨by simp only [inI64]; omega, fun hsm => ?_⟩
  have hlen : old.length + data.length ≤ 1000 := by simp at hsm; omega
  refine (stp_call [] rfl rfl rfl ⟨_, Try.func11, rfl, rfl⟩ (c11 1048576 0) rfl (fun _ h => h) rfl (fun _ _ h => h) ?_).safe trivial
  rintro v hp (⟨h, _, _⟩ | ⟨_, b, M, rfl, rfl⟩)
  · exact absurd h (by decide)
  refine ⟨trivial, go_ok _ 100 _ _ ?_⟩
  simp only [go_sem, Nat.reduceBEq]
  obtain ⟨d0, hdO, e0⟩ : ∃ d0 : DS, [Chunk.cells b 68 [I 1048576, .val (.map (some M)), I 0, I 0, Bl false], mpC kvS M (⟨1048576, 0, 0, false, M, []⟩ : DS).mp, sepC []] = dO b d0 ∧ d0.ps = ⟨1048576, 0, 0, false, []⟩ := ⟨⟨1048576, 0, 0, false, M, []⟩, rfl, rfl⟩
  have i0 : PInv d0.ps 0 := by rw [e0]; exact PInv.new (by decide) (by decide) 0
  refine (stp_call [0, 1, 2] (args := [.ptr 0 b 0, T [102], vB a1 c1 old]) rfl rfl rfl ⟨_, Try.func12, rfl, rfl⟩ (kApp [102] a1 c1 old i0 (by decide) (by omega)) rfl (fun _ h => h) rfl (fun ro H h => by rw [← hdO]; exact h) ?_).safe trivial
  rintro v hp ⟨rfl, d1, e1, rfl⟩
  have i1 : PInv d1.ps 1 := by rw [e1]; exact i0.app (by omega)
  rw [e0, app_ok rfl (by decide) (by simp [sumF]; omega)] at e1
  clear i0
  refine ⟨trivial, go_ok _ 100 _ _ ?_⟩
  simp only [go_sem, List.append_nil, Nat.reduceBEq]
  refine (stp_call [0, 1, 2] (args := [.ptr 0 b 0, T [102]]) rfl rfl rfl ⟨_, Try.func19, rfl, rfl⟩ (kSync [102] i1 (by decide)) rfl (fun _ h => h) rfl (fun _ _ h => h) ?_).safe trivial
  rintro v hp ⟨rfl, d2, e2, rfl⟩
  have i2 : PInv d2.ps 2 := by rw [e2]; exact i1.syn
  rw [e1, one_ok rfl (by decide) (by simp [addF, getF])] at e2
  refine ⟨trivial, go_ok _ 100 _ _ ?_⟩
  simp only [go_sem, List.append_nil, Nat.reduceBEq]
  refine (stp_call [] rfl rfl rfl ⟨_, Try.func15, rfl, rfl⟩ (c15 stop 5 (by decide) (by decide)) rfl (fun _ h => h) rfl (fun _ _ h => h) ?_).safe trivial
  rintro v hp ⟨rfl, rfl⟩
  have hk : 0 ≤ stop % 5 ∧ stop % 5 < 5 := by omega
  generalize stop % 5 = k at hk ⊢
  refine ⟨trivial, go_ok _ 100 _ _ ?_⟩
  simp only [go_sem, List.append_nil, Nat.reduceBEq]
  refine (stp_call [0, 1, 2] (args := [.ptr 0 b 0, I k]) rfl rfl rfl ⟨_, Try.func20, rfl, rfl⟩ (kStop k) rfl (fun _ h => h) rfl (fun _ _ h => h) ?_).safe trivial
  rintro v hp ⟨rfl, d3, e3, rfl⟩
  have i3 : PInv d3.ps 2 := by rw [e3]; exact i2.stop (by simp only [inI64]; omega)
  rw [e2] at e3
  have e3' : d3.ps = ⟨1048576, 2, k, false, [⟨[102], old, old.length⟩]⟩ := by rw [e3]; simp [PS.stop, PS.did, PS.begun, addF, synF]; omega
  clear e3 i2 e2 i1 e1
  refine ⟨trivial, go_ok _ 3 _ _ ?_⟩
  simp only [go_sem, List.append_nil, Nat.reduceBEq]
  refine safe_ops_midp (ι := {q : Bool × DS // Pub old data k q.1 q.2.ps}) (fun q => ⟨[(9, .ptr 0 b 0), (11, Bl q.1.1), (2, I k), (0, vB a1 c1 old), (1, vB a2 c2 data), (3, vI a3 c3 picks)], dO b q.1.2⟩) ?_ ?_
  · rintro ⟨⟨dn, d4⟩, hP⟩
    simp only at hP ⊢
    obtain ⟨h1, h2, f, h3, h4, h5⟩ := hP
    have q : (dn == (decide (k = 0) || decide (k = 4))) = true := by rw [h1]; by_cases k0 : k = 0 <;> by_cases k4 : k = 4 <;> simp [k0, k4]
    refine go_ok _ 100 _ _ ?_
    simp only [go_sem, q, Bool.not_true, Nat.reduceBEq, Try.results5]
    refine (stp_call [0, 1, 2] (args := [.ptr 0 b 0, vI a3 c3 picks]) rfl rfl rfl ⟨_, Try.func22, rfl, rfl⟩ (kCrash a3 c3 picks h2 (by decide)) rfl (fun _ h => h) rfl (fun ro H h => h) ?_).safe trivial
    rintro v hp ⟨rfl, d5, e5, rfl⟩
    obtain ⟨f', h6, h7⟩ := get_crash_some (picks := picks) h2.sy h3
    obtain rfl := h7.same h5
    have i5 : PInv d5.ps 10 := by rw [e5]; exact h2.crash
    have hrd : readF d5.ps.fs d5.ps.dead [102] = (if dn then data else old, 0) := by
      rw [show d5.ps.dead = false by rw [e5]; rfl, readF_get _ (by decide), e5]
      simp only [h6, h4]
    refine ⟨trivial, go_ok _ 100 _ _ ?_⟩
    simp only [go_sem, List.append_nil, Nat.reduceBEq]
    refine (stp_call [0, 1, 2] (args := [.ptr 0 b 0, T [102]]) rfl rfl rfl ⟨_, Try.func13, rfl, rfl⟩ (kRead 3 [102] i5 (by decide)) rfl (fun _ h => h) rfl (fun ro H h => h) ?_).safe trivial
    rintro v hp ⟨nl, b6, off, cap, rfl, rfl⟩
    rw [hrd]
    generalize hx : (if dn then data else old) = xs
    refine ⟨trivial, go_ok _ 100 _ _ ?_⟩
    have q2 : decide ((0 : Int) ≠ 0) = false := by decide
    simp only [go_sem, q2, List.cons_append, List.nil_append, Nat.reduceBEq, Try.results5]
    refine ⟨fun h => ?_, fun h => ?_⟩
    · subst h; simp only [if_true] at hx; subst hx
      refine safe_frzC (c := 3) (f' := rowsV encB data) (env' := [(74, frz nl b6 off data.length cap 1 (rowsV encB data)), (73, Bl true), (0, vB a1 c1 old), (1, vB a2 c2 data), (2, I k), (3, vI a3 c3 picks), (9, .ptr 0 b 0), (11, Bl true), (12, .osl 3 nl b6 off data.length cap), (13, I 0)]) rfl (fun i j hi hj => rfl)
        ⟨rfl, .inr ⟨rfl, rfl⟩, rfl, .inl rfl, rfl, .inl rfl, rfl, .inl rfl, rfl, .inl rfl, rfl, .inl rfl, rfl, .inl rfl, rfl, .inl rfl, rfl, .inl rfl, rfl, .inl rfl, trivial⟩ ?_
      refine safe_oth (oth_str (e := 5) (xs := data) (ad := if nl then none else some ⟨b6, off, none⟩) (n := data.length) (cap := cap) (f := rowsV encB data) (xo := .t 74) rfl (by kernel_rfl) (by kernel_rfl) (by kernel_rfl) rfl rfl (fun ro h => h) rfl fun i _ => rfl) trivial ?_
      refine go_ok _ 1 _ _ ?_
      simp only [go_sem, Nat.reduceBEq]
      refine safe_oth (oth_str (e := 5) (xs := data) (ad := a2) (n := data.length) (cap := c2) (f := rowsV encB data) (xo := .t 76) rfl (by kernel_rfl) (by kernel_rfl) (by kernel_rfl) rfl rfl (fun ro h => h) rfl fun i _ => rfl) trivial ?_
      refine go_ok _ 100 _ _ ?_
      simp only [go_sem, Nat.reduceBEq, Try.results5]
    · subst h; simp only [Bool.false_eq_true, if_false] at hx; subst hx
      refine safe_frzC (c := 3) (f' := rowsV encB old) (env' := [(79, frz nl b6 off old.length cap 1 (rowsV encB old)), (73, Bl false), (0, vB a1 c1 old), (1, vB a2 c2 data), (2, I k), (3, vI a3 c3 picks), (9, .ptr 0 b 0), (11, Bl false), (12, .osl 3 nl b6 off old.length cap), (13, I 0)]) rfl (fun i j hi hj => rfl)
        ⟨rfl, .inr ⟨rfl, rfl⟩, rfl, .inl rfl, rfl, .inl rfl, rfl, .inl rfl, rfl, .inl rfl, rfl, .inl rfl, rfl, .inl rfl, rfl, .inl rfl, rfl, .inl rfl, rfl, .inl rfl, trivial⟩ ?_
      refine safe_oth (oth_str (e := 5) (xs := old) (ad := if nl then none else some ⟨b6, off, none⟩) (n := old.length) (cap := cap) (f := rowsV encB old) (xo := .t 79) rfl (by kernel_rfl) (by kernel_rfl) (by kernel_rfl) rfl rfl (fun ro h => h) rfl fun i _ => rfl) trivial ?_
      refine go_ok _ 1 _ _ ?_
      simp only [go_sem, Nat.reduceBEq]
      refine safe_oth (oth_str (e := 5) (xs := old) (ad := a1) (n := old.length) (cap := c1) (f := rowsV encB old) (xo := .t 81) rfl (by kernel_rfl) (by kernel_rfl) (by kernel_rfl) rfl rfl (fun ro h => h) rfl fun i _ => rfl) trivial ?_
      refine go_ok _ 100 _ _ ?_
      simp only [go_sem, Nat.reduceBEq, Try.results5]
  · intro hrest
    have q0 : decide ((0 : Int) = 0) = true := by decide
    have q13 : decide ((13 : Int) = 0) = false := by decide
    have F0 : fndF [⟨[102], old, old.length⟩] [103] = none := by simp [fndF]
    have b3 : d3.ps.begun = if k = 0 then ⟨1048576, 2, 0, false, [⟨[102], old, old.length⟩]⟩ else ⟨1048576, 2, k - 1, decide (k = 1), [⟨[102], old, old.length⟩]⟩ := by
      rw [e3']
      unfold PS.begun
      by_cases h : k = 0
      · subst h; rfl
      · rw [if_neg h]
        have : decide (0 < k) = true := by simp; omega
        simp only [this, cond_true, Bool.false_or]
        congr 1
        exact decide_eq_decide.2 (by omega)
    refine go_ok _ 100 _ _ ?_
    simp only [go_sem, Nat.reduceBEq]
    refine (stp_call [0, 1, 2] (args := [.ptr 0 b 0, T [103], vB a2 c2 data]) rfl rfl rfl ⟨_, Try.func12, rfl, rfl⟩ (kApp [103] a2 c2 data i3 (by decide) (by omega)) rfl (fun _ h => h) rfl (fun ro H h => h) ?_).safe trivial
    rintro v hp ⟨rfl, d4, e4, rfl⟩
    have i4 : PInv d4.ps 3 := by rw [e4]; exact i3.app (by omega)
    have fin := fun (dn : Bool) (d' : DS) (h : Pub old data k dn d'.ps) => Safe.sub (st := ⟨[(0, vB a1 c1 old), (1, vB a2 c2 data), (2, I k), (3, vI a3 c3 picks), (8, .val (.bool false)), (9, .ptr 0 b 0), (11, .val (.bool dn))], dO b d'⟩) (Sub.front (st' := ⟨[(9, .ptr 0 b 0), (11, Bl dn), (2, I k), (0, vB a1 c1 old), (1, vB a2 c2 data), (3, vI a3 c3 picks)], dO b d'⟩) (X := []) ⟨rfl, rfl, rfl, rfl, rfl, rfl, trivial⟩ rfl) (hrest ⟨(dn, d'), h⟩)
    by_cases k1 : k = 1
    · rw [app_dead (by rw [b3, k1]; rfl)] at e4 ⊢
      rw [b3, if_neg (by omega)] at e4
      refine ⟨trivial, go_ok _ 13 _ _ ?_⟩
      simp only [go_sem, q13, List.append_nil, Nat.reduceBEq]
      exact ⟨⟨fin false d4 ⟨by simp [k1], i4.mono (by decide), ⟨[102], old, old.length⟩, by rw [e4]; simp [getF], rfl, rfl⟩, rfl⟩, rfl⟩
    have b3d : d3.ps.begun.dead = false := by rw [b3]; split <;> simp [k1]
    rw [app_ok b3d (by decide) (by rw [e3']; simp [sumF]; omega)] at e4 ⊢
    have e4' : d4.ps = ⟨1048576, 3, if k = 0 then 0 else k - 1, false, [⟨[102], old, old.length⟩, ⟨[103], data, 0⟩]⟩ := by
      rw [e4, b3, e3']
      by_cases h : k = 0 <;> simp [PS.did, addF, h, k1]
    clear e4
    have b4 : d4.ps.begun = ⟨1048576, 3, if k = 0 then 0 else k - 2, decide (k = 2), [⟨[102], old, old.length⟩, ⟨[103], data, 0⟩]⟩ := by
      rw [e4']
      unfold PS.begun
      by_cases h : k = 0
      · subst h; rfl
      · simp only [if_neg h]
        have : decide (0 < k - 1) = true := by simp; omega
        simp only [this, cond_true, Bool.false_or]
        congr 1
        · omega
        · exact decide_eq_decide.2 (by omega)
    refine ⟨trivial, go_ok _ 13 _ _ ?_⟩
    simp only [go_sem, List.append_nil, Nat.reduceBEq, reduceCtorEq]
    refine ⟨?_, rfl⟩
    refine Stp.safeOn ?_ trivial
    refine stp_call [0, 1, 2] (args := [.ptr 0 b 0, T [103]]) rfl rfl rfl ⟨_, Try.func19, rfl, rfl⟩ (kSync [103] i4 (by decide)) rfl (fun _ h => unc_oks h) rfl (fun _ _ h => h) ?_
    rintro v hp ⟨rfl, d5, e5, rfl⟩
    have i5 : PInv d5.ps 4 := by rw [e5]; exact i4.syn
    by_cases k2 : k = 2
    · rw [one_dead (by rw [b4, k2]; rfl)] at e5 ⊢
      rw [b4] at e5
      refine ⟨trivial, go_ok _ 9 _ _ ?_⟩
      simp only [go_sem, q13, List.append_nil, Nat.reduceBEq, reduceCtorEq]
      exact ⟨fin false d5 ⟨by simp [k2], i5.mono (by decide), ⟨[102], old, old.length⟩, by rw [e5]; simp [getF], rfl, rfl⟩, rfl⟩
    rw [one_ok (by rw [b4]; simp [k2]) (by decide) (by rw [e4']; simp [getF])] at e5 ⊢
    have e5' : d5.ps = ⟨1048576, 4, if k = 0 then 0 else k - 2, false, [⟨[102], old, old.length⟩, ⟨[103], data, data.length⟩]⟩ := by
      rw [e5, b4, e4']
      simp [PS.did, synF, k2]
    clear e5
    have b5 : d5.ps.begun = ⟨1048576, 4, if k = 0 then 0 else k - 3, decide (k = 3), [⟨[102], old, old.length⟩, ⟨[103], data, data.length⟩]⟩ := by
      rw [e5']
      unfold PS.begun
      by_cases h : k = 0
      · subst h; rfl
      · simp only [if_neg h]
        have : decide (0 < k - 2) = true := by simp; omega
        simp only [this, cond_true, Bool.false_or]
        congr 1
        · omega
        · exact decide_eq_decide.2 (by omega)
    refine ⟨trivial, go_ok _ 9 _ _ ?_⟩
    simp only [go_sem, List.append_nil, Nat.reduceBEq, reduceCtorEq]
    refine ⟨?_, rfl⟩
    refine Stp.safeOn ?_ trivial
    refine stp_call [0, 1, 2] (args := [.ptr 0 b 0, T [103], T [102]]) rfl rfl rfl ⟨_, Try.func21, rfl, rfl⟩ (kRen [103] [102] i5 (by decide)) rfl (fun _ h => unc_oks h) rfl (fun _ _ h => h) ?_
    rintro v hp ⟨rfl, d6, e6, rfl⟩
    have i6 : PInv d6.ps 5 := by rw [e6]; exact i5.ren
    by_cases k3 : k = 3
    · rw [ren_dead (by rw [b5, k3]; rfl)] at e6 ⊢
      rw [b5] at e6
      refine ⟨trivial, go_ok _ 4 _ _ ?_⟩
      simp only [go_sem, q13, List.append_nil, Nat.reduceBEq, reduceCtorEq]
      exact fin false d6 ⟨by simp [k3], i6.mono (by decide), ⟨[102], old, old.length⟩, by rw [e6]; simp [getF], rfl, rfl⟩
    rw [ren_ok (by rw [b5]; simp [k3]) (by decide) (by rw [e5']; simp [getF])] at e6 ⊢
    have e6' : d6.ps.fs = [⟨[102], data, data.length⟩] := by
      rw [e6, e5']
      simp [renF, fndF, delF, putF]
    refine ⟨trivial, go_ok _ 4 _ _ ?_⟩
    simp only [go_sem, List.append_nil, Nat.reduceBEq, reduceCtorEq]
    exact fin true d6 ⟨by simp; omega, i6.mono (by decide), ⟨[102], data, data.length⟩, by rw [e6']; simp [getF], rfl, rfl⟩
end Go.SX
