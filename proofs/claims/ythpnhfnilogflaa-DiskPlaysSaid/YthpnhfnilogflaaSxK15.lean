/- The disk by plain states: each operation's contract in the same words. -/
import Derived.Test.YthpnhfnilogflaaSxK14
namespace Go.SX
open Go.Proofs
set_option maxRecDepth 1000000
variable {E : Env}

/-- what is known of a disk -/
structure PS where
  room : Int
  ops : Int
  left : Int
  dead : Bool
  fs : List FS
def DS.ps (d : DS) : PS := ⟨d.room, d.ops, d.left, d.dead, d.L.map (·.toFS)⟩
def PS.begun (p : PS) : PS := bif decide (0 < p.left) then { p with left := p.left - 1, dead := p.dead || decide (p.left - 1 = 0) } else p
def PS.did (p : PS) : PS := { p with ops := p.ops + 1 }
def PS.app (p : PS) (x ys : List UInt8) : Int × PS :=
  if p.begun.dead then (13, p.begun) else if nameB x = false then (1, p.begun.did) else if p.room - sumF p.fs < ys.length then (14, p.begun.did) else (0, { p.begun.did with fs := addF p.fs x ys })
def PS.one (p : PS) (x : List UInt8) (g : List FS → List FS) : Int × PS :=
  if p.begun.dead then (13, p.begun) else if nameB x = false then (1, p.begun.did) else if fndF p.fs x = none then (2, p.begun.did) else (0, { p.begun.did with fs := g p.fs })
def PS.ren (p : PS) (x y : List UInt8) : Int × PS :=
  if p.begun.dead then (13, p.begun) else if (nameB x && nameB y) = false then (1, p.begun.did) else if fndF p.fs x = none then (2, p.begun.did) else (0, { p.begun.did with fs := renF p.fs x y })
def PS.crash (p : PS) (picks : List Int) : Nat × PS := ((crashL p.fs picks (namesF p.fs)).2, { p with left := 0, dead := false, fs := (crashL p.fs picks (namesF p.fs)).1 })
def PS.stop (p : PS) (n : Int) : PS := { p with left := max n 0 }
theorem begun_ps (d : DS) : d.begun.ps = d.ps.begun := by
  unfold DS.begun PS.begun
  rw [show d.ps.left = d.left from rfl]
  cases decide (0 < d.left) <;> rfl
theorem did_ps (d : DS) : d.did.ps = d.ps.did := rfl
theorem begun_dead (d : DS) : d.begun.dead = d.ps.begun.dead := by rw [← begun_ps]; rfl
theorem usedB_ps (d : DS) : usedB d.L = sumF d.ps.fs := by rw [used_fs]; rfl
theorem fnd_ps (d : DS) (x : List UInt8) : fnd d.L x = fndF d.ps.fs x := fnd_fs _ _

theorem did_L (d : DS) (L' : List FL) {l : List FS} (h : L'.map (·.toFS) = l) : ({ d.begun.did with L := L' } : DS).ps = { d.ps.begun.did with fs := l } := by
  rw [← begun_ps, ← did_ps, ← h]
  rfl

theorem AppP.ps {b : Nat} {d : DS} {x ys : List UInt8} {X : List Chunk} {v : SV} {hp : List Chunk} (h : AppP b d x ys X v hp) : v = I (d.ps.app x ys).1 ∧ ∃ d' : DS, d'.ps = (d.ps.app x ys).2 ∧ hp = dO b d' ++ X := by
  rcases h with ⟨h1, rfl, rfl⟩ | ⟨h1, h2, rfl, rfl⟩ | ⟨h1, h2, h3, rfl, rfl⟩ | ⟨h1, h2, h3, rfl, L', hL, rfl⟩
  all_goals rw [begun_dead] at h1
  · have e : d.ps.app x ys = (13, d.ps.begun) := by simp [PS.app, h1]
    rw [e]; exact ⟨rfl, d.begun, begun_ps d, rfl⟩
  · have e : d.ps.app x ys = (1, d.ps.begun.did) := by simp [PS.app, h1, h2]
    rw [e]; exact ⟨rfl, d.begun.did, by rw [did_ps, begun_ps], rfl⟩
  · have h3' : d.ps.room - sumF d.ps.fs < ys.length := by rw [usedB_ps] at h3; exact h3
    have e : d.ps.app x ys = (14, d.ps.begun.did) := by simp [PS.app, h1, h2, h3']
    rw [e]; exact ⟨rfl, d.begun.did, by rw [did_ps, begun_ps], rfl⟩
  · have h3' : ¬ d.ps.room - sumF d.ps.fs < ys.length := by rw [usedB_ps] at h3; show ¬ d.room - _ < _; omega
    have e : d.ps.app x ys = (0, { d.ps.begun.did with fs := addF d.ps.fs x ys }) := by simp [PS.app, h1, h2, h3']
    rw [e]; exact ⟨rfl, { d.begun.did with L := L' }, did_L d L' hL, rfl⟩
theorem OneP.ps {b : Nat} {d : DS} {x : List UInt8} {g : List FS → List FS} {v : SV} {hp : List Chunk} (h : OneP b d x g v hp) : v = I (d.ps.one x g).1 ∧ ∃ d' : DS, d'.ps = (d.ps.one x g).2 ∧ hp = dO b d' := by
  rcases h with ⟨h1, rfl, rfl⟩ | ⟨h1, h2, rfl, rfl⟩ | ⟨h1, h2, h3, rfl, rfl⟩ | ⟨h1, h2, h3, rfl, L', hL, rfl⟩
  all_goals rw [begun_dead] at h1
  · have e : d.ps.one x g = (13, d.ps.begun) := by simp [PS.one, h1]
    rw [e]; exact ⟨rfl, d.begun, begun_ps d, rfl⟩
  · have e : d.ps.one x g = (1, d.ps.begun.did) := by simp [PS.one, h1, h2]
    rw [e]; exact ⟨rfl, d.begun.did, by rw [did_ps, begun_ps], rfl⟩
  · rw [fnd_ps] at h3
    have e : d.ps.one x g = (2, d.ps.begun.did) := by simp [PS.one, h1, h2, h3]
    rw [e]; exact ⟨rfl, d.begun.did, by rw [did_ps, begun_ps], rfl⟩
  · rw [fnd_ps] at h3
    have e : d.ps.one x g = (0, { d.ps.begun.did with fs := g d.ps.fs }) := by simp [PS.one, h1, h2, h3]
    rw [e]; exact ⟨rfl, { d.begun.did with L := L' }, did_L d L' hL, rfl⟩
theorem RenP.ps {b : Nat} {d : DS} {x y : List UInt8} {v : SV} {hp : List Chunk} (h : RenP b d x y v hp) : v = I (d.ps.ren x y).1 ∧ ∃ d' : DS, d'.ps = (d.ps.ren x y).2 ∧ hp = dO b d' := by
  rcases h with ⟨h1, rfl, rfl⟩ | ⟨h1, h2, rfl, rfl⟩ | ⟨h1, h2, h3, rfl, rfl⟩ | ⟨h1, h2, h3, rfl, L', hL, rfl⟩
  all_goals rw [begun_dead] at h1
  · have e : d.ps.ren x y = (13, d.ps.begun) := by unfold PS.ren; rw [if_pos h1]
    rw [e]; exact ⟨rfl, d.begun, begun_ps d, rfl⟩
  all_goals have h1' : ¬ d.ps.begun.dead = true := by simp [h1]
  · have e : d.ps.ren x y = (1, d.ps.begun.did) := by unfold PS.ren; rw [if_neg h1', if_pos h2]
    rw [e]; exact ⟨rfl, d.begun.did, by rw [did_ps, begun_ps], rfl⟩
  all_goals have h2' : ¬ (nameB x && nameB y) = false := by simp only [h2]; decide
  all_goals rw [fnd_ps] at h3
  · have e : d.ps.ren x y = (2, d.ps.begun.did) := by unfold PS.ren; rw [if_neg h1', if_neg h2', if_pos h3]
    rw [e]; exact ⟨rfl, d.begun.did, by rw [did_ps, begun_ps], rfl⟩
  · have e : d.ps.ren x y = (0, { d.ps.begun.did with fs := renF d.ps.fs x y }) := by unfold PS.ren; rw [if_neg h1', if_neg h2', if_neg h3]
    rw [e]; exact ⟨rfl, { d.begun.did with L := L' }, did_L d L' hL, rfl⟩
theorem CrashP.ps {b : Nat} {d : DS} {picks : List Int} {v : SV} {hp : List Chunk} (h : CrashP b d picks v hp) : v = I (d.ps.crash picks).1 ∧ ∃ d' : DS, d'.ps = (d.ps.crash picks).2 ∧ hp = dO b d' := by
  obtain ⟨L', hL, rfl, rfl⟩ := h
  have e : crashD d picks = crashL d.ps.fs picks (namesF d.ps.fs) := by rw [crashD, names_fs]; rfl
  rw [e] at hL ⊢
  refine ⟨rfl, _, ?_, rfl⟩
  simp only [DS.ps, PS.crash]
  rw [hL]
  rfl

/-- what holds of a disk behind n calls -/
structure PInv (p : PS) (n : Nat) : Prop where
  r0 : 0 ≤ p.room
  r1 : p.room < 2 ^ 63
  us : (sumF p.fs : Int) ≤ p.room
  u2 : sumF p.fs ≤ 1100 * n
  o0 : 0 ≤ p.ops
  o1 : p.ops ≤ n
  lf : inI64 p.left
  sy : ∀ f ∈ p.fs, f.syn ≤ f.xs.length
  ln : p.fs.length ≤ n
  nd : (p.fs.map (·.nm)).Nodup
theorem PInv.ok {d : DS} {n : Nat} (h : PInv d.ps n) (hn : n ≤ 2 ^ 19) : DOk d :=
  ⟨h.r0, h.r1, by rw [usedB_ps]; exact h.us, by rw [usedB_ps]; have := h.u2; omega, h.o0, by have := h.o1; show d.ps.ops < _; omega, h.lf⟩
theorem PInv.mono {p : PS} {n m : Nat} (h : PInv p n) (hm : n ≤ m) : PInv p m :=
  ⟨h.r0, h.r1, h.us, by have := h.u2; have : 1100 * n ≤ 1100 * m := Nat.mul_le_mul_left _ hm; omega, h.o0, by have := h.o1; omega, h.lf, h.sy, by have := h.ln; omega, h.nd⟩
theorem PInv.begun {p : PS} {n : Nat} (h : PInv p n) : PInv p.begun n := by
  unfold PS.begun
  cases hb : decide (0 < p.left) with
  | false => exact h
  | true =>
    simp only [decide_eq_true_eq] at hb
    have := h.lf
    exact ⟨h.r0, h.r1, h.us, h.u2, h.o0, h.o1, by simp only [inI64] at this ⊢; show _ ≤ p.left - 1 ∧ p.left - 1 ≤ _; omega, h.sy, h.ln, h.nd⟩
theorem PInv.did {p : PS} {n : Nat} (h : PInv p n) : PInv p.begun.did (n + 1) := by
  have h := h.begun
  exact ⟨h.r0, h.r1, h.us, by have := h.u2; show sumF p.begun.fs ≤ _; omega, by have := h.o0; show 0 ≤ p.begun.ops + 1; omega, by have := h.o1; show p.begun.ops + 1 ≤ _; omega, h.lf, h.sy, by have := h.ln; show p.begun.fs.length ≤ _; omega, h.nd⟩
theorem begun_same' (p : PS) : p.begun.room = p.room ∧ p.begun.fs = p.fs ∧ p.begun.ops = p.ops := by
  unfold PS.begun
  cases decide (0 < p.left) <;> exact ⟨rfl, rfl, rfl⟩
theorem PInv.fs {p : PS} {n : Nat} (h : PInv p n) {l : List FS} (h1 : (sumF l : Int) ≤ p.room) (h2 : sumF l ≤ 1100 * (n + 1)) (h3 : ∀ f ∈ l, f.syn ≤ f.xs.length) (h4 : l.length ≤ n + 1) (h5 : (l.map (·.nm)).Nodup) :
    PInv { p.begun.did with fs := l } (n + 1) := by
  have k := h.did
  exact ⟨k.r0, k.r1, by show (sumF l : Int) ≤ p.begun.room; rw [(begun_same' p).1]; exact h1, h2, k.o0, k.o1, k.lf, h3, h4, h5⟩

theorem len_add : ∀ (l : List FS) (x ys : List UInt8), (addF l x ys).length ≤ l.length + 1
  | [], _, _ => by simp [addF]
  | f :: r, x, ys => by
    have := len_add r x ys
    unfold addF
    split
    · simp
    · simp only [List.length_cons]; omega
theorem sy_add : ∀ (l : List FS) (x ys : List UInt8), (∀ f ∈ l, f.syn ≤ f.xs.length) → ∀ f ∈ addF l x ys, f.syn ≤ f.xs.length
  | [], x, ys, _, f, hf => by simp [addF] at hf; subst hf; exact Nat.zero_le _
  | g :: r, x, ys, h, f, hf => by
    unfold addF at hf
    split at hf
    · rcases List.mem_cons.1 hf with rfl | hf
      · have := h g (by simp); simp; omega
      · exact h f (by simp [hf])
    · rcases List.mem_cons.1 hf with rfl | hf
      · exact h f (by simp)
      · exact sy_add r x ys (fun f hf => h f (by simp [hf])) f hf
theorem PInv.app {p : PS} {n : Nat} (h : PInv p n) {x ys : List UInt8} (hy : ys.length ≤ 1100) : PInv (p.app x ys).2 (n + 1) := by
  unfold PS.app
  split
  · exact h.begun.mono (by omega)
  split
  · exact h.did
  split
  · exact h.did
  · rename_i hf
    have := h.us; have := h.u2
    exact h.fs (by rw [sum_add]; omega) (by rw [sum_add]; omega) (sy_add _ _ _ h.sy) (Nat.le_trans (len_add _ _ _) (by have := h.ln; omega)) (nd_add _ _ _ h.nd)
theorem syn_same : ∀ (l : List FS) (x : List UInt8), (synF l x).map (·.nm) = l.map (·.nm) ∧ (synF l x).map (·.xs) = l.map (·.xs)
  | [], _ => ⟨rfl, rfl⟩
  | f :: r, x => by
    unfold synF
    split
    · exact ⟨rfl, rfl⟩
    · simp only [List.map_cons, (syn_same r x).1, (syn_same r x).2, and_self]
theorem sumF_xs {l l' : List FS} (h : l.map (·.xs) = l'.map (·.xs)) : sumF l = sumF l' := by
  have : (l.map (·.xs)).map List.length = (l'.map (·.xs)).map List.length := by rw [h]
  simp only [List.map_map] at this
  exact congrArg List.sum this
theorem sy_syn : ∀ (l : List FS) (x : List UInt8), (∀ f ∈ l, f.syn ≤ f.xs.length) → ∀ f ∈ synF l x, f.syn ≤ f.xs.length
  | [], _, _, f, hf => by simp [synF] at hf
  | g :: r, x, h, f, hf => by
    unfold synF at hf
    split at hf
    · rcases List.mem_cons.1 hf with rfl | hf
      · exact Nat.le_refl _
      · exact h f (by simp [hf])
    · rcases List.mem_cons.1 hf with rfl | hf
      · exact h f (by simp)
      · exact sy_syn r x (fun f hf => h f (by simp [hf])) f hf
theorem PInv.syn {p : PS} {n : Nat} (h : PInv p n) {x : List UInt8} : PInv (p.one x (synF · x)).2 (n + 1) := by
  unfold PS.one
  split
  · exact h.begun.mono (by omega)
  split
  · exact h.did
  split
  · exact h.did
  · have e := sumF_xs (syn_same p.fs x).2
    have := h.us; have := h.u2; have := h.ln
    have el : (synF p.fs x).length = p.fs.length := by have := congrArg List.length (syn_same p.fs x).1; simpa using this
    exact h.fs (by rw [e]; exact h.us) (by rw [e]; omega) (sy_syn _ _ h.sy) (by rw [el]; omega) (by rw [(syn_same p.fs x).1]; exact h.nd)
theorem nd_sub {l l' : List FS} (h : l'.Sublist l) (hn : (l.map (·.nm)).Nodup) : (l'.map (·.nm)).Nodup := List.Sublist.nodup (h.map _) hn
theorem PInv.rem {p : PS} {n : Nat} (h : PInv p n) {x : List UInt8} : PInv (p.one x (delF · x)).2 (n + 1) := by
  unfold PS.one
  split
  · exact h.begun.mono (by omega)
  split
  · exact h.did
  split
  · exact h.did
  · have hs := del_sub p.fs x
    have e := sum_sub hs
    have := h.us; have := h.u2; have := h.ln; have := hs.length_le
    exact h.fs (l := delF p.fs x) (by omega) (by omega) (fun f hf => h.sy f (hs.subset hf)) (by omega) (nd_sub hs h.nd)
theorem fndF_some : ∀ {l : List FS} {x : List UInt8} {i : Nat}, fndF l x = some i → ∃ f, l[i]? = some f ∧ f.nm = x ∧ sumF l = sumF (delF l x) + f.xs.length ∧ l.length = (delF l x).length + 1
  | [], _, _, h => by cases h
  | g :: r, x, i, h => by
    simp only [fndF] at h
    split at h
    · rename_i hg
      injection h with h
      subst h
      exact ⟨g, rfl, hg, by simp [delF, hg, sumF]; omega, by simp [delF, hg]⟩
    · rename_i hg
      cases hr : fndF r x with
      | none => rw [hr] at h; cases h
      | some j =>
        rw [hr] at h
        injection h with h
        subst h
        obtain ⟨f, h1, h2, h3, h4⟩ := fndF_some hr
        refine ⟨f, by simpa using h1, h2, ?_, by simp [delF, hg, h4]⟩
        simp only [sumF] at h3
        simp only [delF, if_neg hg, sumF, List.map_cons, List.sum_cons, h3]
        omega
theorem put_facts : ∀ (l : List FS) (f : FS), sumF (putF l f) ≤ sumF l + f.xs.length ∧ (putF l f).length ≤ l.length + 1 ∧ ∀ g ∈ putF l f, g = f ∨ (g ∈ l ∧ ((l.map (·.nm)).Nodup → g.nm ≠ f.nm))
  | [], f => ⟨by simp [putF, sumF], by simp [putF], fun g hg => by simp [putF] at hg; exact .inl hg⟩
  | h :: r, f => by
    obtain ⟨h1, h2, h3⟩ := put_facts r f
    simp only [sumF] at h1
    unfold putF
    split
    · rename_i he
      refine ⟨by simp [sumF]; omega, by simp, fun g hg => ?_⟩
      rcases List.mem_cons.1 hg with rfl | hg
      · exact .inl rfl
      · refine .inr ⟨by simp [hg], fun hn => ?_⟩
        simp only [List.map_cons, List.nodup_cons] at hn
        intro e
        exact hn.1 (List.mem_map.2 ⟨g, hg, by rw [e, he]⟩)
    · rename_i he
      refine ⟨by simp only [sumF, List.map_cons, List.sum_cons]; omega, by simp only [List.length_cons]; omega, fun g hg => ?_⟩
      rcases List.mem_cons.1 hg with rfl | hg
      · exact .inr ⟨by simp, fun _ => he⟩
      · rcases h3 g hg with rfl | ⟨h4, h5⟩
        · exact .inl rfl
        · refine .inr ⟨by simp [h4], fun hn => ?_⟩
          simp only [List.map_cons, List.nodup_cons] at hn
          exact h5 hn.2
theorem put_nd : ∀ (l : List FS) (f : FS), (l.map (·.nm)).Nodup → ((putF l f).map (·.nm)).Nodup
  | [], f, _ => by simp [putF]
  | h :: r, f, hn => by
    have hn' := hn
    simp only [List.map_cons, List.nodup_cons] at hn
    unfold putF
    split
    · rename_i he
      simp only [List.map_cons, List.nodup_cons, ← he]
      exact hn
    · rename_i he
      simp only [List.map_cons, List.nodup_cons]
      refine ⟨fun hm => ?_, put_nd r f hn.2⟩
      obtain ⟨g, hg, e⟩ := List.mem_map.1 hm
      rcases (put_facts r f).2.2 g hg with rfl | ⟨h4, _⟩
      · exact he e.symm
      · exact hn.1 (List.mem_map.2 ⟨g, h4, e⟩)
theorem PInv.ren {p : PS} {n : Nat} (h : PInv p n) {x y : List UInt8} : PInv (p.ren x y).2 (n + 1) := by
  unfold PS.ren
  split
  · exact h.begun.mono (by omega)
  split
  · exact h.did
  split
  · exact h.did
  · rename_i hf
    unfold renF
    cases hi : fndF p.fs x with
    | none => exact absurd hi hf
    | some i =>
      simp only
      obtain ⟨f, h1, h2, h3, h4⟩ := fndF_some hi
      have e : p.fs.getD i ⟨[], [], 0⟩ = f := by simp [List.getD_eq_getElem?_getD, h1]
      rw [e]
      obtain ⟨k1, k2, k3⟩ := put_facts (delF p.fs x) { f with nm := y }
      have := h.us; have := h.u2; have := h.ln
      have hs := del_sub p.fs x
      simp only at k1
      refine h.fs (by omega) (by omega) (fun g hg => ?_) (by omega) (put_nd _ _ (nd_sub hs h.nd))
      rcases k3 g hg with rfl | ⟨k4, _⟩
      · exact h.sy f (List.mem_of_getElem? h1)
      · exact h.sy g (hs.subset k4)
theorem crashF_facts (picks : List Int) : ∀ (l : List FS) (n : Nat) (x : List UInt8), (crashF l picks n x).1.map (·.nm) = l.map (·.nm) ∧ sumF (crashF l picks n x).1 ≤ sumF l ∧ ((∀ f ∈ l, f.syn ≤ f.xs.length) → ∀ f ∈ (crashF l picks n x).1, f.syn ≤ f.xs.length) ∧ (crashF l picks n x).2 ≤ n + 1
  | [], n, x => ⟨rfl, Nat.le_refl _, fun h => h, by simp [crashF]⟩
  | g :: r, n, x => by
    obtain ⟨h1, h2, h3, h4⟩ := crashF_facts picks r n x
    unfold crashF
    split
    · split
      · exact ⟨rfl, Nat.le_refl _, fun h => h, by simp⟩
      · refine ⟨rfl, by simp [sumF, FS.crashed]; omega, fun h f hf => ?_, by simp⟩
        rcases List.mem_cons.1 hf with rfl | hf
        · have hg := h g (by simp)
          have := (crashK_le picks n (g.xs.length - g.syn)).2
          have := (crashK_le picks n (g.xs.length - g.syn)).1
          simp only [FS.crashed, List.length_take]
          omega
        · exact h f (by simp [hf])
    · refine ⟨by simp [h1], by simp only [sumF, List.map_cons, List.sum_cons] at h2 ⊢; omega, fun h f hf => ?_, h4⟩
      rcases List.mem_cons.1 hf with rfl | hf
      · exact h f (by simp)
      · exact h3 (fun f hf => h f (by simp [hf])) f hf
theorem crashL_facts (picks : List Int) : ∀ (xs : List (List UInt8)) (l : List FS) (n : Nat), (xs.foldl (fun s x => crashF s.1 picks s.2 x) (l, n)).1.map (·.nm) = l.map (·.nm) ∧ sumF (xs.foldl (fun s x => crashF s.1 picks s.2 x) (l, n)).1 ≤ sumF l ∧
    ((∀ f ∈ l, f.syn ≤ f.xs.length) → ∀ f ∈ (xs.foldl (fun s x => crashF s.1 picks s.2 x) (l, n)).1, f.syn ≤ f.xs.length)
  | [], l, n => ⟨rfl, Nat.le_refl _, fun h => h⟩
  | x :: xs, l, n => by
    obtain ⟨h1, h2, h3, _⟩ := crashF_facts picks l n x
    obtain ⟨k1, k2, k3⟩ := crashL_facts picks xs (crashF l picks n x).1 (crashF l picks n x).2
    exact ⟨k1.trans h1, Nat.le_trans k2 h2, fun h => k3 (h3 h)⟩
theorem PInv.crash {p : PS} {n : Nat} (h : PInv p n) {picks : List Int} : PInv (p.crash picks).2 n := by
  obtain ⟨h1, h2, h3⟩ := crashL_facts picks (namesF p.fs) p.fs 0
  have hl : (crashL p.fs picks (namesF p.fs)).1.length = p.fs.length := by have := congrArg List.length h1; simp only [List.length_map] at this; exact this
  exact ⟨h.r0, h.r1, by have := h.us; have : sumF (crashL p.fs picks (namesF p.fs)).1 ≤ sumF p.fs := h2; show (sumF (crashL p.fs picks (namesF p.fs)).1 : Int) ≤ p.room; omega, Nat.le_trans h2 h.u2, h.o0, h.o1, by simp only [inI64, PS.crash]; decide, h3 h.sy, by show (crashL p.fs picks (namesF p.fs)).1.length ≤ n; rw [hl]; exact h.ln, by
    show ((crashL p.fs picks (namesF p.fs)).1.map (·.nm)).Nodup
    rw [show (crashL p.fs picks (namesF p.fs)).1.map (·.nm) = p.fs.map (·.nm) from h1]; exact h.nd⟩
theorem PInv.stop {p : PS} {n : Nat} (h : PInv p n) {k : Int} (hk : inI64 k) : PInv (p.stop k) n :=
  ⟨h.r0, h.r1, h.us, h.u2, h.o0, h.o1, by simp only [inI64, PS.stop] at hk ⊢; omega, h.sy, h.ln, h.nd⟩
theorem PInv.new {r : Int} (h0 : 0 ≤ r) (h1 : r < 2 ^ 63) (n : Nat) : PInv ⟨r, 0, 0, false, []⟩ n :=
  ⟨h0, h1, by simp [sumF]; exact h0, by simp [sumF], Int.le_refl _, by simp, by simp only [inI64]; decide, by simp, by simp, by simp⟩

def OpP (b : Nat) (r : Int × PS) (X : List Chunk) (v : SV) (hp : List Chunk) : Prop := v = I r.1 ∧ ∃ d' : DS, d'.ps = r.2 ∧ hp = dO b d' ++ X
variable {b n : Nat} {d : DS}
theorem kApp (x : List UInt8) (a : Option Addr) (cap : Nat) (ys : List UInt8) (h : PInv d.ps n) (hn : n ≤ 2 ^ 19) (hy : ys.length ≤ 1100) : Spec Try.prog E 12 [.ptr 0 b 0, T x, vB a cap ys] (dO b d) (OpP b (d.ps.app x ys) []) :=
  (c12v b d x a cap ys (h.ok hn) (by omega)).post fun _ _ h => h.ps
theorem kAppO (x : List UInt8) (nl : Bool) (bo off cap : Nat) (ys : List UInt8) (h : PInv d.ps n) (hn : n ≤ 2 ^ 19) (hy : ys.length ≤ 1100) :
    Spec Try.prog E 12 [.ptr 0 b 0, T x, .osl 3 nl bo off ys.length cap] (dO b d ++ [.row nl bo 5 off 1 ys.length cap (rowsV encB ys)]) (OpP b (d.ps.app x ys) [.row nl bo 5 off 1 ys.length cap (rowsV encB ys)]) :=
  (c12o b d x nl bo off cap ys (h.ok hn) (by omega)).post fun _ _ h => h.ps
theorem opp_nil {r : Int × PS} {v : SV} {hp : List Chunk} (h : v = I r.1 ∧ ∃ d' : DS, d'.ps = r.2 ∧ hp = dO b d') : OpP b r [] v hp := by
  obtain ⟨h1, d', h2, h3⟩ := h
  exact ⟨h1, d', h2, by rw [h3, List.append_nil]⟩
theorem kSync (x : List UInt8) (h : PInv d.ps n) (hn : n ≤ 2 ^ 19) : Spec Try.prog E 19 [.ptr 0 b 0, T x] (dO b d) (OpP b (d.ps.one x (synF · x)) []) :=
  (c19 b d x (h.ok hn)).post fun _ _ h => opp_nil h.ps
theorem kRem (x : List UInt8) (h : PInv d.ps n) (hn : n ≤ 2 ^ 19) : Spec Try.prog E 18 [.ptr 0 b 0, T x] (dO b d) (OpP b (d.ps.one x (delF · x)) []) :=
  (c18 b d x (h.ok hn)).post fun _ _ h => opp_nil h.ps
theorem kRen (x y : List UInt8) (h : PInv d.ps n) (hn : n ≤ 2 ^ 19) : Spec Try.prog E 21 [.ptr 0 b 0, T x, T y] (dO b d) (OpP b (d.ps.ren x y) []) :=
  (c21 b d x y (h.ok hn)).post fun _ _ h => opp_nil h.ps
theorem kCrash (a : Option Addr) (cap : Nat) (picks : List Int) (h : PInv d.ps n) (hn : n ≤ 2 ^ 19) : Spec Try.prog E 22 [.ptr 0 b 0, vI a cap picks] (dO b d) (OpP b (((d.ps.crash picks).1 : Nat), (d.ps.crash picks).2) []) :=
  (c22 b d a cap picks (by rw [usedB_ps]; have := h.u2; omega) (by have := h.ln; simp only [DS.ps, List.length_map] at this; omega) (sync_fs d h.sy)).post fun _ _ h => opp_nil h.ps
theorem kStop (k : Int) : Spec Try.prog E 20 [.ptr 0 b 0, I k] (dO b d) (fun v hp => v = .tup [] ∧ ∃ d' : DS, d'.ps = d.ps.stop k ∧ hp = dO b d') :=
  (c20 b d k).post fun _ _ h => ⟨h.1, _, rfl, h.2⟩
theorem kUsed (h : PInv d.ps n) (hn : n ≤ 2 ^ 19) : Spec Try.prog E 16 [.ptr 0 b 0] (dO b d) (fun v hp => v = I (sumF d.ps.fs) ∧ hp = dO b d) :=
  (c16 b d (by rw [usedB_ps]; have := h.u2; omega)).post fun _ _ h => by rw [← usedB_ps]; exact h
theorem kOps : Spec Try.prog E 17 [.ptr 0 b 0] (dO b d) (fun v hp => v = I d.ps.ops ∧ hp = dO b d) := c17 b d
end Go.SX
