/- The disk: Rename. -/
import Derived.Test.YthpnhfnilogflaaSxK11
namespace Go.SX
open Go.Proofs
set_option maxRecDepth 1000000
variable {E : Env}

/-- a file under its name, in the place of what was there -/
def putF : List FS → FS → List FS
  | [], f => [f]
  | g :: r, f => if g.nm = f.nm then f :: r else g :: putF r f
def renF (l : List FS) (x y : List UInt8) : List FS := match fndF l x with
  | none => l
  | some i => putF (delF l x) { l.getD i ⟨[], [], 0⟩ with nm := y }
theorem putF_some : ∀ {L : List FL} {y : List UInt8} {j : Nat} {f' : FL}, fnd L y = some j → f'.nm = y → (L.set j f').map (·.toFS) = putF (L.map (·.toFS)) f'.toFS
  | [], _, _, _, h, _ => by cases h
  | g :: r, y, j, f', h, he => by
    simp only [fnd] at h
    split at h
    · rename_i hg
      injection h with h
      subst h
      simp [putF, hg, he]
    · rename_i hg
      cases hr : fnd r y with
      | none => rw [hr] at h; cases h
      | some k =>
        rw [hr] at h
        injection h with h
        subst h
        simp only [List.set_cons_succ, List.map_cons, putF, he, if_neg hg]
        rw [putF_some hr he]
theorem putF_none : ∀ {L : List FL} {y : List UInt8} {f' : FL}, fnd L y = none → f'.nm = y → (L ++ [f']).map (·.toFS) = putF (L.map (·.toFS)) f'.toFS
  | [], _, _, _, _ => by simp [putF]
  | g :: r, y, f', h, he => by
    simp only [fnd] at h
    split at h
    · cases h
    · rename_i hg
      cases hr : fnd r y with
      | some k => rw [hr] at h; cases h
      | none =>
        simp only [List.cons_append, List.map_cons, putF, he, if_neg hg]
        rw [putF_none hr he]
theorem setE_mp : ∀ {L : List FL} {y : List UInt8} {j : Nat} {f' : FL}, fnd L y = some j → f'.nm = y → setE (L.map fun f => (f.nm, SV.ptr 0 f.fb 0)) y (.ptr 0 f'.fb 0) = (L.set j f').map fun f => (f.nm, SV.ptr 0 f.fb 0)
  | [], _, _, _, h, _ => by cases h
  | g :: r, y, j, f', h, he => by
    simp only [fnd] at h
    split at h
    · rename_i hg
      injection h with h
      subst h
      simp [setE, hg, he]
    · rename_i hg
      cases hr : fnd r y with
      | none => rw [hr] at h; cases h
      | some k =>
        rw [hr] at h
        injection h with h
        subst h
        simp only [List.set_cons_succ, List.map_cons, setE, if_neg hg]
        rw [setE_mp hr he]
theorem setE_mp0 {L : List FL} {y : List UInt8} {f' : FL} (h : fnd L y = none) (he : f'.nm = y) : setE (L.map fun f => (f.nm, SV.ptr 0 f.fb 0)) y (.ptr 0 f'.fb 0) = (L ++ [f']).map fun f => (f.nm, SV.ptr 0 f.fb 0) := by
  rw [setE_none fun p hp => by
    obtain ⟨f, hfm, rfl⟩ := List.mem_map.1 hp
    exact fnd_none h f hfm]
  simp [he]
/-- a file into the place of another, which is left -/
theorem Sees.over {L : List FL} {j : Nat} {f : FL} (hj : j < L.length) : Sees [sepC (L.map fC), fC f] [sepC ((L.set j f).map fC)] := by
  refine Sees.trans (Sees.app (Sees.take 0 j (hp := [sepC (L.map fC)]) (cs := L.map fC) rfl (by simpa using hj)) (Sees.refl [fC f])) ?_
  refine Sees.trans (Sees.perm (b := [sepC (setC (L.map fC) j .emp), fC f] ++ [getC (L.map fC) j]) ?_) ?_
  · exact List.Perm.cons _ (List.Perm.swap _ _ _)
  refine Sees.trans (Sees.left (X := [getC (L.map fC) j])) ?_
  refine Sees.trans (Sees.give (hp := [sepC (setC (L.map fC) j .emp)]) (d := fC f) 0 j rfl (by rw [setC_len]; simpa using hj) (getC_setC (by simpa using hj))) ?_
  rw [setC_map hj]
  exact Sees.refl _

def RenP (b : Nat) (d : DS) (x y : List UInt8) (v : SV) (hp : List Chunk) : Prop :=
  (d.begun.dead = true ∧ v = I 13 ∧ hp = dO b d.begun) ∨ (d.begun.dead = false ∧ (nameB x && nameB y) = false ∧ v = I 1 ∧ hp = dO b d.begun.did) ∨
  (d.begun.dead = false ∧ (nameB x && nameB y) = true ∧ fnd d.L x = none ∧ v = I 2 ∧ hp = dO b d.begun.did) ∨
  (d.begun.dead = false ∧ (nameB x && nameB y) = true ∧ fnd d.L x ≠ none ∧ v = I 0 ∧ ∃ L', L'.map (·.toFS) = renF (d.L.map (·.toFS)) x y ∧ hp = dO b { d.begun.did with L := L' })
theorem c21 (b : Nat) (d : DS) (x y : List UInt8) (hd : DOk d) : Spec Try.prog E 21 [.ptr 0 b 0, T x, T y] (dO b d) (RenP b d x y) := by
  refine Spec.see2 ?_
  generalize hP : SeeP (RenP b d x y) = P
  have fin : ∀ v hp hp', Sees hp hp' → RenP b d x y v hp' → P v hp := fun v hp hp' h1 h2 => by rw [← hP]; exact ⟨v, hp', rfl, fun _ h => h, h1, h2⟩
  refine spec_of (keep := k21) (args' := [.ptr 0 b 0, T x, T y]) Try.func21 rfl Try.ntmps21 s21_ok (by simp) ⟨rfl, fun _ h => h⟩ (fun _ _ h => h) (go_ok _ 100 _ _ ?_)
  simp only [go_sem, s21, k21, Nat.reduceBEq, Nat.reduceAdd, Nat.zero_add]
  intro b1
  refine safe_frzC (c := 3) (f' := rowsV encT [x, y]) (env' := [(13, frz false b1 0 2 2 1 (rowsV encT [x, y])), (12, T y), (11, T x), (10, .ptr 0 b 0), (0, .ptr 0 b 0), (1, T x), (2, T y), (6, I 0)]) rfl (fun i j hi hj => ?_)
    ⟨rfl, .inr ⟨rfl, rfl⟩, rfl, .inl rfl, rfl, .inl rfl, rfl, .inl rfl, rfl, .inl rfl, rfl, .inl rfl, rfl, .inl rfl, rfl, .inl rfl, trivial⟩ ?_
  · obtain rfl : j = 0 := by omega
    rcases i with _ | _ | i <;> first | omega | rfl
  refine (stp_call [0, 1, 2] (args := [.ptr 0 b 0, vT (some ⟨b1, 0, none⟩) 2 [x, y]]) rfl rfl rfl ⟨_, Try.func35, rfl, rfl⟩ (c35 b d (some ⟨b1, 0, none⟩) 2 [x, y] (by simp) ⟨hd.o0, hd.o1⟩ hd.lf) rfl (fun _ h => h) rfl (fun _ _ h => h) ?_).safe trivial
  have hval : validB [x, y] = (nameB x && nameB y) := by simp [validB]
  rintro v hp (⟨hdead, rfl, rfl⟩ | ⟨hdead, rfl, rfl⟩)
  · refine ⟨trivial, go_ok _ 100 _ _ ?_⟩
    have d1 : decide ((13 : Int) ≠ 0) = true := by decide
    simp only [go_sem, d1, Nat.reduceBEq, Try.results21]
    exact ⟨fin _ _ _ (Sees.left (a := dO b d.begun) (X := [.emp])) (.inl ⟨hdead, rfl, rfl⟩), fun h => absurd h (by decide)⟩
  · rw [hval]
    obtain ⟨q1, q2, q3, q4⟩ := begun_same d
    have g3 : d.begun.did.L = d.L := q3
    generalize hd1 : d.begun.did = d1 at g3 ⊢
    cases hn : (nameB x && nameB y) with
    | false =>
      refine ⟨trivial, go_ok _ 100 _ _ ?_⟩
      have d1 : decide ((1 : Int) ≠ 0) = true := by decide
      simp only [go_sem, d1, Bool.false_eq_true, if_false, Nat.reduceBEq, Try.results21]
      exact ⟨fin _ _ _ (by rw [← hd1]; exact Sees.left (a := dO b d.begun.did) (X := [.emp])) (.inr (.inl ⟨hdead, hn, rfl, rfl⟩)), fun h => absurd h (by decide)⟩
    | true =>
      refine ⟨trivial, go_ok _ 100 _ _ ?_⟩
      have d0 : decide ((0 : Int) ≠ 0) = false := by decide
      simp only [go_sem, d0, if_true, Nat.reduceBEq, Try.results21]
      refine (stp_call [0, 1, 2] rfl rfl rfl ⟨_, Try.func37, rfl, rfl⟩ (c37 b d1 x) rfl (fun _ h => h) rfl (fun _ _ h => h) ?_).safe trivial
      rintro v hp ⟨rfl, rfl⟩
      unfold findV
      cases hf : fnd d1.L x with
      | none =>
        refine ⟨trivial, go_ok _ 100 _ _ ?_⟩
        have d2 : decide ((2 : Int) = 0) = false := by decide
        simp only [go_sem, d2, Nat.reduceBEq, Nat.zero_add, Try.results21]
        exact fin _ _ _ (by rw [← hd1]; exact Sees.left (a := dO b d.begun.did) (X := [.emp])) (.inr (.inr (.inl ⟨hdead, hn, by rw [← g3]; exact hf, rfl, rfl⟩)))
      | some i =>
        refine ⟨trivial, go_ok _ 100 _ _ ?_⟩
        have d2 : decide ((0 : Int) = 0) = true := by decide
        simp only [go_sem, Nat.reduceBEq, Nat.zero_add, Try.results21]
        refine ⟨?_, fun h => absurd h (by decide)⟩
        refine (stp_mapdel (K := kvS) (x := x) (b := d1.M) (es := d1.mp) (mo := .t 29) (ko := .t 30) 1 rfl rfl Try.underlying66 (by kernel_rfl) rfl rfl rfl ?_ ?_).safeE rfl
        · trivial
        rw [delE_mp hf]
        obtain ⟨f, hfi, hfn⟩ := fnd_some hf
        have hgd : d1.L.getD i default = f := by simp [List.getD_eq_getElem?_getD, hfi]
        have hgd' : (d1.L.map (·.toFS)).getD i ⟨[], [], 0⟩ = f.toFS := by simp [List.getD_eq_getElem?_getD, hfi]
        rw [hgd]
        refine go_ok _ 100 _ _ ?_
        simp only [go_sem, Nat.reduceBEq, Nat.zero_add]
        refine (stp_mapset (K := kvS) (x := y) (b := d1.M) (es := (d1.L.eraseIdx i).map fun f => (f.nm, SV.ptr 0 f.fb 0)) (v := .ptr 0 f.fb 0) (mo := .t 34) (ko := .t 35) (vo := .t 36) 1 rfl rfl rfl Try.underlying66 (by kernel_rfl) rfl rfl rfl rfl ?_ ?_).safeE rfl
        · trivial
        refine go_ok _ 100 _ _ ?_
        simp only [go_sem, Nat.reduceBEq, Try.results21]
        have done : ∀ L' : List FL, setE ((d1.L.eraseIdx i).map fun f => (f.nm, SV.ptr 0 f.fb 0)) y (.ptr 0 f.fb 0) = L'.map (fun f => (f.nm, SV.ptr 0 f.fb 0)) → L'.map (·.toFS) = putF ((d1.L.eraseIdx i).map (·.toFS)) { f.toFS with nm := y } →
            Sees [sepC ((d1.L.eraseIdx i).map fC), fC f] [sepC (L'.map fC)] →
            P (I 0) [.cells b 68 [I d1.room, .val (.map (some d1.M)), I d1.ops, I d1.left, Bl d1.dead], mpC kvS d1.M (setE ((d1.L.eraseIdx i).map fun f => (f.nm, SV.ptr 0 f.fb 0)) y (.ptr 0 f.fb 0)), sepC (d1.L.map fC), .emp] := by
          intro L' h1 h2 h3
          refine fin _ _ _ ?_ (.inr (.inr (.inr ⟨hdead, hn, by rw [← g3, hf]; simp, rfl, L', ?_, rfl⟩)))
          · rw [hd1, h1]
            exact Sees.same (Sees.same (Sees.trans (Sees.left (a := [_]) (X := [.emp])) (Sees.trans (Sees.out hfi) h3)))
          · rw [h2, ← g3, renF, ← fnd_fs, hf]
            simp only
            rw [hgd', delF_some hf]
        cases hy : fnd (d1.L.eraseIdx i) y with
        | none => exact done (d1.L.eraseIdx i ++ [{ f with nm := y }]) (setE_mp0 (f' := { f with nm := y }) hy rfl) (putF_none (f' := { f with nm := y }) hy rfl) (by rw [List.map_append]; exact Sees.bagEnd)
        | some j =>
          obtain ⟨g, hg, _⟩ := fnd_some hy
          exact done ((d1.L.eraseIdx i).set j { f with nm := y }) (setE_mp (f' := { f with nm := y }) hy rfl) (putF_some (f' := { f with nm := y }) hy rfl) (Sees.over (f := { f with nm := y }) (List.getElem?_eq_some_iff.1 hg).1)
end Go.SX
