/- The disk: Sync, Remove, Rename. -/
import Derived.Test.YthpnhfnilogflaaSxK5
namespace Go.SX
open Go.Proofs
set_option maxRecDepth 1000000
variable {E : Env}

def synF : List FS → List UInt8 → List FS
  | [], _ => []
  | f :: r, x => if f.nm = x then { f with syn := f.xs.length } :: r else f :: synF r x
theorem synF_some : ∀ {L : List FL} {x : List UInt8} {i : Nat} {f f' : FL}, fnd L x = some i → L[i]? = some f → f'.toFS = { f.toFS with syn := f.xs.length } → (L.set i f').map (·.toFS) = synF (L.map (·.toFS)) x
  | [], _, _, _, _, h, _, _ => by cases h
  | g :: r, x, i, f, f', h, hf, he => by
    simp only [fnd] at h
    split at h
    · rename_i hg
      injection h with h
      subst h
      simp only [List.getElem?_cons_zero, Option.some.injEq] at hf
      subst hf
      simp [synF, hg, he]
    · rename_i hg
      cases hr : fnd r x with
      | none => rw [hr] at h; cases h
      | some j =>
        rw [hr] at h
        injection h with h
        subst h
        simp only [List.getElem?_cons_succ] at hf
        simp only [List.set_cons_succ, List.map_cons, synF, if_neg hg]
        rw [synF_some hr hf he]

/-- an operation on a file that must be there -/
def OneP (b : Nat) (d : DS) (x : List UInt8) (g : List FS → List FS) (v : SV) (hp : List Chunk) : Prop :=
  (d.begun.dead = true ∧ v = I 13 ∧ hp = dO b d.begun) ∨ (d.begun.dead = false ∧ nameB x = false ∧ v = I 1 ∧ hp = dO b d.begun.did) ∨
  (d.begun.dead = false ∧ nameB x = true ∧ fnd d.L x = none ∧ v = I 2 ∧ hp = dO b d.begun.did) ∨
  (d.begun.dead = false ∧ nameB x = true ∧ fnd d.L x ≠ none ∧ v = I 0 ∧ ∃ L', L'.map (·.toFS) = g (d.L.map (·.toFS)) ∧ hp = dO b { d.begun.did with L := L' })

theorem c19 (b : Nat) (d : DS) (x : List UInt8) (hd : DOk d) : Spec Try.prog E 19 [.ptr 0 b 0, T x] (dO b d) (OneP b d x (synF · x)) := by
  refine Spec.see2 ?_
  generalize hP : SeeP (OneP b d x (synF · x)) = P
  have fin : ∀ v hp hp', Sees hp hp' → OneP b d x (synF · x) v hp' → P v hp := fun v hp hp' h1 h2 => by rw [← hP]; exact ⟨v, hp', rfl, fun _ h => h, h1, h2⟩
  refine spec_of (keep := k19) (args' := [.ptr 0 b 0, T x]) Try.func19 rfl Try.ntmps19 s19_ok (by simp) ⟨rfl, fun _ h => h⟩ (fun _ _ h => h) (go_ok _ 100 _ _ ?_)
  simp only [go_sem, s19, k19, Nat.reduceBEq, Nat.reduceAdd, Nat.zero_add]
  intro b1
  refine safe_frzC (c := 3) (f' := rowsV encT [x]) (env' := [(10, frz false b1 0 1 1 1 (rowsV encT [x])), (9, T x), (8, .ptr 0 b 0), (0, .ptr 0 b 0), (1, T x), (4, I 0)]) rfl (fun i j hi hj => ?_)
    ⟨rfl, .inr ⟨rfl, rfl⟩, rfl, .inl rfl, rfl, .inl rfl, rfl, .inl rfl, rfl, .inl rfl, rfl, .inl rfl, trivial⟩ ?_
  · obtain rfl : j = 0 := by omega
    obtain rfl : i = 0 := by omega
    rfl
  refine (stp_call [0, 1, 2] (args := [.ptr 0 b 0, vT (some ⟨b1, 0, none⟩) 1 [x]]) rfl rfl rfl ⟨_, Try.func35, rfl, rfl⟩ (c35 b d (some ⟨b1, 0, none⟩) 1 [x] (by simp) ⟨hd.o0, hd.o1⟩ hd.lf) rfl (fun _ h => h) rfl (fun _ _ h => h) ?_).safe trivial
  have hval : validB [x] = nameB x := by simp [validB]
  rintro v hp (⟨hdead, rfl, rfl⟩ | ⟨hdead, rfl, rfl⟩)
  · refine ⟨trivial, go_ok _ 100 _ _ ?_⟩
    have d1 : decide ((13 : Int) ≠ 0) = true := by decide
    simp only [go_sem, d1, Nat.reduceBEq, Try.results19]
    exact ⟨fin _ _ _ (Sees.left (a := dO b d.begun) (X := [.emp])) (.inl ⟨hdead, rfl, rfl⟩), fun h => absurd h (by decide)⟩
  · rw [hval]
    obtain ⟨q1, q2, q3, q4⟩ := begun_same d
    have g3 : d.begun.did.L = d.L := q3
    generalize hd1 : d.begun.did = d1 at g3 ⊢
    cases hn : nameB x with
    | false =>
      refine ⟨trivial, go_ok _ 100 _ _ ?_⟩
      have d1 : decide ((1 : Int) ≠ 0) = true := by decide
      simp only [go_sem, d1, Bool.false_eq_true, if_false, Nat.reduceBEq, Try.results19]
      exact ⟨fin _ _ _ (by rw [← hd1]; exact Sees.left (a := dO b d.begun.did) (X := [.emp])) (.inr (.inl ⟨hdead, hn, rfl, rfl⟩)), fun h => absurd h (by decide)⟩
    | true =>
      refine ⟨trivial, go_ok _ 100 _ _ ?_⟩
      have d0 : decide ((0 : Int) ≠ 0) = false := by decide
      simp only [go_sem, d0, if_true, Nat.reduceBEq, Try.results19]
      refine (stp_call [0, 1, 2] rfl rfl rfl ⟨_, Try.func37, rfl, rfl⟩ (c37 b d1 x) rfl (fun _ h => h) rfl (fun _ _ h => h) ?_).safe trivial
      rintro v hp ⟨rfl, rfl⟩
      unfold findV
      cases hf : fnd d1.L x with
      | none =>
        refine ⟨trivial, go_ok _ 100 _ _ ?_⟩
        have d2 : decide ((2 : Int) = 0) = false := by decide
        simp only [go_sem, d2, Nat.reduceBEq, Try.results19]
        exact fin _ _ _ (by rw [← hd1]; exact Sees.left (a := dO b d.begun.did) (X := [.emp])) (.inr (.inr (.inl ⟨hdead, hn, by rw [← g3]; exact hf, rfl, rfl⟩)))
      | some i =>
        refine ⟨trivial, go_ok _ 13 _ _ ?_⟩
        have d2 : decide ((0 : Int) = 0) = true := by decide
        simp only [go_sem, Nat.reduceBEq]
        refine ⟨?_, fun h => absurd h (by decide)⟩
        obtain ⟨f, hfi, hfn⟩ := fnd_some hf
        have hgd : d1.L.getD i default = f := by simp [List.getD_eq_getElem?_getD, hfi]
        rw [hgd]
        refine safe_env (env' := [(0, .ptr 0 b 0), (1, T x), (4, I 0), (5, I 0), (6, .ptr 4 f.fb 0), (7, I 0)]) ⟨seen _ _ _ rfl, seen _ _ _ rfl, seen _ _ _ rfl, seen _ _ _ rfl, seenP _ _ _ _ _ _ rfl rfl, seen _ _ _ rfl, trivial⟩ ?_
        refine safe_sees (Sees.file (c := 2) (i := i) (L := d1.L) (f := f) 5 rfl hfi) ?_
        refine go_ok _ 100 _ _ ?_
        simp only [go_sem, fcell, frow, Nat.reduceBEq, Nat.zero_add, Try.results19]
        refine fin _ _ _ (Sees.trans (Sees.back (hp := [_, _, _, _]) (c := 2) (i := i) (L := d1.L) (f := f) (f' := { f with syn := f.xs.length }) (q := 5) rfl hfi) ?_) (.inr (.inr (.inr ⟨hdead, hn, by rw [← g3, hf]; simp, rfl, d1.L.set i { f with syn := f.xs.length }, ?_, rfl⟩)))
        · refine Sees.trans (Sees.left (a := [_, _, _]) (X := [.emp])) ?_
          rw [hd1]
          exact Sees.of_eq (dO_set (mp_set (f' := { f with syn := f.xs.length }) hfi rfl rfl)).symm
        · rw [← g3]
          exact synF_some hf hfi rfl

def delF : List FS → List UInt8 → List FS
  | [], _ => []
  | f :: r, x => if f.nm = x then r else f :: delF r x
theorem delF_some : ∀ {L : List FL} {x : List UInt8} {i : Nat}, fnd L x = some i → (L.eraseIdx i).map (·.toFS) = delF (L.map (·.toFS)) x
  | [], _, _, h => by cases h
  | g :: r, x, i, h => by
    simp only [fnd] at h
    split at h
    · rename_i hg
      injection h with h
      subst h
      simp [delF, hg]
    · rename_i hg
      cases hr : fnd r x with
      | none => rw [hr] at h; cases h
      | some j =>
        rw [hr] at h
        injection h with h
        subst h
        simp only [List.eraseIdx_cons_succ, List.map_cons, delF, if_neg hg]
        rw [delF_some hr]
theorem delE_mp : ∀ {L : List FL} {x : List UInt8} {i : Nat}, fnd L x = some i → delE (L.map fun f => (f.nm, SV.ptr 0 f.fb 0)) x = (L.eraseIdx i).map fun f => (f.nm, SV.ptr 0 f.fb 0)
  | [], _, _, h => by cases h
  | g :: r, x, i, h => by
    simp only [fnd] at h
    split at h
    · rename_i hg
      injection h with h
      subst h
      simp [delE, hg]
    · rename_i hg
      cases hr : fnd r x with
      | none => rw [hr] at h; cases h
      | some j =>
        rw [hr] at h
        injection h with h
        subst h
        simp only [List.eraseIdx_cons_succ, List.map_cons, delE, if_neg hg]
        rw [delE_mp hr]
theorem delE_mp0 {L : List FL} {x : List UInt8} (h : fnd L x = none) : delE (L.map fun f => (f.nm, SV.ptr 0 f.fb 0)) x = L.map fun f => (f.nm, SV.ptr 0 f.fb 0) :=
  delE_none fun p hp => by
    obtain ⟨f, hfm, rfl⟩ := List.mem_map.1 hp
    exact fnd_none h f hfm
/-- a file taken out of the bag stands beside it -/
theorem Sees.out {L : List FL} {i : Nat} {f : FL} (hi : L[i]? = some f) : Sees [sepC (L.map fC)] [sepC ((L.eraseIdx i).map fC), fC f] := by
  have hlt := (List.getElem?_eq_some_iff.1 hi).1
  refine Sees.trans (Sees.take 0 i (cs := L.map fC) rfl (by simpa using hlt)) ?_
  rw [getC_map hi]
  refine Sees.cons (fun ro H h => ⟨H, [], by simp, ?_⟩) (Sees.refl [fC f])
  refine sepC_see (fun ro H hs => ⟨H, List.Perm.refl _, ?_⟩) ro H h
  rw [eraseIdx_map']
  exact hsat_emps hs (by simpa using hlt)

theorem c18 (b : Nat) (d : DS) (x : List UInt8) (hd : DOk d) : Spec Try.prog E 18 [.ptr 0 b 0, T x] (dO b d) (OneP b d x (delF · x)) := by
  refine Spec.see2 ?_
  generalize hP : SeeP (OneP b d x (delF · x)) = P
  have fin : ∀ v hp hp', Sees hp hp' → OneP b d x (delF · x) v hp' → P v hp := fun v hp hp' h1 h2 => by rw [← hP]; exact ⟨v, hp', rfl, fun _ h => h, h1, h2⟩
  refine spec_of (keep := k18) (args' := [.ptr 0 b 0, T x]) Try.func18 rfl Try.ntmps18 s18_ok (by simp) ⟨rfl, fun _ h => h⟩ (fun _ _ h => h) (go_ok _ 100 _ _ ?_)
  simp only [go_sem, s18, k18, Nat.reduceBEq, Nat.reduceAdd, Nat.zero_add]
  intro b1
  refine safe_frzC (c := 3) (f' := rowsV encT [x]) (env' := [(10, frz false b1 0 1 1 1 (rowsV encT [x])), (9, T x), (8, .ptr 0 b 0), (0, .ptr 0 b 0), (1, T x), (4, I 0)]) rfl (fun i j hi hj => ?_)
    ⟨rfl, .inr ⟨rfl, rfl⟩, rfl, .inl rfl, rfl, .inl rfl, rfl, .inl rfl, rfl, .inl rfl, rfl, .inl rfl, trivial⟩ ?_
  · obtain rfl : j = 0 := by omega
    obtain rfl : i = 0 := by omega
    rfl
  refine (stp_call [0, 1, 2] (args := [.ptr 0 b 0, vT (some ⟨b1, 0, none⟩) 1 [x]]) rfl rfl rfl ⟨_, Try.func35, rfl, rfl⟩ (c35 b d (some ⟨b1, 0, none⟩) 1 [x] (by simp) ⟨hd.o0, hd.o1⟩ hd.lf) rfl (fun _ h => h) rfl (fun _ _ h => h) ?_).safe trivial
  have hval : validB [x] = nameB x := by simp [validB]
  rintro v hp (⟨hdead, rfl, rfl⟩ | ⟨hdead, rfl, rfl⟩)
  · refine ⟨trivial, go_ok _ 100 _ _ ?_⟩
    have d1 : decide ((13 : Int) ≠ 0) = true := by decide
    simp only [go_sem, d1, Nat.reduceBEq, Try.results18]
    exact ⟨fin _ _ _ (Sees.left (a := dO b d.begun) (X := [.emp])) (.inl ⟨hdead, rfl, rfl⟩), fun h => absurd h (by decide)⟩
  · rw [hval]
    obtain ⟨q1, q2, q3, q4⟩ := begun_same d
    have g3 : d.begun.did.L = d.L := q3
    generalize hd1 : d.begun.did = d1 at g3 ⊢
    cases hn : nameB x with
    | false =>
      refine ⟨trivial, go_ok _ 100 _ _ ?_⟩
      have d1 : decide ((1 : Int) ≠ 0) = true := by decide
      simp only [go_sem, d1, Bool.false_eq_true, if_false, Nat.reduceBEq, Try.results18]
      exact ⟨fin _ _ _ (by rw [← hd1]; exact Sees.left (a := dO b d.begun.did) (X := [.emp])) (.inr (.inl ⟨hdead, hn, rfl, rfl⟩)), fun h => absurd h (by decide)⟩
    | true =>
      refine ⟨trivial, go_ok _ 100 _ _ ?_⟩
      have d0 : decide ((0 : Int) ≠ 0) = false := by decide
      simp only [go_sem, d0, if_true, Nat.reduceBEq, Try.results18]
      refine (stp_call [0, 1, 2] rfl rfl rfl ⟨_, Try.func37, rfl, rfl⟩ (c37 b d1 x) rfl (fun _ h => h) rfl (fun _ _ h => h) ?_).safe trivial
      rintro v hp ⟨rfl, rfl⟩
      unfold findV
      cases hf : fnd d1.L x with
      | none =>
        refine ⟨trivial, go_ok _ 100 _ _ ?_⟩
        simp only [go_sem, Nat.reduceBEq, Nat.zero_add]
        refine (stp_mapdel (K := kvS) (x := x) (b := d1.M) (es := d1.mp) (mo := .t 24) (ko := .t 25) 1 rfl rfl Try.underlying66 (by kernel_rfl) rfl rfl rfl ?_ ?_).safeE rfl
        · trivial
        rw [delE_mp0 hf]
        refine go_ok _ 100 _ _ ?_
        simp only [go_sem, Nat.reduceBEq, Try.results18]
        exact fin _ _ _ (by rw [← hd1]; exact Sees.left (a := dO b d.begun.did) (X := [.emp])) (.inr (.inr (.inl ⟨hdead, hn, by rw [← g3]; exact hf, rfl, rfl⟩)))
      | some i =>
        refine ⟨trivial, go_ok _ 100 _ _ ?_⟩
        simp only [go_sem, Nat.reduceBEq, Nat.zero_add]
        refine (stp_mapdel (K := kvS) (x := x) (b := d1.M) (es := d1.mp) (mo := .t 24) (ko := .t 25) 1 rfl rfl Try.underlying66 (by kernel_rfl) rfl rfl rfl ?_ ?_).safeE rfl
        · trivial
        rw [delE_mp hf]
        refine go_ok _ 100 _ _ ?_
        simp only [go_sem, Nat.reduceBEq, Try.results18]
        obtain ⟨f, hfi, hfn⟩ := fnd_some hf
        refine fin _ _ _ ?_ (.inr (.inr (.inr ⟨hdead, hn, by rw [← g3, hf]; simp, rfl, d1.L.eraseIdx i, by rw [← g3]; exact delF_some hf, rfl⟩)))
        rw [hd1]
        exact Sees.same (Sees.same (Sees.trans (Sees.app (Sees.trans (Sees.out hfi) (Sees.left (a := [_]) (X := [_]))) (Sees.refl [.emp])) (Sees.left (a := [_]) (X := [_]))))
end Go.SX
