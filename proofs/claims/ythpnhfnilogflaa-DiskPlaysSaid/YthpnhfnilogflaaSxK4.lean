/- The disk: find, Append, Read, Sync. -/
import Derived.Test.YthpnhfnilogflaaSxK3
namespace Go.SX
open Go.Proofs
set_option maxRecDepth 1000000
variable {E : Env}

/-- where a file stands -/
def fnd : List FL → List UInt8 → Option Nat
  | [], _ => none
  | f :: r, x => if f.nm = x then some 0 else (fnd r x).map (· + 1)
theorem fnd_some : ∀ {L : List FL} {x : List UInt8} {i : Nat}, fnd L x = some i → ∃ f, L[i]? = some f ∧ f.nm = x
  | [], _, _, h => by cases h
  | f :: r, x, i, h => by
    simp only [fnd] at h
    split at h
    · injection h with h; subst h; exact ⟨f, rfl, by assumption⟩
    · cases hr : fnd r x with
      | none => rw [hr] at h; cases h
      | some j =>
        rw [hr] at h
        injection h with h
        subst h
        obtain ⟨g, h1, h2⟩ := fnd_some hr
        exact ⟨g, by simpa using h1, h2⟩
theorem fnd_none : ∀ {L : List FL} {x : List UInt8}, fnd L x = none → ∀ f ∈ L, f.nm ≠ x
  | [], _, _, f, hf => by simp at hf
  | g :: r, x, h, f, hf => by
    simp only [fnd] at h
    split at h
    · cases h
    · rename_i hg
      cases hr : fnd r x with
      | some j => rw [hr] at h; cases h
      | none =>
        rcases List.mem_cons.1 hf with rfl | hf
        · exact hg
        · exact fnd_none hr f hf
theorem look_mp : ∀ (L : List FL) (x : List UInt8), lookE (L.map fun f => (f.nm, SV.ptr 0 f.fb 0)) x = (fnd L x).map fun i => .ptr 0 (L.getD i default).fb 0
  | [], _ => rfl
  | f :: r, x => by
    simp only [List.map_cons, lookE, fnd]
    split
    · rfl
    · rw [look_mp r x]
      cases fnd r x with
      | none => rfl
      | some j => simp

def findV (d : DS) (x : List UInt8) : SV := match fnd d.L x with
  | none => .tup [.val (.pointer none), I 2]
  | some i => .tup [.ptr 0 (d.L.getD i default).fb 0, I 0]
theorem c37 (b : Nat) (d : DS) (x : List UInt8) : Spec Try.prog E 37 [.ptr 0 b 0, T x] (dO b d) (fun v hp => v = findV d x ∧ hp = dO b d) := by
  refine spec_of (keep := k37) (args' := [.ptr 0 b 0, T x]) Try.func37 rfl Try.ntmps37 s37_ok (by simp) ⟨rfl, fun _ h => h⟩ (fun _ _ h => h) (go_ok _ 100 _ _ ?_)
  simp only [go_sem, s37, k37, Nat.reduceBEq, Nat.zero_add]
  refine safe_oth (oth_lookup (K := kvS) (x := x) (b := d.M) (es := d.mp) (z := .pointer none) (mo := .t 12) (ko := .t 13) 1 rfl rfl Try.underlying66 (by kernel_rfl) rfl rfl rfl (by kernel_rfl)) trivial ?_
  rw [look_mp]
  cases hf : fnd d.L x with
  | none =>
    refine go_ok _ 100 _ _ ?_
    simp only [go_sem, Option.map_none, Option.getD_none, Option.isSome_none, Nat.reduceBEq, Try.results37]
    exact ⟨by simp [findV, hf], fun h => absurd h (by decide)⟩
  | some i =>
    refine go_ok _ 100 _ _ ?_
    simp only [go_sem, Option.map_some, Option.getD_some, Option.isSome_some, Nat.reduceBEq, Try.results37]
    simp [findV, hf]

/-- bytes behind a file's -/
def addF : List FS → List UInt8 → List UInt8 → List FS
  | [], x, ys => [⟨x, ys, 0⟩]
  | f :: r, x, ys => if f.nm = x then { f with xs := f.xs ++ ys } :: r else f :: addF r x ys
theorem addF_some : ∀ {L : List FL} {x ys : List UInt8} {i : Nat} {f f' : FL}, fnd L x = some i → L[i]? = some f → f'.toFS = { f.toFS with xs := f.xs ++ ys } → (L.set i f').map (·.toFS) = addF (L.map (·.toFS)) x ys
  | [], _, _, _, _, _, h, _, _ => by cases h
  | g :: r, x, ys, i, f, f', h, hf, he => by
    simp only [fnd] at h
    split at h
    · rename_i hg
      injection h with h
      subst h
      simp only [List.getElem?_cons_zero, Option.some.injEq] at hf
      subst hf
      simp [addF, hg, he]
    · rename_i hg
      cases hr : fnd r x with
      | none => rw [hr] at h; cases h
      | some j =>
        rw [hr] at h
        injection h with h
        subst h
        simp only [List.getElem?_cons_succ] at hf
        simp only [List.set_cons_succ, List.map_cons, addF, if_neg hg]
        rw [addF_some hr hf he]
theorem addF_none : ∀ {L : List FL} {x ys : List UInt8} {f' : FL}, fnd L x = none → f'.toFS = ⟨x, ys, 0⟩ → (L ++ [f']).map (·.toFS) = addF (L.map (·.toFS)) x ys
  | [], x, ys, f', _, he => by simp [addF, he]
  | g :: r, x, ys, f', h, he => by
    simp only [fnd] at h
    split at h
    · cases h
    · rename_i hg
      cases hr : fnd r x with
      | some j => rw [hr] at h; cases h
      | none =>
        simp only [List.cons_append, List.map_cons, addF, if_neg hg]
        rw [addF_none hr he]

theorem mp_set {L : List FL} {i : Nat} {f f' : FL} (hi : L[i]? = some f) (h1 : f'.nm = f.nm) (h2 : f'.fb = f.fb) : (L.set i f').map (fun f => (f.nm, SV.ptr 0 f.fb 0)) = L.map fun f => (f.nm, SV.ptr 0 f.fb 0) := by
  rw [List.map_set, h1, h2]
  apply set_same
  rw [List.getElem?_map, hi]
  rfl

theorem dO_set {b : Nat} {d : DS} {L' : List FL} (h : L'.map (fun f => (f.nm, SV.ptr 0 f.fb 0)) = d.mp) : dO b { d with L := L' } = [.cells b 68 [I d.room, .val (.map (some d.M)), I d.ops, I d.left, Bl d.dead], mpC kvS d.M d.mp, sepC (L'.map fC)] := by
  rw [← h]
  rfl
theorem Sees.of_eq {a b : List Chunk} (h : a = b) : Sees a b := h ▸ Sees.refl a

def AppP (b : Nat) (d : DS) (x ys : List UInt8) (X : List Chunk) (v : SV) (hp : List Chunk) : Prop :=
  (d.begun.dead = true ∧ v = I 13 ∧ hp = dO b d.begun ++ X) ∨ (d.begun.dead = false ∧ nameB x = false ∧ v = I 1 ∧ hp = dO b d.begun.did ++ X) ∨
  (d.begun.dead = false ∧ nameB x = true ∧ d.room - usedB d.L < ys.length ∧ v = I 14 ∧ hp = dO b d.begun.did ++ X) ∨
  (d.begun.dead = false ∧ nameB x = true ∧ ys.length ≤ d.room - usedB d.L ∧ v = I 0 ∧ ∃ L', L'.map (·.toFS) = addF (d.L.map (·.toFS)) x ys ∧ hp = dO b { d.begun.did with L := L' } ++ X)
structure DOk (d : DS) : Prop where
  r0 : 0 ≤ d.room
  r1 : d.room < 2 ^ 63
  us : (usedB d.L : Int) ≤ d.room
  u2 : usedB d.L ≤ 2 ^ 30
  o0 : 0 ≤ d.ops
  o1 : d.ops < 2 ^ 60
  lf : inI64 d.left
theorem le_used {L : List FL} {f : FL} (h : f ∈ L) : f.xs.length ≤ usedB L := by
  induction L with
  | nil => simp at h
  | cons g L ih =>
    simp only [usedB, List.map_cons, List.sum_cons]
    rcases List.mem_cons.1 h with rfl | h
    · omega
    · have := ih h
      simp only [usedB] at this
      omega
theorem begun_same (d : DS) : d.begun.room = d.room ∧ d.begun.M = d.M ∧ d.begun.L = d.L ∧ d.begun.ops = d.ops := by
  unfold DS.begun
  cases decide (0 < d.left) <;> exact ⟨rfl, rfl, rfl, rfl⟩

theorem c12v (b : Nat) (d : DS) (x : List UInt8) (a : Option Addr) (cap : Nat) (ys : List UInt8) (hd : DOk d) (hy : ys.length ≤ 2 ^ 20) :
    Spec Try.prog E 12 [.ptr 0 b 0, T x, vB a cap ys] (dO b d) (AppP b d x ys []) := by
  refine Spec.see ?_
  generalize hP : (fun v hp => ∃ hp', Sees hp hp' ∧ AppP b d x ys [] v hp') = P
  refine spec_of (keep := k12) (args' := [.ptr 0 b 0, T x, vB a cap ys]) Try.func12 rfl Try.ntmps12 s12_ok (by simp) ⟨rfl, fun _ h => h⟩ (fun _ _ h => h) (go_ok _ 100 _ _ ?_)
  simp only [go_sem, s12, k12, Nat.reduceBEq, Nat.reduceAdd, Nat.zero_add]
  intro b1
  refine safe_frzC (c := 3) (f' := rowsV encT [x]) (env' := [(12, frz false b1 0 1 1 1 (rowsV encT [x])), (11, T x), (10, .ptr 0 b 0), (0, .ptr 0 b 0), (1, T x), (2, vB a cap ys), (6, I 0)]) rfl (fun i j hi hj => ?_)
    ⟨rfl, .inr ⟨rfl, rfl⟩, rfl, .inl rfl, rfl, .inl rfl, rfl, .inl rfl, rfl, .inl rfl, rfl, .inl rfl, rfl, .inl rfl, trivial⟩ ?_
  · obtain rfl : j = 0 := by omega
    obtain rfl : i = 0 := by omega
    rfl
  refine (stp_call [0, 1, 2] (args := [.ptr 0 b 0, vT (some ⟨b1, 0, none⟩) 1 [x]]) rfl rfl rfl ⟨_, Try.func35, rfl, rfl⟩ (c35 b d (some ⟨b1, 0, none⟩) 1 [x] (by simp) ⟨hd.o0, hd.o1⟩ hd.lf) rfl (fun _ h => h) rfl (fun _ _ h => h) ?_).safe trivial
  have hval : validB [x] = nameB x := by simp [validB]
  rintro v hp (⟨hdead, rfl, rfl⟩ | ⟨hdead, rfl, rfl⟩)
  · refine ⟨trivial, go_ok _ 100 _ _ ?_⟩
    have d1 : decide ((13 : Int) ≠ 0) = true := by decide
    simp only [go_sem, d1, Nat.reduceBEq, Nat.zero_add, Try.results12]
    refine ⟨?_, fun h => absurd h (by decide)⟩
    rw [← hP]
    exact ⟨_, Sees.left (a := dO b d.begun) (X := [.emp]), .inl ⟨hdead, rfl, rfl⟩⟩
  · rw [hval]
    obtain ⟨q1, q2, q3, q4⟩ := begun_same d
    have hP2 : P = fun v hp => ∃ hp', Sees hp hp' ∧ AppP b d x ys [] v hp' := hP.symm
    have g1 : d.begun.did.room = d.room := q1
    have g3 : d.begun.did.L = d.L := q3
    generalize hd1 : d.begun.did = d1 at g1 g3 ⊢
    cases hn : nameB x with
    | false =>
      refine ⟨trivial, go_ok _ 100 _ _ ?_⟩
      have d1 : decide ((1 : Int) ≠ 0) = true := by decide
      simp only [go_sem, d1, Bool.false_eq_true, if_false, Nat.reduceBEq, Nat.zero_add, Try.results12]
      refine ⟨?_, fun h => absurd h (by decide)⟩
      rw [hP2, ← hd1]
      exact ⟨_, Sees.left (a := dO b d.begun.did) (X := [.emp]), .inr (.inl ⟨hdead, hn, rfl, rfl⟩)⟩
    | true =>
      refine ⟨trivial, go_ok _ 100 _ _ ?_⟩
      simp only [go_sem, if_true, Nat.reduceBEq, Nat.zero_add, Try.results12]
      refine ⟨fun h => absurd h (by decide), fun _ => ?_⟩
      have hu : usedB d1.L < 2 ^ 63 := by rw [g3]; have := hd.u2; omega
      refine (stp_call [0, 1, 2] rfl rfl rfl ⟨_, Try.func16, rfl, rfl⟩ (c16 b d1 hu) rfl (fun _ h => h) rfl (fun _ _ h => h) ?_).safe trivial
      rintro v hp ⟨rfl, rfl⟩
      refine ⟨by simp only [go_sem, Nat.reduceBEq, Nat.zero_add], go_ok _ 100 _ _ ?_⟩
      simp only [go_sem, Nat.reduceBEq, Nat.zero_add, Try.results12]
      refine ⟨by have := hd.us; have := hd.r0; have := hd.r1; rw [g1, g3]; simp only [inI64]; omega, fun hfull => ?_, fun hfits => ?_⟩
      · rw [hP2, ← hd1]
        rw [g1, g3, decide_eq_true_eq] at hfull
        exact ⟨_, Sees.left (a := dO b d.begun.did) (X := [.emp]), .inr (.inr (.inl ⟨hdead, hn, hfull, rfl, rfl⟩))⟩
      rw [g1, g3] at hfits
      have hfits := of_decide_eq_false hfits
      have fin : ∀ L', L'.map (·.toFS) = addF (d.L.map (·.toFS)) x ys → ∀ hp, Sees hp (dO b { d1 with L := L' }) → P (I 0) hp := by
        intro L' hL hp hs
        rw [hP2, ← hd1] at *
        exact ⟨_, hs, .inr (.inr (.inr ⟨hdead, hn, by omega, rfl, L', hL, by simp⟩))⟩
      refine safe_oth (oth_lookup (K := kvS) (x := x) (b := d1.M) (es := d1.mp) (z := .pointer none) (mo := .t 31) (ko := .t 32) 1 rfl rfl Try.underlying66 (by kernel_rfl) rfl rfl rfl (by kernel_rfl)) trivial ?_
      rw [look_mp]
      cases hf : fnd d1.L x with
      | some i =>
        refine go_ok _ 7 _ _ ?_
        simp only [go_sem, Option.map_some, Option.getD_some, Option.isSome_some, Nat.reduceBEq]
        obtain ⟨f, hfi, hfn⟩ := fnd_some hf
        have hgd : d1.L.getD i default = f := by simp [List.getD_eq_getElem?_getD, hfi]
        rw [hgd]
        have hfl : f.xs.length ≤ 2 ^ 30 := by
          have h1 := le_used (List.mem_of_getElem? hfi)
          have h2 := hd.u2
          rw [g3] at h1
          omega
        refine safe_env (env' := [(0, .ptr 0 b 0), (1, T x), (2, vB a cap ys), (6, I 0), (7, I 0), (8, .ptr 4 f.fb 0), (9, Bl true)]) ⟨seen _ _ _ rfl, seen _ _ _ rfl, seen _ _ _ rfl, seen _ _ _ rfl, seen _ _ _ rfl, seenP _ _ _ _ _ _ rfl rfl, seen _ _ _ rfl, trivial⟩ ?_
        refine safe_sees (Sees.file (c := 2) (i := i) (L := d1.L) (f := f) 5 rfl hfi) ?_
        refine go_ok _ 100 _ _ ?_
        simp only [go_sem, fcell, frow, Nat.reduceBEq, Nat.reduceAdd, Nat.zero_add]
        refine (stp_app2 (c := 5) (b := f.db) (off := f.off) (nl := f.nl) (n := f.xs.length) (cap := f.cap) (x := vB a cap ys) (gx := rowsV encB ys) (f := rowsV encB f.xs) (f2 := rowsV encB (f.xs ++ ys)) (N := (f.xs ++ ys).length) rfl rfl rfl rfl rfl (onesF_rows fun x => ⟨rfl, by simp [encB, ones, one, Value.oneCell']⟩) (by omega) (by simp) (fun i j hi hj => app_rows i j (by simpa using hi) hj) fun nl' b' off' cap' => ?_).safe trivial
        refine ⟨trivial, go_ok _ 100 _ _ ?_⟩
        simp only [go_sem, Nat.reduceBEq, Nat.zero_add, Try.results12]
        refine fin (d1.L.set i { f with xs := f.xs ++ ys, nl := nl', db := b', off := off', cap := cap' }) ?_ _ ?_
        · rw [← g3]
          exact addF_some hf hfi rfl
        · refine Sees.trans (Sees.back (hp := [_, _, _, _]) (c := 2) (i := i) (L := d1.L) (f := f) (f' := { f with xs := f.xs ++ ys, nl := nl', db := b', off := off', cap := cap' }) (q := 5) rfl hfi) ?_
          have hm : (d1.L.set i { f with xs := f.xs ++ ys, nl := nl', db := b', off := off', cap := cap' }).map (fun f => (f.nm, SV.ptr 0 f.fb 0)) = d1.mp := mp_set hfi rfl rfl
          refine Sees.trans (Sees.left (a := [_, _, _]) (X := [.emp])) ?_
          exact Sees.of_eq (dO_set hm).symm
      | none =>
        refine go_ok _ 100 _ _ ?_
        simp only [go_sem, Option.map_none, Option.getD_none, Option.isSome_none, Nat.reduceBEq, Nat.reduceAdd, Nat.zero_add]
        refine ⟨fun b2 => ?_, fun h => absurd h (by decide)⟩
        refine (stp_mapset (K := kvS) (x := x) (b := d1.M) (es := d1.mp) (v := .ptr 4 b2 0) (mo := .t 43) (ko := .t 44) (vo := .t 45) 1 rfl rfl rfl Try.underlying66 (by kernel_rfl) rfl rfl rfl rfl ?_ ?_).safeE rfl
        · trivial
        refine go_ok _ 100 _ _ ?_
        simp only [go_sem, Nat.reduceBEq, Nat.zero_add]
        refine (stp_appn (x := vB a cap ys) (gx := rowsV encB ys) (sz0 := 1) rfl rfl rfl rfl (by omega) fun nl' b' off' cap' => ?_).safe trivial
        refine ⟨trivial, go_ok _ 100 _ _ ?_⟩
        simp only [go_sem, Nat.reduceBEq, Nat.reduceAdd, Nat.zero_add, Try.results12]
        refine fin (d1.L ++ [⟨⟨x, ys, 0⟩, b2, nl', b', off', cap'⟩]) ?_ _ ?_
        · rw [← g3]
          exact addF_none hf rfl
        · refine Sees.same (Sees.cons (fun ro H h => ⟨H, [], by simp, ?_⟩) ?_)
          · have hs : setE d1.mp x (.ptr 4 b2 0) = d1.mp ++ [(x, .ptr 4 b2 0)] := setE_none fun p hp => by
              obtain ⟨f, hfm, rfl⟩ := List.mem_map.1 hp
              exact fnd_none hf f hfm
            rw [hs] at h
            exact mpC_see (by simp [DS.mp]) (by simp [DS.mp, SV.den]) (fun ro _ => by simp only [oks_iff]; intro s hs'; simp only [DS.mp, List.map_map, List.mem_map] at hs'; obtain ⟨f, _, rfl⟩ := hs'; simp only [Function.comp, SV.ok]) ro H h
          · refine Sees.trans (Sees.same (Sees.emp (Sees.trans (Sees.cons (y := fcell 0 ⟨⟨x, ys, 0⟩, b2, nl', b', off', cap'⟩) (fun ro H h => ⟨H, [], by simp, ⟨h.1, by simp [SV.oks, SV.ok]⟩⟩) (Sees.refl [frow ⟨⟨x, ys, 0⟩, b2, nl', b', off', cap'⟩])) (Sees.bag _)))) ?_
            refine Sees.trans Sees.bagEnd ?_
            rw [show d1.L.map fC ++ [sepC [fcell 0 ⟨⟨x, ys, 0⟩, b2, nl', b', off', cap'⟩, frow ⟨⟨x, ys, 0⟩, b2, nl', b', off', cap'⟩]] = (d1.L ++ [(⟨⟨x, ys, 0⟩, b2, nl', b', off', cap'⟩ : FL)]).map fC by rw [List.map_append]; rfl]
            exact Sees.refl _
end Go.SX
