/- The disk: Append of a slice of one's own. -/
import Derived.Test.YthpnhfnilogflaaSxK13
namespace Go.SX
open Go.Proofs
set_option maxRecDepth 1000000
variable {E : Env}

theorem c12o (b : Nat) (d : DS) (x : List UInt8) (nl : Bool) (bo off cap : Nat) (ys : List UInt8) (hd : DOk d) (hy : ys.length ≤ 2 ^ 20) :
    Spec Try.prog E 12 [.ptr 0 b 0, T x, .osl 3 nl bo off ys.length cap] (dO b d ++ [.row nl bo 5 off 1 ys.length cap (rowsV encB ys)]) (AppP b d x ys [.row nl bo 5 off 1 ys.length cap (rowsV encB ys)]) := by
  refine Spec.see ?_
  generalize hP : (fun v hp => ∃ hp', Sees hp hp' ∧ AppP b d x ys [.row nl bo 5 off 1 ys.length cap (rowsV encB ys)] v hp') = P
  refine spec_of (keep := k12) (args' := [.ptr 0 b 0, T x, .osl 3 nl bo off ys.length cap]) Try.func12 rfl Try.ntmps12 s12_ok (by simp) ⟨rfl, fun _ h => h⟩ (fun _ _ h => h) (go_ok _ 100 _ _ ?_)
  simp only [go_sem, s12, k12, Nat.reduceBEq, Nat.reduceAdd, Nat.zero_add]
  intro b1
  refine safe_frzC (c := 4) (f' := rowsV encT [x]) (env' := [(12, frz false b1 0 1 1 1 (rowsV encT [x])), (11, T x), (10, .ptr 0 b 0), (0, .ptr 0 b 0), (1, T x), (2, .osl 3 nl bo off ys.length cap), (6, I 0)]) rfl (fun i j hi hj => ?_)
    ⟨rfl, .inr ⟨rfl, rfl⟩, rfl, .inl rfl, rfl, .inl rfl, rfl, .inl rfl, rfl, .inl rfl, rfl, .inl rfl, rfl, .inl rfl, trivial⟩ ?_
  · obtain rfl : j = 0 := by omega
    obtain rfl : i = 0 := by omega
    rfl
  refine (stp_call [0, 1, 2] (args := [.ptr 0 b 0, vT (some ⟨b1, 0, none⟩) 1 [x]]) rfl rfl rfl ⟨_, Try.func35, rfl, rfl⟩ (c35 b d (some ⟨b1, 0, none⟩) 1 [x] (by simp) ⟨hd.o0, hd.o1⟩ hd.lf) rfl (fun _ h => h) rfl (fun _ _ h => h) ?_).safe trivial
  have hval : validB [x] = nameB x := by simp [validB]
  rintro v hp (⟨hdead, rfl, rfl⟩ | ⟨hdead, rfl, rfl⟩)
  · refine ⟨trivial, go_ok _ 100 _ _ ?_⟩
    have d1 : decide ((13 : Int) ≠ 0) = true := by decide
    simp only [go_sem, d1, Nat.reduceBEq, Nat.zero_add, Try.results12]
    refine ⟨?_, fun h => absurd h (by decide)⟩
    rw [← hP]
    exact ⟨_, Sees.left (a := dO b d.begun ++ [.row nl bo 5 off 1 ys.length cap (rowsV encB ys)]) (X := [.emp]), .inl ⟨hdead, rfl, rfl⟩⟩
  · rw [hval]
    obtain ⟨q1, q2, q3, q4⟩ := begun_same d
    have hP2 : P = fun v hp => ∃ hp', Sees hp hp' ∧ AppP b d x ys [.row nl bo 5 off 1 ys.length cap (rowsV encB ys)] v hp' := hP.symm
    have g1 : d.begun.did.room = d.room := q1
    have g3 : d.begun.did.L = d.L := q3
    generalize hd1 : d.begun.did = d1 at g1 g3 ⊢
    cases hn : nameB x with
    | false =>
      refine ⟨trivial, go_ok _ 100 _ _ ?_⟩
      have d1 : decide ((1 : Int) ≠ 0) = true := by decide
      simp only [go_sem, d1, Bool.false_eq_true, if_false, Nat.reduceBEq, Nat.zero_add, Try.results12]
      refine ⟨?_, fun h => absurd h (by decide)⟩
      rw [hP2, ← hd1]
      exact ⟨_, Sees.left (a := dO b d.begun.did ++ [.row nl bo 5 off 1 ys.length cap (rowsV encB ys)]) (X := [.emp]), .inr (.inl ⟨hdead, hn, rfl, rfl⟩)⟩
    | true =>
      refine ⟨trivial, go_ok _ 100 _ _ ?_⟩
      simp only [go_sem, if_true, Nat.reduceBEq, Nat.zero_add, Try.results12]
      refine ⟨fun h => absurd h (by decide), fun _ => ?_⟩
      have hu : usedB d1.L < 2 ^ 63 := by rw [g3]; have := hd.u2; omega
      refine (stp_call [0, 1, 2] rfl rfl rfl ⟨_, Try.func16, rfl, rfl⟩ (c16 b d1 hu) rfl (fun _ h => h) rfl (fun _ _ h => h) ?_).safe trivial
      rintro v hp ⟨rfl, rfl⟩
      refine ⟨by simp only [go_sem, Nat.reduceBEq, Nat.zero_add], go_ok _ 100 _ _ ?_⟩
      simp only [go_sem, Nat.reduceBEq, Nat.zero_add, Try.results12]
      refine ⟨by have := hd.us; have := hd.r0; have := hd.r1; rw [g1, g3]; simp only [inI64]; omega, fun hfull => ?_, fun hfits => ?_⟩
      · rw [hP2, ← hd1]
        rw [g1, g3, decide_eq_true_eq] at hfull
        exact ⟨_, Sees.left (a := dO b d.begun.did ++ [.row nl bo 5 off 1 ys.length cap (rowsV encB ys)]) (X := [.emp]), .inr (.inr (.inl ⟨hdead, hn, hfull, rfl, rfl⟩))⟩
      rw [g1, g3] at hfits
      have hfits := of_decide_eq_false hfits
      have fin : ∀ L', L'.map (·.toFS) = addF (d.L.map (·.toFS)) x ys → ∀ hp, Sees hp (dO b { d1 with L := L' } ++ [.row nl bo 5 off 1 ys.length cap (rowsV encB ys)]) → P (I 0) hp := by
        intro L' hL hp hs
        rw [hP2, ← hd1] at *
        exact ⟨_, hs, .inr (.inr (.inr ⟨hdead, hn, by omega, rfl, L', hL, by simp⟩))⟩
      refine safe_oth (oth_lookup (K := kvS) (x := x) (b := d1.M) (es := d1.mp) (z := .pointer none) (mo := .t 31) (ko := .t 32) 1 rfl rfl Try.underlying66 (by kernel_rfl) rfl rfl rfl (by kernel_rfl)) trivial ?_
      rw [look_mp]
      cases hf : fnd d1.L x with
      | some i =>
        refine go_ok _ 7 _ _ ?_
        simp only [go_sem, Option.map_some, Option.getD_some, Option.isSome_some, Nat.reduceBEq]
        obtain ⟨f, hfi, hfn⟩ := fnd_some hf
        have hgd : d1.L.getD i default = f := by simp [List.getD_eq_getElem?_getD, hfi]
        rw [hgd]
        have hfl : f.xs.length ≤ 2 ^ 30 := by
          have h1 := le_used (List.mem_of_getElem? hfi)
          have h2 := hd.u2
          rw [g3] at h1
          omega
        refine safe_env (env' := [(0, .ptr 0 b 0), (1, T x), (2, .osl 3 nl bo off ys.length cap), (6, I 0), (7, I 0), (8, .ptr 5 f.fb 0), (9, Bl true)]) ⟨seen _ _ _ rfl, seen _ _ _ rfl, seen _ _ _ rfl, seen _ _ _ rfl, seen _ _ _ rfl, seenP _ _ _ _ _ _ rfl rfl, seen _ _ _ rfl, trivial⟩ ?_
        refine safe_sees (Sees.file (c := 2) (i := i) (L := d1.L) (f := f) 6 rfl hfi) ?_
        refine go_ok _ 100 _ _ ?_
        simp only [go_sem, fcell, frow, Nat.reduceBEq, Nat.reduceAdd, Nat.zero_add]
        refine (stp_app2 (c := 6) (b := f.db) (off := f.off) (nl := f.nl) (n := f.xs.length) (cap := f.cap) (x := .osl 3 nl bo off ys.length cap) (gx := rowsV encB ys) (f := rowsV encB f.xs) (f2 := rowsV encB (f.xs ++ ys)) (N := (f.xs ++ ys).length) rfl rfl rfl rfl ⟨rfl, rfl, rfl, rfl, Nat.le_refl _⟩ (onesF_rows fun x => ⟨rfl, by simp [encB, ones, one, Value.oneCell']⟩) (by omega) (by simp) (fun i j hi hj => app_rows i j (by simpa using hi) hj) fun nl' b' off' cap' => ?_).safe trivial
        refine ⟨trivial, go_ok _ 100 _ _ ?_⟩
        simp only [go_sem, Nat.reduceBEq, Nat.zero_add, Try.results12]
        refine fin (d1.L.set i { f with xs := f.xs ++ ys, nl := nl', db := b', off := off', cap := cap' }) ?_ _ ?_
        · rw [← g3]
          exact addF_some hf hfi rfl
        · refine Sees.trans (Sees.back (hp := [_, _, _, _, _]) (c := 2) (i := i) (L := d1.L) (f := f) (f' := { f with xs := f.xs ++ ys, nl := nl', db := b', off := off', cap := cap' }) (q := 6) rfl hfi) ?_
          have hm : (d1.L.set i { f with xs := f.xs ++ ys, nl := nl', db := b', off := off', cap := cap' }).map (fun f => (f.nm, SV.ptr 0 f.fb 0)) = d1.mp := mp_set hfi rfl rfl
          refine Sees.trans (Sees.left (a := [_, _, _, _]) (X := [.emp])) ?_
          exact Sees.of_eq (by rw [dO_set hm]; rfl)
      | none =>
        refine go_ok _ 100 _ _ ?_
        simp only [go_sem, Option.map_none, Option.getD_none, Option.isSome_none, Nat.reduceBEq, Nat.reduceAdd, Nat.zero_add]
        refine ⟨fun b2 => ?_, fun h => absurd h (by decide)⟩
        refine (stp_mapset (K := kvS) (x := x) (b := d1.M) (es := d1.mp) (v := .ptr 5 b2 0) (mo := .t 43) (ko := .t 44) (vo := .t 45) 1 rfl rfl rfl Try.underlying66 (by kernel_rfl) rfl rfl rfl rfl ?_ ?_).safeE rfl
        · trivial
        refine go_ok _ 100 _ _ ?_
        simp only [go_sem, Nat.reduceBEq, Nat.zero_add]
        refine (stp_appn (x := .osl 3 nl bo off ys.length cap) (gx := rowsV encB ys) (sz0 := 1) rfl rfl rfl ⟨rfl, rfl, rfl, rfl, Nat.le_refl _⟩ (by omega) fun nl' b' off' cap' => ?_).safe trivial
        refine ⟨trivial, go_ok _ 100 _ _ ?_⟩
        simp only [go_sem, Nat.reduceBEq, Nat.reduceAdd, Nat.zero_add, Try.results12]
        refine fin (d1.L ++ [⟨⟨x, ys, 0⟩, b2, nl', b', off', cap'⟩]) ?_ _ ?_
        · rw [← g3]
          exact addF_none hf rfl
        · refine Sees.same (Sees.cons (fun ro H h => ⟨H, [], by simp, ?_⟩) ?_)
          · have hs : setE d1.mp x (.ptr 5 b2 0) = d1.mp ++ [(x, .ptr 5 b2 0)] := setE_none fun p hp => by
              obtain ⟨f, hfm, rfl⟩ := List.mem_map.1 hp
              exact fnd_none hf f hfm
            rw [hs] at h
            exact mpC_see (by simp [DS.mp]) (by simp [DS.mp, SV.den]) (fun ro _ => by simp only [oks_iff]; intro s hs'; simp only [DS.mp, List.map_map, List.mem_map] at hs'; obtain ⟨f, _, rfl⟩ := hs'; simp only [Function.comp, SV.ok]) ro H h
          · let f' : FL := ⟨⟨x, ys, 0⟩, b2, nl', b', off', cap'⟩
            refine Sees.trans (b := [sepC (d1.L.map fC), fcell 0 f', frow f', .row nl bo 5 off 1 ys.length cap (rowsV encB ys)]) ?_ ?_
            · refine Sees.same ?_
              refine Sees.trans (Sees.perm (b := [.emp, .cells b2 73 [.osl 6 nl' b' off' ys.length cap', I 0], .row nl' b' 5 off' 1 ys.length cap' (rowsV encB ys), .row nl bo 5 off 1 ys.length cap (rowsV encB ys)]) ?_) ?_
              · exact List.perm_append_comm (l₁ := [_]) (l₂ := [_, _, _])
              · exact Sees.emp (Sees.cons (fun ro H h => ⟨H, [], by simp, ⟨h.1, by simp [SV.oks, SV.ok]⟩⟩) (Sees.refl _))
            · refine Sees.trans (Sees.same (Sees.app (Sees.bag [fcell 0 f', frow f']) (Sees.refl [.row nl bo 5 off 1 ys.length cap (rowsV encB ys)]))) ?_
              refine Sees.trans Sees.bagEnd ?_
              rw [show d1.L.map fC ++ [sepC [fcell 0 f', frow f']] = (d1.L ++ [f']).map fC by rw [List.map_append]; rfl]
              exact Sees.refl _
end Go.SX
