/- The disk: Clone, Read, Sync. -/
import Derived.Test.YthpnhfnilogflaaSxK4
namespace Go.SX
open Go.Proofs
set_option maxRecDepth 1000000
variable {E : Env}

theorem rowB_nil (ro : RO) (b : Nat) (t : TypeId) (off sz : Nat) (f : Nat → Nat → SV) : (Chunk.row true b t off sz 0 0 f).sat ro [] := by simp [Chunk.sat]

theorem c38 (ca c : Nat) (nl : Bool) (b off cap : Nat) (xs : List UInt8) (hl : xs.length ≤ 2 ^ 40) : Spec Try.prog E 38 [.osl ca nl b off xs.length cap] [.row nl b 5 off 1 xs.length cap (rowsV encB xs)]
    (fun v hp => ∃ nl' b' off' cap', v = .osl c nl' b' off' xs.length cap' ∧ hp = [.row nl b 5 off 1 xs.length cap (rowsV encB xs), .row nl' b' 5 off' 1 xs.length cap' (rowsV encB xs)]) := by
  refine Spec.sees (Post := fun v hp => (xs = [] ∧ v = .view none 0 0 1 (fun _ _ => .val undef) ∧ hp = [.row nl b 5 off 1 xs.length cap (rowsV encB xs)]) ∨ ∃ nl' b' off' cap', v = .osl 1 nl' b' off' xs.length cap' ∧ hp = [.row nl b 5 off 1 xs.length cap (rowsV encB xs), .row nl' b' 5 off' 1 xs.length cap' (rowsV encB xs)]) ?_ fun v hp h => ?_
  · refine spec_of (keep := k38) (args' := [.osl 0 nl b off xs.length cap]) Try.func38 rfl Try.ntmps38 s38_ok (by simp) ⟨rfl, fun _ h => h⟩ (fun _ _ h => h) (safe_rownl (c := 0) rfl fun hnl => go_ok _ 100 _ _ ?_)
    simp only [go_sem, s38, k38, Nat.reduceBEq, Nat.zero_add, Try.results38]
    refine ⟨fun h => .inl ((List.length_eq_zero_iff.1 (hnl h).1)), fun h b1 => ?_⟩
    refine (stp_app2 (c := 1) (b := b1) (off := 0) (nl := false) (n := 0) (cap := 0) (x := .osl 0 nl b off xs.length cap) (gx := rowsV encB xs) (m := xs.length) (f := litF 1 []) (f2 := rowsV encB xs) (N := xs.length) rfl rfl rfl rfl ⟨rfl, rfl, rfl, rfl, Nat.le_refl _⟩ (onesF_rows fun x => ⟨rfl, by simp [encB, ones, one, Value.oneCell']⟩) (by omega) (by simp) (fun i j hi hj => by rw [appF_zero]) fun nl' b' off' cap' => ?_).safe trivial
    refine ⟨trivial, go_ok _ 100 _ _ ?_⟩
    simp only [go_sem, Nat.reduceBEq, Try.results38]
    exact .inr ⟨nl', b', off', cap', rfl, rfl⟩
  · rcases h with ⟨rfl, rfl, rfl⟩ | ⟨nl', b', off', cap', rfl, rfl⟩
    · exact ⟨.osl c true 0 0 0 0, _, rfl, fun _ _ => by simp only [SV.ok], Sees.same (Sees.new (fun ro => rowB_nil ro 0 5 0 1 (rowsV encB [])) (Sees.refl [])), true, 0, 0, 0, rfl, rfl⟩
    · exact ⟨.osl c nl' b' off' xs.length cap', _, rfl, fun _ _ => by simp only [SV.ok], Sees.refl _, nl', b', off', cap', rfl, rfl⟩

/-- what Read tells -/
def readL (d : DS) (x : List UInt8) : List UInt8 × Int :=
  if d.dead then ([], 13) else if nameB x then (match fnd d.L x with | none => ([], 2) | some i => ((d.L.getD i default).xs, 0)) else ([], 1)
def ReadP (b : Nat) (d : DS) (c : Nat) (x : List UInt8) (v : SV) (hp : List Chunk) : Prop :=
  ∃ nl b' off cap, v = .tup [.osl c nl b' off (readL d x).1.length cap, I (readL d x).2] ∧ hp = dO b d ++ [.row nl b' 5 off 1 (readL d x).1.length cap (rowsV encB (readL d x).1)]

theorem c13 (b : Nat) (d : DS) (c : Nat) (x : List UInt8) (hu : usedB d.L ≤ 2 ^ 30) : Spec Try.prog E 13 [.ptr 0 b 0, T x] (dO b d) (ReadP b d c x) := by
  refine Spec.see2 ?_
  generalize hP : SeeP (ReadP b d c x) = P
  have bad : ∀ (e : Int) hp, readL d x = ([], e) → Sees hp (dO b d) → P (.tup [.view none 0 0 1 (fun _ _ => .val undef), I e]) hp := by
    intro e hp he hs
    rw [← hP]
    refine ⟨.tup [.osl c true 0 0 0 0, I e], dO b d ++ [.row true 0 5 0 1 0 0 (rowsV encB [])], rfl, fun _ _ => by simp [SV.ok, SV.oks], ?_, true, 0, 0, 0, by rw [he]; rfl, by rw [he]; rfl⟩
    refine Sees.trans hs ?_
    refine Sees.trans (Sees.new (x := .row true 0 5 0 1 0 0 (rowsV encB [])) (fun ro => rowB_nil ro 0 5 0 1 (rowsV encB [])) (Sees.refl (dO b d))) (Sees.perm ?_)
    exact (List.perm_append_singleton _ _).symm
  refine spec_of (keep := k13) (args' := [.ptr 0 b 0, T x]) Try.func13 rfl Try.ntmps13 s13_ok (by simp) ⟨rfl, fun _ h => h⟩ (fun _ _ h => h) (go_ok _ 100 _ _ ?_)
  simp only [go_sem, s13, k13, Nat.reduceBEq, Nat.reduceAdd, Nat.zero_add, Try.results13]
  refine ⟨fun hd => bad 13 _ (by simp [readL, hd]) (Sees.refl _), fun hd b1 => ?_⟩
  refine safe_frzC (c := 3) (f' := rowsV encT [x]) (env' := [(14, frz false b1 0 1 1 1 (rowsV encT [x])), (13, T x), (12, Bl d.dead), (0, .ptr 0 b 0), (1, T x), (4, .view none 0 0 1 (fun _ _ => .val undef)), (5, I 0)]) rfl (fun i j hi hj => ?_)
    ⟨rfl, .inr ⟨rfl, rfl⟩, rfl, .inl rfl, rfl, .inl rfl, rfl, .inl rfl, rfl, .inl rfl, rfl, .inl rfl, rfl, .inl rfl, trivial⟩ ?_
  · obtain rfl : j = 0 := by omega
    obtain rfl : i = 0 := by omega
    rfl
  refine (stp_call [] (args := [vT (some ⟨b1, 0, none⟩) 1 [x]]) rfl rfl rfl ⟨_, Try.func36, rfl, rfl⟩ (c36 (some ⟨b1, 0, none⟩) 1 [x] (by simp)) rfl (fun _ h => h) rfl (fun _ _ h => h) ?_).safe trivial
  have hval : validB [x] = nameB x := by simp [validB]
  rintro v hp ⟨rfl, rfl⟩
  rw [hval]
  cases hn : nameB x with
  | false =>
    refine ⟨trivial, go_ok _ 100 _ _ ?_⟩
    have d1 : decide ((1 : Int) ≠ 0) = true := by decide
    simp only [go_sem, d1, Bool.false_eq_true, if_false, Nat.reduceBEq, Try.results13]
    refine ⟨bad 1 _ (by simp [readL, hd, hn]) (Sees.left (a := dO b d) (X := [.emp])), fun h => absurd h (by decide)⟩
  | true =>
    refine ⟨trivial, go_ok _ 100 _ _ ?_⟩
    have d0 : decide ((0 : Int) ≠ 0) = false := by decide
    simp only [go_sem, d0, if_true, Nat.reduceBEq, Try.results13]
    refine (stp_call [0, 1, 2] rfl rfl rfl ⟨_, Try.func37, rfl, rfl⟩ (c37 b d x) rfl (fun _ h => h) rfl (fun _ _ h => h) ?_).safe trivial
    rintro v hp ⟨rfl, rfl⟩
    unfold findV
    cases hf : fnd d.L x with
    | none =>
      refine ⟨trivial, go_ok _ 100 _ _ ?_⟩
      have d2 : decide ((2 : Int) ≠ 0) = true := by decide
      simp only [go_sem, d2, Nat.reduceBEq, Try.results13]
      refine ⟨bad 2 _ (by simp [readL, hd, hn, hf]) (Sees.left (a := dO b d) (X := [.emp])), fun h => absurd h (by decide)⟩
    | some i =>
      refine ⟨trivial, go_ok _ 13 _ _ ?_⟩
      simp only [go_sem, d0, Nat.reduceBEq]
      obtain ⟨f, hfi, hfn⟩ := fnd_some hf
      have hgd : d.L.getD i default = f := by simp [List.getD_eq_getElem?_getD, hfi]
      have hrd : readL d x = (f.xs, 0) := by simp only [readL, hd, hn, hf, hgd, Bool.false_eq_true, if_false, if_true]
      rw [hgd]
      have hfl : f.xs.length ≤ 2 ^ 40 := by
        have h1 := le_used (List.mem_of_getElem? hfi)
        omega
      refine safe_env (env' := [(0, .ptr 0 b 0), (1, T x), (4, .view none 0 0 1 (fun _ _ => .val undef)), (5, I 0), (6, I 0), (7, .ptr 4 f.fb 0), (8, I 0)]) ⟨seen _ _ _ rfl, seen _ _ _ rfl, seen _ _ _ rfl, seen _ _ _ rfl, seen _ _ _ rfl, seenP _ _ _ _ _ _ rfl rfl, seen _ _ _ rfl, trivial⟩ ?_
      refine safe_sees (Sees.file (c := 2) (i := i) (L := d.L) (f := f) 5 rfl hfi) ?_
      refine go_ok _ 100 _ _ ?_
      simp only [go_sem, fcell, frow, Nat.reduceBEq, Nat.zero_add]
      refine (stp_call [5] rfl rfl rfl ⟨_, Try.func38, rfl, rfl⟩ (c38 5 6 f.nl f.db f.off f.cap f.xs hfl) rfl (fun _ h => h) rfl (fun _ _ h => h) ?_).safe trivial
      rintro v hp ⟨nl', b', off', cap', rfl, rfl⟩
      refine ⟨trivial, go_ok _ 100 _ _ ?_⟩
      simp only [go_sem, Nat.reduceBEq, Try.results13]
      rw [← hP]
      refine ⟨.tup [.osl c nl' b' off' f.xs.length cap', I 0], dO b d ++ [.row nl' b' 5 off' 1 f.xs.length cap' (rowsV encB f.xs)], rfl, fun _ _ => by simp [SV.ok, SV.oks], ?_, nl', b', off', cap', by rw [hrd], by rw [hrd]⟩
      refine Sees.trans (Sees.perm (b := [.cells b 68 [I d.room, .val (.map (some d.M)), I d.ops, I d.left, Bl d.dead], mpC kvS d.M d.mp, sepC (setC (d.L.map fC) i .emp), .row nl' b' 5 off' 1 f.xs.length cap' (rowsV encB f.xs), .emp] ++ [fcell 5 f, frow f]) ?_) ?_
      · refine List.Perm.cons _ (List.Perm.cons _ (List.Perm.cons _ ?_))
        exact (List.perm_append_comm (l₁ := [.emp, fcell 5 f, frow f]) (l₂ := [.row nl' b' 5 off' 1 f.xs.length cap' (rowsV encB f.xs)]))
      · refine Sees.trans (Sees.back (c := 2) (i := i) (L := d.L) (f := f) (f' := f) (q := 5) rfl hfi) ?_
        rw [set_same hfi]
        exact Sees.left (a := dO b d ++ [.row nl' b' 5 off' 1 f.xs.length cap' (rowsV encB f.xs)]) (X := [.emp])
end Go.SX
