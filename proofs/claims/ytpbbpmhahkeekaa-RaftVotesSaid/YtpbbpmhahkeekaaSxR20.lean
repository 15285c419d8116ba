/- Contracts of the raft laws: the chapter's example. -/
import Derived.Test.YtpbbpmhahkeekaaSxR19
namespace Go.SX
open Go.Proofs
set_option maxRecDepth 1000000
variable {E : Env}

theorem nilOk (ro : RO) (sz : Nat) (f : Nat → Nat → SV) : (SV.view none 0 0 sz f).ok ro := by
  simp only [SV.ok]
  exact ⟨Nat.le_refl _, fun i j hi => absurd hi (by omega)⟩
/-- New's arguments of a lone node -/
theorem newOk {ro : RO} {id t v c : Int} {x y1 y2 y3 : SV} (h : SV.oks ro [I id, x, .agg [I t, I v, I c], .agg [I 0, I 0, y1], y2, y3]) : SV.oks ro [I id, x, .agg [I t, I v, I c], .agg [I 0, I 0, vI none 0 []], vB none 0 [], vE none 0 []] := by
  simp only [SV.oks] at h ⊢
  exact ⟨h.1, h.2.1, h.2.2.1, by simp only [SV.ok, SV.oks]; exact ⟨trivial, trivial, nilOk _ _ _, trivial⟩, nilOk _ _ _, nilOk _ _ _, trivial⟩

theorem c12 : Spec Try.prog E 12 [] [] (fun v _ => v = Bl true) := by
  refine spec_of (keep := k12) (args' := []) Try.func12 rfl Try.ntmps12 s12_ok (by simp) ⟨rfl, fun _ h => h⟩ (fun _ _ h => h) (go_ok _ 7 _ _ ?_)
  simp only [go_sem, s12, k12, Nat.reduceBEq, Nat.reduceAdd, Nat.zero_add]
  intro b1
  refine safe_frz2 (hp := []) (f' := rowsV encI [3]) (fun i j hi hj => ?_) ?_
  · obtain rfl : i = 0 := by omega
    obtain rfl : j = 0 := by omega
    rfl
  refine go_ok _ 100 _ _ ?_
  simp only [go_sem, frz, Nat.reduceBEq, Nat.reduceAdd, Nat.zero_add, if_false]
  refine (stp_call [] (args := [I 3, vI (some ⟨b1, 0, none⟩) 1 [3], .agg [I 0, I (-1), I 0], .agg [I 0, I 0, vI none 0 []], vB none 0 [], vE none 0 []]) rfl rfl rfl ⟨_, Try.func13, rfl, rfl⟩
    (c13 0 3 (some ⟨b1, 0, none⟩) 1 [3] 0 (-1) 0 none 0 [] rfl (by decide) (by decide) (by decide) (by decide) (c68e none 0 0 0 _) (by decide) (by simp) (.inl rfl)) rfl (fun _ h => newOk h) rfl (fun _ _ h => h) ?_).safe trivial
  rintro v hp ⟨b, a1, a2, a3, la, c1, c2, c3, lc, es, hsame, rfl, rfl⟩
  have hes : es = [] := List.length_eq_zero_iff.1 hsame.len
  subst hes
  refine ⟨trivial, go_ok _ 100 _ _ ?_⟩
  simp only [go_sem, Nat.reduceBEq, Nat.reduceAdd, Nat.zero_add, Try.results12]
  refine ⟨fun h => absurd h (by decide), fun _ => ?_⟩
  refine safe_loop (ι := {p : Nat × RS // p.1 ≤ 10 ∧ (p.1 < 10 → Tk p.2 3 p.1) ∧ (p.1 = 10 → Lead p.2 3 1)}) (fun p => ⟨[(0, Bl false), (1, .ptr 0 b 0), (3, I p.1.1)], [rC b p.1.2]⟩) (fun p => 10 - p.1.1) ⟨(0, _), Nat.zero_le _, fun _ => Tk.new, fun h => by cases h⟩
    (Sub.front (X := []) (by simp [envSub, look]) rfl) ?_
  rintro ⟨⟨i, s⟩, hi, htk, hld⟩
  simp only at hi htk hld
  refine go_ok _ 100 _ _ ?_
  simp only [go_sem, Nat.reduceBEq, Nat.reduceAdd, Nat.zero_add, Try.results12]
  refine ⟨fun h => ?_, fun h => ?_⟩
  · have hlt : i < 10 := by simp at h; omega
    have T := htk hlt
    rcases Nat.lt_or_ge i 9 with h9 | h9
    · refine (stp_call [0] rfl rfl rfl ⟨_, Try.func15, rfl, rfl⟩ (c15a b s 0 (by rw [T.role]; decide) (by rw [T.ticks]; omega) (by rw [T.taken]; omega) (by rw [T.ticks, T.taken]; omega)) rfl (fun _ h => h) rfl (fun _ _ h => h) ?_).safe trivial
      rintro v hp rfl
      refine ⟨trivial, go_ok _ 100 _ _ ?_⟩
      simp only [go_sem, Nat.reduceBEq, Nat.reduceAdd, Nat.zero_add]
      refine ⟨by simp only [inI64]; omega, ?_⟩
      exact safe_lend ⟨(i + 1, s.tick1 0), by omega, fun _ => T.tick 0, fun h => by omega⟩ (by simp only; omega) (Sub.front (X := []) (by simp [envSub, look]) rfl)
    · obtain rfl : i = 9 := by omega
      refine (stp_call [0] rfl rfl rfl ⟨_, Try.func15, rfl, rfl⟩ (c15b b s 0 T.small T.lone (by rw [RS.fitsD, T.es]; simp) (by rw [T.es]; decide) (by rw [T.hC]; decide) (by rw [T.hT]; decide) (by rw [T.role]; decide) (by rw [T.ticks]; decide) (by rw [T.taken]; decide) (by rw [T.ticks, T.taken]; decide)) rfl (fun _ h => h) rfl (fun _ _ h => h) ?_).safe trivial
      rintro v hp ⟨a, cap, bm, la', lc', es', X, hsame, rfl⟩
      refine ⟨trivial, go_ok _ 100 _ _ ?_⟩
      simp only [go_sem, Nat.reduceBEq, Nat.reduceAdd, Nat.zero_add]
      refine ⟨by simp only [inI64]; omega, ?_⟩
      exact safe_lend ⟨(10, _), by omega, fun h => by omega, fun _ => (T.elect hsame).1⟩ (by simp only; omega) (Sub.front (X := X) (by simp [envSub, look]) rfl)
  · have h10 : i = 10 := by simp at h; omega
    subst h10
    have L := hld rfl
    intro b2
    refine Stp.safeE (stp_conv (xo := .t 28) (e := 5) (c := 1) (b := b2) (off := 0) (n := 1) (cap := 1) (off' := 0) (sz := 1) (n' := 1) (cap' := 1) (T := 5) (f := litF 1 [.val (.int .u8 120)]) rfl (by kernel_rfl) (by kernel_rfl) rfl rfl trivial ?_) rfl
    refine safe_frz2 (hp := [rC b s]) (f' := rowsV encB [120]) (fun i j hi hj => ?_) ?_
    · obtain rfl : i = 0 := by omega
      obtain rfl : j = 0 := by omega
      rfl
    refine go_ok _ 100 _ _ ?_
    simp only [go_sem, frz, Nat.reduceBEq, Nat.reduceAdd, Nat.zero_add, if_false]
    refine (stp_call [0] (args := [.ptr 0 b 0, vB (some ⟨b2, 0, none⟩) 1 [120]]) rfl rfl rfl ⟨_, Try.func17, rfl, rfl⟩
      (c17 b s (some ⟨b2, 0, none⟩) 1 [120] L.small L.lone L.dl (by rw [L.len]; decide) (by decide) L.role (by rw [L.hC, L.last]; omega) (by rw [L.hC, L.last]; decide)) rfl (fun _ h => h) rfl (fun _ _ h => h) ?_).safe trivial
    rintro v hp ⟨rfl, la', lc', es', X, hsame, rfl⟩
    refine ⟨trivial, go_ok _ 100 _ _ ?_⟩
    obtain ⟨L2, _⟩ := L.put (la := la') (lc := lc') (by decide) (by decide) hsame
    generalize (s.putS la' lc' es').looked = s2 at L2
    rw [L.last, L.hT, show ((1 : Nat) : Int) + 1 = 2 from rfl]
    simp only [go_sem, Nat.reduceBEq, Nat.reduceAdd, Nat.zero_add]
    refine (stp_call [0] rfl rfl rfl ⟨_, Try.func14, rfl, rfl⟩ (c14 b s2) rfl (fun _ h => h) rfl (fun _ _ h => h) ?_).safe trivial
    rintro v hp ⟨rfl, rfl⟩
    rw [L2.role]
    refine ⟨trivial, go_ok _ 100 _ _ ?_⟩
    simp only [go_sem, Nat.reduceBEq, Nat.reduceAdd, Nat.zero_add, reduceCtorEq]
    refine ⟨?_, rfl⟩
    refine Stp.safeOn ?_ trivial
    refine stp_call [0] (args := [.ptr 0 b 0]) rfl rfl rfl ⟨_, Try.func19, rfl, rfl⟩ (c19 b s2) rfl (fun _ h => unc_oks h) (by simp [callIdx]) (fun _ _ h => h) ?_
    rintro v hp ⟨rfl, rfl⟩
    rw [L2.hC, show (((1 + 1 : Nat)) : Int) = 2 from rfl]
    refine ⟨trivial, go_ok _ 100 _ _ ?_⟩
    simp only [go_sem, Nat.reduceBEq, Nat.reduceAdd, Nat.zero_add, reduceCtorEq, Try.results12]
end Go.SX
