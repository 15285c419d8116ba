/- The law of the lone voter: its walk. -/
import Derived.Test.YtpbbpmhahkeekaaSxR21
namespace Go.SX
open Go.Proofs
set_option maxRecDepth 1000000
variable {E : Env}

/-- where the rounds of data stand -/
structure Rd (n : Nat) (s : RS) : Prop where
  L : Lead s 5 n
  app : s.applied = n
  fresh : s.fresh = 0
  tC : s.tC = n

theorem Rd.hh {n : Nat} {s : RS} (h : Rd n s) (hT : s.tT = s.hT) (hV : s.tV = s.hV) : s.hasHard = false := by
  simp [RS.hasHard, hT, hV, h.tC, h.L.hC]

/-- behind the tenth tick -/
structure Fst (s : RS) : Prop where
  L : Lead s 5 1
  app : s.applied = 0
  fresh : s.fresh = 1
  tT : s.tT = 0
  kd : (s.es.getD 0 default).kd = 1

theorem c3 (a : Option Addr) (cap : Nat) (ds : List By) (x : Int) : Spec Try.prog E 3 [vD a cap ds, I x] [] (fun v _ => v = Bl true) := by
  refine spec_of (keep := k3) (args' := [vD a cap ds, I x]) Try.func3 rfl Try.ntmps3 s3_ok (by simp) ⟨rfl, fun _ h => h⟩ (fun _ _ h => h) (go_ok _ 100 _ _ ?_)
  simp only [go_sem, s3, k3, Nat.reduceBEq, Nat.reduceAdd, Nat.zero_add]
  refine (stp_call [] rfl rfl rfl ⟨_, Try.func12, rfl, rfl⟩ (c12.leave (Post' := fun v hp => v = Bl true ∧ hp = []) fun _ hp h => ⟨[], hp, rfl, h, rfl⟩) rfl (fun _ h => h) rfl (fun _ _ h => h) ?_).safe trivial
  rintro v hp ⟨rfl, rfl⟩
  refine ⟨trivial, go_ok _ 7 _ _ ?_⟩
  simp only [go_sem, Nat.reduceBEq, Nat.reduceAdd, Nat.zero_add, Try.results3, reduceCtorEq]
  intro b1
  refine safe_frz2 (hp := []) (f' := rowsV encI [5]) (fun i j hi hj => ?_) ?_
  · obtain rfl : i = 0 := by omega
    obtain rfl : j = 0 := by omega
    rfl
  refine go_ok _ 100 _ _ ?_
  simp only [go_sem, frz, Nat.reduceBEq, Nat.reduceAdd, Nat.zero_add, if_false]
  refine (stp_call [] (args := [I 5, vI (some ⟨b1, 0, none⟩) 1 [5], .agg [I 0, I (-1), I 0], .agg [I 0, I 0, vI none 0 []], vB none 0 [], vE none 0 []]) rfl rfl rfl ⟨_, Try.func13, rfl, rfl⟩
    (c13 0 5 (some ⟨b1, 0, none⟩) 1 [5] 0 (-1) 0 none 0 [] rfl (by decide) (by decide) (by decide) (by decide) (c68e none 0 0 0 _) (by decide) (by simp) (.inl rfl)) rfl (fun _ h => newOk h) rfl (fun _ _ h => h) ?_).safe trivial
  rintro v hp ⟨b, a1, a2, a3, la, c1, c2, c3, lc, es, hsame, rfl, rfl⟩
  have hes : es = [] := List.length_eq_zero_iff.1 hsame.len
  subst hes
  refine ⟨trivial, go_ok _ 100 _ _ ?_⟩
  simp only [go_sem, Nat.reduceBEq, Nat.reduceAdd, Nat.zero_add, Try.results3]
  refine ⟨fun h => absurd h (by decide), fun _ => ?_⟩
  refine safe_loop (ι := {p : Nat × RS // p.1 ≤ 10 ∧ (p.1 < 10 → Tk p.2 5 p.1) ∧ (p.1 = 10 → Fst p.2)}) (fun p => ⟨[(0, vD a cap ds), (1, I x), (4, Bl false), (5, .ptr 0 b 0), (7, I p.1.1)], [rC b p.1.2]⟩) (fun p => 10 - p.1.1) ⟨(0, _), Nat.zero_le _, fun _ => Tk.new, fun h => by cases h⟩
    (Sub.front (X := []) (by simp [envSub, look]) rfl) ?_
  rintro ⟨⟨i, s⟩, hi, htk, hld⟩
  simp only at hi htk hld
  refine go_ok _ 100 _ _ ?_
  simp only [go_sem, Nat.reduceBEq, Nat.reduceAdd, Nat.zero_add, Try.results3]
  refine (stp_call [0] rfl rfl rfl ⟨_, Try.func14, rfl, rfl⟩ (c14 b s) rfl (fun _ h => h) rfl (fun _ _ h => h) ?_).safe trivial
  rintro v hp ⟨rfl, rfl⟩
  refine ⟨trivial, go_ok _ 100 _ _ ?_⟩
  rcases Nat.lt_or_ge i 10 with hlt | hge
  · have T := htk hlt
    rw [T.role]
    have hd40 : decide ((i : Int) < 40) = true := by simp; omega
    simp only [go_sem, hd40, Nat.reduceBEq, Nat.reduceAdd, Nat.zero_add, Try.results3, reduceCtorEq]
    refine ⟨fun _ => ?_, fun h => absurd h (by decide)⟩
    rcases Nat.lt_or_ge i 9 with h9 | h9
    · refine (stp_call [0] rfl rfl rfl ⟨_, Try.func15, rfl, rfl⟩ (c15a b s x (by rw [T.role]; decide) (by rw [T.ticks]; omega) (by rw [T.taken]; omega) (by rw [T.ticks, T.taken]; omega)) rfl (fun _ h => h) rfl (fun _ _ h => h) ?_).safe trivial
      rintro v hp rfl
      refine ⟨trivial, go_ok _ 100 _ _ ?_⟩
      simp only [go_sem, Nat.reduceBEq, Nat.reduceAdd, Nat.zero_add]
      refine ⟨by simp only [inI64]; omega, ?_⟩
      exact safe_lend ⟨(i + 1, s.tick1 x), by omega, fun _ => T.tick x, fun h => by omega⟩ (by simp only; omega) (Sub.front (X := []) (by simp [envSub, look]) rfl)
    · obtain rfl : i = 9 := by omega
      refine (stp_call [0] rfl rfl rfl ⟨_, Try.func15, rfl, rfl⟩ (c15b b s x T.small T.lone (by rw [RS.fitsD, T.es]; simp) (by rw [T.es]; decide) (by rw [T.hC]; decide) (by rw [T.hT]; decide) (by rw [T.role]; decide) (by rw [T.ticks]; decide) (by rw [T.taken]; decide) (by rw [T.ticks, T.taken]; decide)) rfl (fun _ h => h) rfl (fun _ _ h => h) ?_).safe trivial
      rintro v hp ⟨a', cap', bm, la', lc', es', X, hsame, rfl⟩
      refine ⟨trivial, go_ok _ 100 _ _ ?_⟩
      simp only [go_sem, Nat.reduceBEq, Nat.reduceAdd, Nat.zero_add]
      refine ⟨by simp only [inI64]; omega, ?_⟩
      obtain ⟨t1, t2, t3, t4, t5⟩ := T.elect (x := x) (a := a') (cap := cap') (bm := bm) (la := la') (lc := lc') hsame
      have F : Fst (((s.tick1 x).stood a' cap').led bm la' lc' es').looked := ⟨t1, t2, t4, t5, by rw [t3, hsame.kd', T.es]; rfl⟩
      exact safe_lend ⟨(10, _), by omega, fun h => by omega, fun _ => F⟩ (by simp only; omega) (Sub.front (X := X) (by simp [envSub, look]) rfl)
  · have h10 : i = 10 := by omega
    subst h10
    have L := hld rfl
    rw [L.L.role]
    simp only [go_sem, Nat.reduceBEq, Nat.reduceAdd, Nat.zero_add, Try.results3, reduceCtorEq]
    refine ⟨fun h => absurd h (by decide), fun _ => ⟨fun h => absurd h (by decide), fun _ => ?_⟩⟩
    refine (stp_call [0] rfl rfl rfl ⟨_, Try.func16, rfl, rfl⟩ (c16R b s 5 1 0 L.L (by decide) (by rw [L.fresh]; rfl) L.app (by simp [RS.hasHard, L.L.hT, L.tT])) rfl (fun _ h => h) rfl (fun _ _ h => h) ?_).safe trivial
    rintro v hp ⟨⟨o, o1, o2, rfl, o4, o5⟩, rfl⟩
    obtain ⟨hh, t, v, c, ea, ec, es, ca, cc, cs⟩ := o
    obtain ⟨q1, q2, q3⟩ := o5 (by decide)
    simp only at o1 o2 o4 q1 q2 q3
    have o4 : hh = true := o4.trans (by decide)
    subst o4 q1 q2 q3
    have z1 : es.length = 1 := by rw [o1.len]; simp [L.L.len]
    have z2 : cs.length = 1 := by rw [o2.len]; simp [L.L.len]
    obtain ⟨e1, rfl⟩ := List.length_eq_one_iff.1 z1
    obtain ⟨e2, rfl⟩ := List.length_eq_one_iff.1 z2
    have hk : e2.kd = 1 := (o2.kd' 0).trans L.kd
    refine ⟨trivial, go_ok _ 100 _ _ ?_⟩
    simp only [go_sem, nilS, Nat.reduceBEq, Nat.reduceAdd, Nat.zero_add, Try.results3, reduceCtorEq, List.length_singleton]
    intro b8
    refine ⟨fun h => ⟨h, by decide⟩, fun h => ⟨h, by decide⟩, fun h => absurd h (by simp [hk]), fun _ => ?_⟩
    have R0 : Rd 1 s.readied := ⟨L.L.readied, L.L.hC, rfl, L.L.hC⟩
    refine safe_loop (ι := {p : Nat × Nat × RS × OR // p.1 ≤ ds.length ∧ p.1 ≤ 20 ∧ p.2.1 ≤ p.1 + 1 ∧ Rd p.2.1 p.2.2.1}) (fun p => ⟨[(0, vD a cap ds), (1, I x), (4, Bl false), (5, .ptr 0 b 0), (8, .ptr 1 b8 0), (9, I p.1.1)], [rC b p.1.2.2.1, .cells b8 40 p.1.2.2.2.cells]⟩)
      (fun p => ds.length - p.1.1) ⟨(0, 1, s.readied, ⟨true, 1, 5, ((1 : Nat) : Int), ea, ec, [e1], ca, cc, [e2]⟩), Nat.zero_le _, Nat.zero_le _, Nat.le_refl _, R0⟩
      (Sub.front (X := []) (by simp [envSub, look]) rfl) ?_
    clear hk o1 o2 z1 z2 o5 L hld htk
    rintro ⟨⟨i, n, s, o⟩, hi, hi20, hn, R⟩
    simp only at hi hi20 hn R
    have L := R.L
    refine go_ok _ 100 _ _ ?_
    simp only [go_sem, nilS, Nat.reduceBEq, Nat.reduceAdd, Nat.zero_add, Try.results3]
    rw [Int.toNat_natCast]
    generalize hdd : ds.getD i ⟨none, 0, []⟩ = d
    refine ⟨fun h => ?_, fun h => ?_⟩
    · have hlt : i < ds.length ∧ i < 20 := by simp at h; omega
      refine ⟨by omega, by omega, fun h2 => ⟨by simp only [inI64]; omega, ?_⟩, fun h2 => ⟨by omega, by omega, ?_⟩⟩
      · exact safe_lend ⟨(i + 1, n, s, o), by simp only; omega, by simp only; omega, by simp only; omega, R⟩ (by simp only; omega) (Sub.front (X := []) (by simp [envSub, look]) rfl)
      have hxs : d.xs.length ≤ 1000 := by simp at h2; omega
      refine (stp_call [0] (args := [.ptr 0 b 0, vB d.a d.cap d.xs]) rfl rfl rfl ⟨_, Try.func17, rfl, rfl⟩ (c17R b s d.a d.cap d.xs 5 n L (by omega) (by omega)) rfl (fun _ h => h) rfl (fun _ _ h => h) ?_).safe trivial
      rintro v hp ⟨rfl, s', L', hsame', ha', hf', ht', rfl⟩
      rw [if_pos (.inl R.fresh)] at hf'
      have htc : s'.tC = n := ht'.trans R.tC
      refine ⟨trivial, go_ok _ 100 _ _ ?_⟩
      simp only [go_sem, nilS, Nat.reduceBEq, Nat.reduceAdd, Nat.zero_add, Try.results3, reduceCtorEq]
      refine (stp_call [0] rfl rfl rfl ⟨_, Try.func16, rfl, rfl⟩ (c16R b s' 5 (n + 1) n L' (by omega) (by rw [hf', if_neg (by omega)]) (ha'.trans R.app) (by
        have h1 : decide (n = n + 1) = false := by simp
        have h2 : ¬ (s'.hC = s'.tC) := by rw [L'.hC, htc]; omega
        rw [h1]
        simp [RS.hasHard, h2])) rfl (fun _ h => h) rfl (fun _ _ h => h) ?_).safe trivial
      rintro v hp ⟨⟨o', o1, o2, rfl, o4, o5⟩, rfl⟩
      obtain ⟨hh', t', v', c', ea', ec', es', ca', cc', cs'⟩ := o'
      obtain ⟨q1, q2, q3⟩ := o5 (by omega)
      simp only at o1 o2 o4 q1 q2 q3
      have o4 : hh' = true := o4.trans (by simp)
      subst o4 q1 q2 q3
      have z1 : es'.length = 1 := by rw [o1.len]; simp [L'.len]
      have z2 : cs'.length = 1 := by rw [o2.len]; simp [L'.len]
      obtain ⟨e1, rfl⟩ := List.length_eq_one_iff.1 z1
      obtain ⟨e2, rfl⟩ := List.length_eq_one_iff.1 z2
      have hel : (s'.es.drop n).getD 0 default = s'.es.getD n default := by simp [List.getD_eq_getElem?_getD]
      have hnew : (s.es ++ [(⟨(n : Int) + 1, 1, 0, d⟩ : Ent)]).getD n default = ⟨(n : Int) + 1, 1, 0, d⟩ := by simp [List.getD_eq_getElem?_getD, ← L.len]
      have hix : e2.ix = (n : Int) + 1 := by
        have h1 := o2.ix' 0
        rw [hel, hsame'.ix', hnew] at h1
        exact h1
      have hxd : e2.d.xs = d.xs := by
        have h1 := o2.xs' 0
        rw [hel, hsame'.xs', hnew] at h1
        exact h1
      have d0 : decide ((0 : Int) ≠ 0) = false := rfl
      have d1 : decide ((1 : Int) ≠ 1) = false := rfl
      have d2 : decide (((1 : Nat) : Int) ≠ 1) = false := rfl
      have d3 : decide (([e2].getD (Int.toNat 0) default).ix ≠ (n : Int) + 1) = false := by simp [hix]
      refine ⟨trivial, go_ok _ 100 _ _ ?_⟩
      simp only [go_sem, nilS, d0, d1, d2, d3, Nat.reduceBEq, Nat.reduceAdd, Nat.zero_add, Try.results3, reduceCtorEq, List.length_singleton]
      refine ⟨⟨by decide, by decide⟩, by decide, ⟨by decide, by decide⟩, by decide, ?_, rfl⟩
      refine safe_othOn (oth_str (e := 5) (xs := e2.d.xs) (ad := e2.d.a) (n := e2.d.xs.length) (cap := e2.d.cap) (f := rowsV encB e2.d.xs) (xo := .t 136) rfl (by kernel_rfl) (by kernel_rfl) (by kernel_rfl) rfl rfl (fun ro h => by simp only [SV.ok] at h ⊢; exact h trivial) rfl fun i _ => rfl) (show 137 < 189 by decide) trivial ?_
      refine go_ok _ 100 _ _ ?_
      rw [hxd]
      simp only [go_sem, Nat.reduceBEq, Nat.reduceAdd, Nat.zero_add, Try.results3, reduceCtorEq, Int.toNat_natCast]
      rw [hdd]
      refine ⟨⟨by omega, by omega⟩, by decide, ?_, rfl⟩
      refine safe_othOn (oth_str (e := 5) (xs := d.xs) (ad := d.a) (n := d.xs.length) (cap := d.cap) (f := rowsV encB d.xs) (xo := .t 141) rfl (by kernel_rfl) (by kernel_rfl) (by kernel_rfl) rfl rfl (fun ro h => by simp only [SV.ok] at h ⊢; exact h trivial) rfl fun i _ => rfl) (show 142 < 189 by decide) trivial ?_
      have d4 : decide ((ByteArray.mk d.xs.toArray) ≠ ByteArray.mk d.xs.toArray) = false := by simp
      have d5 : decide (((n + 1 : Nat) : Int) ≠ (n : Int) + 1) = false := by simp
      have d6 : decide (((0 : Nat) : Int) ≠ 0) = false := rfl
      refine go_ok _ 100 _ _ ?_
      simp only [go_sem, d4, d5, d6, Nat.reduceBEq, Nat.reduceAdd, Nat.zero_add, Try.results3, reduceCtorEq, Int.toNat_natCast]
      refine ⟨by simp only [inI64]; omega, ?_⟩
      exact safe_lend ⟨(i + 1, n + 1, s'.readied, ⟨true, 1, 5, ((n + 1 : Nat) : Int), ea', ec', [e1], ca', cc', [e2]⟩), by simp only; omega, by simp only; omega, by simp only; omega, ⟨L'.readied, L'.hC, rfl, L'.hC⟩⟩ (by simp only; omega) (Sub.front (X := []) (by simp [envSub, look]) rfl)
    · have hlen := L.le
      refine (stp_call [0] (args := [.ptr 0 b 0, I 9]) rfl rfl rfl ⟨_, Try.func18, rfl, rfl⟩ ((c18 b s 9 L.small L.lone L.waits L.reads L.role L.termC (by rw [L.hC]; omega) (by rw [L.round]; decide)).leave (Post' := fun v hp => v = I 0 ∧ ∃ c, hp = [rC b (s.asked.conf 9 s.hC c)]) fun _ _ ⟨h1, c, X, h2⟩ => ⟨[_], X, h2, h1, c, rfl⟩) rfl (fun _ h => h) rfl (fun _ _ h => h) ?_).safe trivial
      rintro v hp ⟨rfl, c, rfl⟩
      refine ⟨trivial, go_ok _ 100 _ _ ?_⟩
      simp only [go_sem, nilS, Nat.reduceBEq, Nat.reduceAdd, Nat.zero_add, Try.results3, reduceCtorEq]
      refine (stp_call [0] rfl rfl rfl ⟨_, Try.func16, rfl, rfl⟩ (c16S b (s.asked.conf 9 s.hC c) ⟨L.small.m0, L.small.m1, L.small.len⟩ L.dl (by show 0 ≤ s.fresh ∧ s.fresh ≤ _; rw [R.fresh]; decide) (by show 0 ≤ s.applied ∧ s.applied ≤ s.hC ∧ s.hC ≤ _; rw [R.app, L.hC]; omega) L.snap L.msgs (ra := c.ra) (rn := 1) (rc := c.rc) (rsz := 2) (rf := rowsV encR [(9, s.hC)]) rfl) rfl (fun _ h => h) rfl (fun _ _ h => h) ?_).safe trivial
      rintro v hp ⟨⟨o2, rfl⟩, rfl⟩
      have d1 : decide (((1 : Nat) : Int) = 1) = true := rfl
      have d2 : decide (([((9 : Int), s.hC)].getD (Int.toNat 0) default).1 = 9) = true := rfl
      refine ⟨trivial, go_ok _ 100 _ _ ?_⟩
      simp only [go_sem, nilS, d1, d2, Nat.reduceBEq, Nat.reduceAdd, Nat.zero_add, Try.results3, reduceCtorEq]
      refine ⟨⟨by decide, by decide⟩, by decide, ⟨by decide, by decide⟩, by decide, ?_, rfl⟩
      refine Stp.safeOn ?_ trivial
      refine stp_call [0] (args := [.ptr 0 b 0]) rfl rfl rfl ⟨_, Try.func19, rfl, rfl⟩ (c19 b _) rfl (fun _ h => unc_oks h) rfl (fun _ _ h => h) ?_
      rintro v hp ⟨rfl, rfl⟩
      have d3 : decide (([((9 : Int), s.hC)].getD (Int.toNat 0) default).2 = (s.asked.conf 9 s.hC c).readied.hC) = true := by
        have : ([((9 : Int), s.hC)].getD (Int.toNat 0) default).2 = (s.asked.conf 9 s.hC c).readied.hC := rfl
        simp only [this, decide_true]
      refine ⟨by simp only [go_sem, Nat.reduceBEq, Nat.reduceAdd, Nat.zero_add]; decide, go_ok _ 100 _ _ ?_⟩
      simp only [go_sem, d3, Nat.reduceBEq, Nat.reduceAdd, Nat.zero_add, Try.results3, reduceCtorEq]
end Go.SX
