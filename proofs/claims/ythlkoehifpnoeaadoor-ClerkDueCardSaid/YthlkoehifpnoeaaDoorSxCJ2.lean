/- Joined texts: DK DL DM DN DO DP DQ. -/
import Derived.Test.YthlkoehifpnoeaaDoorSxCJ1
/- A minute's date: the document's. -/
namespace Go.SX
open Go.Proofs
set_option maxRecDepth 1000000
variable {E : Env}

/-- a date as the program holds it -/
def dateV (y : Int) (m : Nat) (d h mi w : Int) : SV := .agg [I y, I m, I d, I h, I mi, I w]
theorem safe_code_mid {S : Setup} {k : List Frag} {st : St} {c : SCode} {ι : Type} (mid : ι → St) (hrest : ∀ x, Safe S k (mid x)) (h : (∀ x, Safe S k (mid x)) → Safe S (.code c :: k) st) : Safe S (.code c :: k) st := h hrest
structure YW (day : Int) where
  y : Int
  h1 : 1 ≤ y
  h2 : Cal.ahead y ≤ day
structure MW (day y : Int) where
  m : Nat
  h1 : 1 ≤ m
  h3 : m ≤ 12
  h2 : Cal.ahead y + Cal.mstart y m ≤ day
theorem year_small {day y : Int} (h : Cal.ahead y ≤ day) (h2 : day ≤ 3652058) : y ≤ 9999 := by
  apply Decidable.byContradiction
  intro hn
  have := Cal.ahead_le (show (10000 : Int) ≤ y by omega)
  have e : Cal.ahead 10000 = 3652059 := by decide
  omega
theorem ag49 : aggOf Tryd.prog 49 = some (some 6) := by kernel_rfl
/-- of a minute that is one, its date -/
def OfPost (minute : Int) (v : SV) : Prop :=
  if Cron.first ≤ minute ∧ minute ≤ Cron.last then ∃ y m d, Cal.IsDate (Cron.dayOf minute) y m d ∧ v = .tup [dateV y m d (Cron.restOf minute / 60) (Cron.restOf minute % 60) ((Cron.dayOf minute + 1) % 7), I 0]
  else v = .tup [dateV 0 0 0 0 0 0, I 1]
set_option maxHeartbeats 4000000 in
theorem c15 (x : Int) (hx : -(2 ^ 62) ≤ x) (hx2 : x ≤ 2 ^ 62) : Spec Tryd.prog E 15 [I x] [] (fun v hp => OfPost x v ∧ hp = []) := by
  refine Spec.leave (Post := fun v hp => OfPost x v) ?_ (fun v hp h => ⟨[], hp, rfl, h, rfl⟩)
  refine spec_of (keep := k15) (args' := [I x]) Tryd.func15 rfl Tryd.ntmps15 s15_ok (by simp) ⟨rfl, fun _ h => h⟩ (fun _ _ h => h) (go_ok _ 18 _ _ ?_)
  simp only [go_sem, s15, k15, Nat.reduceBEq]
  have hlt : x.tmod 1440 < 1440 := Int.tmod_lt_of_pos x (by decide)
  have hgt : -1440 < x.tmod 1440 := Int.neg_lt_of_neg_lt (Int.neg_tmod x 1440 ▸ Int.tmod_lt_of_pos (-x) (by decide))
  have hsum : 1440 * x.tdiv 1440 + x.tmod 1440 = x := Int.mul_tdiv_add_tmod x 1440
  intro b
  refine ⟨⟨by decide, by simp only [inI64]; omega⟩, by decide, ?_⟩
  refine safe_code_mid (ι := Unit) (fun _ => ⟨[(2, .ptr 0 b 0), (3, I 0), (4, I (x / 1440)), (5, I (x % 1440))], [.cells b 49 [I 0, I 0, I 0, I 0, I 0, I 0]]⟩) ?_ ?_
  rotate_left
  · intro rest
    refine go_ok _ 6 _ _ ?_
    simp only [go_sem, Nat.reduceBEq]
    refine ⟨fun hc => ?_, fun hc => ?_⟩
    · have hneg : x.tmod 1440 < 0 := of_decide_eq_true hc
      refine go_ok _ 11 _ _ ?_
      simp only [go_sem, Nat.reduceBEq]
      refine ⟨by simp only [inI64]; omega, by simp only [inI64]; omega, ?_⟩
      rw [show x.tmod 1440 + 1440 = x % 1440 by omega, show x.tdiv 1440 - 1 = x / 1440 by omega]
      refine Safe.sub ?_ (rest ())
      exact Sub.front (X := []) (by simp [envSub, look]) rfl
    · have hneg : ¬ x.tmod 1440 < 0 := of_decide_eq_false hc
      refine go_ok _ 1 _ _ ?_
      simp only [go_sem]
      rw [show x.tmod 1440 = x % 1440 by omega, show x.tdiv 1440 = x / 1440 by omega]
      refine Safe.sub ?_ (rest ())
      exact Sub.front (X := []) (by simp [envSub, look]) rfl
  rintro ⟨⟩
  generalize hq : x / 1440 = q at *
  generalize hr : x % 1440 = r at *
  have hr0 : 0 ≤ r := by omega
  have hr1 : r < 1440 := by omega
  rcases d1 : decide (q < -719162) with _ | _
  · refine go_ok _ 10 _ _ ?_
    simp only [go_sem, d1, Nat.reduceBEq]
    refine ⟨?_, fun h => absurd h (by decide), rfl⟩
    refine Stp.safeOn ?_ trivial
    refine stp_call [] (args := [I 10000]) rfl rfl rfl ⟨_, Tryd.func31, rfl, rfl⟩ (c31 10000 (by decide) (by decide)) rfl (fun _ h => unc_oks h) (by simp [callIdx]) (fun _ _ h => h) ?_
    rintro v hp ⟨rfl, rfl⟩
    rw [show Cal.ahead 10000 = 3652059 by decide]
    refine ⟨trivial, ?_⟩
    have hq0 : -719162 ≤ q := by have := of_decide_eq_false d1; omega
    have hs : inI64 (-719162 + 3652059) := by simp only [inI64]; omega
    rcases d2 : decide (-719162 + 3652059 ≤ q) with _ | _
    · refine go_ok _ 20 _ _ ?_
      simp only [go_sem, d2, List.cons_append, List.nil_append, Nat.reduceBEq, Nat.reduceAdd, Nat.zero_add]
      rw [Int.tdiv_eq_ediv_of_nonneg (show 0 ≤ q + 719162 by omega)]
      refine ⟨hs, by simp only [inI64]; omega, ⟨by decide, by simp only [inI64]; omega⟩, by simp only [inI64]; omega, ?_⟩
      have hql : q ≤ 2932896 := by have := of_decide_eq_false d2; omega
      generalize hday : q + 719162 = day at *
      have hd0 : 0 ≤ day := by omega
      have hd1 : day ≤ 3652058 := by omega
      have hdays : Cron.dayOf x = day ∧ Cron.restOf x = r := by
        have := Cron.dayOf_mul q r hr0 hr1
        rw [show 1440 * q + r = x by omega] at this
        rw [← hday]
        exact this
      have hin : Cron.first ≤ x ∧ x ≤ Cron.last := by unfold Cron.first Cron.last; omega
      refine go_ok _ 3 _ _ ?_
      simp only [go_sem]
      refine safe_loop (ι := YW day) (fun g => ⟨[(2, .ptr 0 b 0), (3, I 0), (4, I day), (5, I r), (6, I g.y)], [.cells b 49 [I 0, I 0, I 0, I 0, I 0, I 0]]⟩) (fun g => (10000 - g.y).toNat)
        ⟨day / 366 + 1, by omega, Cron.start_ref hd0⟩ (Sub.front (X := []) (by simp [envSub, look]) rfl) ?_
      rintro ⟨y, hy1, hy2⟩
      have hy9 := year_small hy2 hd1
      refine go_ok _ 8 _ _ ?_
      simp only [go_sem, Nat.reduceBEq]
      refine ⟨by simp only [inI64]; omega, ?_⟩
      refine (stp_call [] (args := [I (y + 1)]) rfl rfl rfl ⟨_, Tryd.func31, rfl, rfl⟩ (c31 (y + 1) (by omega) (by omega)) rfl (fun _ h => h) rfl (fun _ _ h => h) ?_).safe trivial
      rintro v hp ⟨rfl, rfl⟩
      refine ⟨trivial, go_ok _ 5 _ _ ?_⟩
      simp only [go_sem, Nat.reduceBEq]
      refine ⟨fun hc => ?_, fun hc => ?_⟩
      · have hle : Cal.ahead (y + 1) ≤ day := of_decide_eq_true hc
        refine go_ok _ 20 _ _ ?_
        simp only [go_sem, Nat.reduceBEq]
        refine ⟨by simp only [inI64]; omega, ?_⟩
        exact safe_lend (⟨y + 1, by omega, hle⟩ : YW day) (by simp only; omega) (Sub.front (X := []) (by simp [envSub, look]) rfl)
      have hlt2 : day < Cal.ahead (y + 1) := by have : ¬ Cal.ahead (y + 1) ≤ day := of_decide_eq_false hc; omega
      have hyl := Cal.year_len y
      have h13 := Cal.mstart13 y
      refine go_ok _ 12 _ _ ?_
      simp only [go_sem, Nat.reduceBEq]
      have ha0 : 0 ≤ Cal.ahead y := by
        have := Cal.ahead_le (show (1 : Int) ≤ y from hy1)
        have e : Cal.ahead 1 = 0 := by decide
        omega
      refine (stp_call [] (args := [I y]) rfl rfl rfl ⟨_, Tryd.func31, rfl, rfl⟩ (c31 y hy1 (by omega)) rfl (fun _ h => h) rfl (fun _ _ h => h) ?_).safe trivial
      rintro v hp ⟨rfl, rfl⟩
      refine ⟨by simp only [recheck, go_sem], go_ok _ 12 _ _ ?_⟩
      simp only [go_sem, Nat.reduceBEq]
      refine ⟨by simp only [inI64]; omega, ?_⟩
      have hm13 : ∀ m : Nat, m ≤ 12 → Cal.ahead y + Cal.mstart y (m + 1) ≤ day → m + 1 ≤ 12 := by
        intro m h1 h2
        apply Decidable.byContradiction
        intro h3
        obtain rfl : m = 12 := by omega
        have : Cal.mstart y (12 + 1) = Cal.mstart y 13 := rfl
        omega
      refine safe_loop (ι := MW day y) (fun g => ⟨[(2, .ptr 0 b 0), (3, I 0), (4, I day), (5, I r), (6, I y), (7, I (day - Cal.ahead y - Cal.mstart y g.m)), (8, I g.m)], [.cells b 49 [I 0, I 0, I 0, I 0, I 0, I 0]]⟩) (fun g => 12 - g.m)
        ⟨1, Nat.le_refl _, by decide, by rw [Cal.mstart1]; omega⟩ (Sub.front (X := []) (by simp [envSub, look, Cal.mstart1]) rfl) ?_
      rintro ⟨m, hm1, hm3, hm2⟩
      have hms := Cal.mstart_le (y := y) (m := 1) (k := m) hm1
      rw [Cal.mstart1] at hms
      have hmd := Cal.mdays_pos (y := y) hm1 hm3
      have hsucc : Cal.mstart y (m + 1) = Cal.mstart y m + Cal.mdays y m := rfl
      refine go_ok _ 8 _ _ ?_
      simp only [go_sem, Nat.reduceBEq]
      refine (stp_call [] (args := [I y, I m]) rfl rfl rfl ⟨_, Tryd.func32, rfl, rfl⟩ (c32 y m (by omega)) rfl (fun _ h => h) rfl (fun _ _ h => h) ?_).safe trivial
      rintro v hp ⟨rfl, rfl⟩
      refine ⟨by simp only [recheck, go_sem], go_ok _ 5 _ _ ?_⟩
      simp only [go_sem, Nat.reduceBEq]
      refine ⟨fun hc => ?_, fun hc => ?_⟩
      · have hle : Cal.mdays y m ≤ day - Cal.ahead y - Cal.mstart y m := of_decide_eq_true hc
        refine go_ok _ 8 _ _ ?_
        simp only [go_sem, Nat.reduceBEq]
        refine (stp_call [] (args := [I y, I m]) rfl rfl rfl ⟨_, Tryd.func32, rfl, rfl⟩ (c32 y m (by omega)) rfl (fun _ h => h) rfl (fun _ _ h => h) ?_).safe trivial
        rintro v hp ⟨rfl, rfl⟩
        refine ⟨by simp only [recheck, go_sem], go_ok _ 20 _ _ ?_⟩
        simp only [go_sem, Nat.reduceBEq]
        refine ⟨by simp only [inI64]; omega, by simp only [inI64]; omega, ?_⟩
        rw [show day - Cal.ahead y - Cal.mstart y m - Cal.mdays y m = day - Cal.ahead y - Cal.mstart y (m + 1) by omega]
        exact safe_lend (⟨m + 1, by omega, hm13 m hm3 (by omega), by omega⟩ : MW day y) (by simp only; have := hm13 m hm3 (by omega); omega) (Sub.front (X := []) (by simp [envSub, look]) rfl)
      have hlt3 : day - Cal.ahead y - Cal.mstart y m < Cal.mdays y m := by have : ¬ Cal.mdays y m ≤ day - Cal.ahead y - Cal.mstart y m := of_decide_eq_false hc; omega
      refine go_ok _ 21 _ _ ?_
      simp only [go_sem, Nat.reduceBEq, Nat.reduceAdd, Nat.zero_add]
      refine ⟨by simp only [inI64]; omega, ⟨by decide, ?_⟩, by decide, by simp only [inI64]; omega, by decide, ?_⟩
      · rw [Int.tdiv_eq_ediv_of_nonneg hr0]
        simp only [inI64]; omega
      rw [Int.tdiv_eq_ediv_of_nonneg hr0, Int.tmod_eq_emod_of_nonneg hr0, Int.tmod_eq_emod_of_nonneg (show 0 ≤ day + 1 by omega)]
      refine safe_retC (l := [dateV y m (day - Cal.ahead y - Cal.mstart y m + 1) (r / 60) (r % 60) ((day + 1) % 7), I 0]) (vc := True) ?_ trivial ?_ rfl rfl
      · simp only [retC, Tryd.results15, go_sem, Nat.reduceBEq, ag49]
        rfl
      · show OfPost x (.tup [_, _])
        unfold OfPost
        rw [if_pos hin, hdays.1, hdays.2]
        exact ⟨y, m, _, ⟨hm1, hm3, by omega, by omega, by omega⟩, rfl⟩
    · refine go_ok _ 11 _ _ ?_
      simp only [go_sem, d2, List.cons_append, List.nil_append, Nat.reduceBEq, Nat.reduceAdd, Nat.zero_add]
      refine ⟨hs, ?_, fun h => absurd h (by decide)⟩
      refine safe_retC (l := [dateV 0 0 0 0 0 0, I 1]) (vc := True) ?_ trivial ?_ rfl rfl
      · simp only [retC, Tryd.results15, go_sem, Nat.reduceBEq, ag49]
        rfl
      · have hq2 := of_decide_eq_true d2
        have : ¬ (Cron.first ≤ x ∧ x ≤ Cron.last) := by unfold Cron.first Cron.last; omega
        show OfPost x (.tup [dateV 0 0 0 0 0 0, I 1])
        unfold OfPost
        rw [if_neg this]
  · refine go_ok _ 18 _ _ ?_
    simp only [go_sem, d1, Nat.reduceBEq, Nat.reduceAdd, Nat.zero_add]
    refine ⟨⟨fun h => absurd h (by decide), ?_, fun h => absurd h (by decide)⟩, rfl⟩
    refine go_ok _ 1 _ _ ?_
    simp only [go_sem, Nat.reduceBEq]
    refine safe_retC (l := [dateV 0 0 0 0 0 0, I 1]) (vc := True) ?_ trivial ?_ rfl rfl
    · simp only [retC, Tryd.results15, go_sem, Nat.reduceBEq, ag49]
      rfl
    · have hq2 := of_decide_eq_true d1
      have : ¬ (Cron.first ≤ x ∧ x ≤ Cron.last) := by unfold Cron.first Cron.last; omega
      show OfPost x (.tup [dateV 0 0 0 0 0 0, I 1])
      unfold OfPost
      rw [if_neg this]
end Go.SX

/- A minute's date: the program's. -/
namespace Go.SX
open Go.Proofs
set_option maxRecDepth 1000000
variable {E : Env}

set_option maxHeartbeats 4000000 in
theorem c22 (x : Int) : Spec Tryd.prog E 22 [I x] [] (fun v hp => OfPost x v ∧ hp = []) := by
  refine Spec.leave (Post := fun v hp => OfPost x v) ?_ (fun v hp h => ⟨[], hp, rfl, h, rfl⟩)
  have hf : Cron.first = -1035593280 := by decide
  have hl : Cron.last = 4223371679 := by decide
  rcases d1 : (decide (x < -1035593280) || decide (4223371679 < x)) with _ | _
  rotate_left
  · refine spec_of (keep := k22) (args' := [I x]) Tryd.func22 rfl Tryd.ntmps22 s22_ok (by simp) ⟨rfl, fun _ h => h⟩ (fun _ _ h => h) (go_ok _ 22 _ _ ?_)
    simp only [go_sem, s22, k22, d1, Nat.reduceBEq, Nat.reduceAdd, Nat.zero_add]
    intro b
    refine ⟨?_, fun h => absurd h (by decide)⟩
    refine safe_retC (l := [dateV 0 0 0 0 0 0, I 1]) (vc := True) ?_ trivial ?_ rfl rfl
    · simp only [retC, Tryd.results22, go_sem, Nat.reduceBEq, ag49]
      rfl
    · rw [Bool.or_eq_true, decide_eq_true_eq, decide_eq_true_eq] at d1
      have : ¬ (Cron.first ≤ x ∧ x ≤ Cron.last) := by omega
      show OfPost x (.tup [dateV 0 0 0 0 0 0, I 1])
      unfold OfPost
      rw [if_neg this]
  · rw [Bool.or_eq_false_iff, decide_eq_false_iff_not, decide_eq_false_iff_not] at d1
    have hin : Cron.first ≤ x ∧ x ≤ Cron.last := by omega
    have e1 : decide (x < -1035593280) = false := decide_eq_false d1.1
    have e2 : decide (4223371679 < x) = false := decide_eq_false d1.2
    obtain ⟨day, hday⟩ : ∃ day, Cron.dayOf x = day := ⟨_, rfl⟩
    obtain ⟨r, hr⟩ : ∃ r, Cron.restOf x = r := ⟨_, rfl⟩
    have hday' : (x - -1035593280) / 1440 = day := by rw [← hday]; unfold Cron.dayOf; rw [hf]
    have hr' : (x - -1035593280) % 1440 = r := by rw [← hr]; unfold Cron.restOf; rw [hf]
    have hr0 : 0 ≤ r := by omega
    have hr1 : r < 1440 := by omega
    have hd0 : 0 ≤ day := by omega
    have hd1 : day ≤ 3652058 := by omega
    have t1 : (x - -1035593280).tdiv 1440 = day := by rw [Int.tdiv_eq_ediv_of_nonneg (by omega)]; exact hday'
    have t2 : (x - -1035593280).tmod 1440 = r := by rw [Int.tmod_eq_emod_of_nonneg (by omega)]; exact hr'
    have t3 : r.tdiv 60 = r / 60 := Int.tdiv_eq_ediv_of_nonneg hr0
    have t4 : r.tmod 60 = r % 60 := Int.tmod_eq_emod_of_nonneg hr0
    have t5 : (day + 1).tmod 7 = (day + 1) % 7 := Int.tmod_eq_emod_of_nonneg (by omega)
    have t6 : day.tdiv 146097 = day / 146097 := Int.tdiv_eq_ediv_of_nonneg hd0
    have t7 : day.tmod 146097 = day % 146097 := Int.tmod_eq_emod_of_nonneg hd0
    have t8 : (day % 146097).tdiv 366 = day % 146097 / 366 := Int.tdiv_eq_ediv_of_nonneg (by omega)
    refine spec_of (keep := k22) (args' := [I x]) Tryd.func22 rfl Tryd.ntmps22 s22_ok (by simp) ⟨rfl, fun _ h => h⟩ (fun _ _ h => h) (go_ok _ 70 _ _ ?_)
    simp only [go_sem, s22, k22, e1, e2, t1, t2, t3, t4, t5, t6, t7, t8, Nat.reduceBEq, Nat.reduceAdd, Nat.zero_add]
    intro b
    refine ⟨by simp only [inI64]; omega, ⟨by decide, by simp only [inI64]; omega⟩, by decide, ⟨by decide, by simp only [inI64]; omega⟩, by decide, by simp only [inI64]; omega, by decide, fun b2 => ?_⟩
    refine ⟨⟨by decide, by simp only [inI64]; omega⟩, by simp only [inI64]; omega, by decide, ⟨by decide, by simp only [inI64]; omega⟩, by simp only [inI64]; omega, by simp only [inI64]; omega, ?_⟩
    refine safe_loop (ι := YW day) (fun g => ⟨[(2, .ptr 0 b 0), (3, I 0), (5, I day), (7, .ptr 1 b2 0)], [.cells b 49 [I 0, I 0, I 0, I 0, I 0, I 0], .cells b2 49 [I g.y, I 0, I 0, I (r / 60), I (r % 60), I ((day + 1) % 7)]]⟩) (fun g => (10000 - g.y).toNat)
      ⟨400 * (day / 146097) + day % 146097 / 366 + 1, by omega, Cron.start_prog hd0⟩ (Sub.front (X := []) (by simp [envSub, look]) rfl) ?_
    rintro ⟨y, hy1, hy2⟩
    have hy9 := year_small hy2 hd1
    refine go_ok _ 8 _ _ ?_
    simp only [go_sem, Nat.reduceBEq, Nat.zero_add]
    refine ⟨by simp only [inI64]; omega, ?_⟩
    refine (stp_call [] (args := [I (y + 1)]) rfl rfl rfl ⟨_, Tryd.func42, rfl, rfl⟩ (c42 (y + 1) (by omega) (by omega)) rfl (fun _ h => h) rfl (fun _ _ h => h) ?_).safe trivial
    rintro v hp ⟨rfl, rfl⟩
    refine ⟨trivial, go_ok _ 5 _ _ ?_⟩
    simp only [go_sem, Nat.reduceBEq]
    refine ⟨fun hc => ?_, fun hc => ?_⟩
    · have hle : Cal.ahead (y + 1) ≤ day := of_decide_eq_true hc
      refine go_ok _ 20 _ _ ?_
      simp only [go_sem, Nat.reduceBEq, Nat.zero_add]
      refine ⟨by simp only [inI64]; omega, ?_⟩
      exact safe_lend (⟨y + 1, by omega, hle⟩ : YW day) (by simp only; omega) (Sub.front (X := []) (by simp [envSub, look]) rfl)
    have hlt2 : day < Cal.ahead (y + 1) := by have : ¬ Cal.ahead (y + 1) ≤ day := of_decide_eq_false hc; omega
    have hyl := Cal.year_len y
    have h13 := Cal.mstart13 y
    have ha0 : 0 ≤ Cal.ahead y := by
      have := Cal.ahead_le (show (1 : Int) ≤ y from hy1)
      have e : Cal.ahead 1 = 0 := by decide
      omega
    refine go_ok _ 12 _ _ ?_
    simp only [go_sem, Nat.reduceBEq, Nat.zero_add]
    refine (stp_call [] (args := [I y]) rfl rfl rfl ⟨_, Tryd.func42, rfl, rfl⟩ (c42 y hy1 (by omega)) rfl (fun _ h => h) rfl (fun _ _ h => h) ?_).safe trivial
    rintro v hp ⟨rfl, rfl⟩
    refine ⟨by simp only [recheck, go_sem], go_ok _ 14 _ _ ?_⟩
    simp only [go_sem, Nat.reduceBEq, Nat.zero_add]
    refine ⟨by simp only [inI64]; omega, ?_⟩
    have hm13 : ∀ m : Nat, m ≤ 12 → Cal.ahead y + Cal.mstart y (m + 1) ≤ day → m + 1 ≤ 12 := by
      intro m h1 h2
      apply Decidable.byContradiction
      intro h3
      obtain rfl : m = 12 := by omega
      have : Cal.mstart y (12 + 1) = Cal.mstart y 13 := rfl
      omega
    refine safe_loop (ι := MW day y) (fun g => ⟨[(2, .ptr 0 b 0), (3, I 0), (5, I (day - Cal.ahead y - Cal.mstart y g.m)), (7, .ptr 1 b2 0)], [.cells b 49 [I 0, I 0, I 0, I 0, I 0, I 0], .cells b2 49 [I y, I g.m, I 0, I (r / 60), I (r % 60), I ((day + 1) % 7)]]⟩) (fun g => 12 - g.m)
      ⟨1, Nat.le_refl _, by decide, by rw [Cal.mstart1]; omega⟩ (Sub.front (X := []) (by simp [envSub, look, Cal.mstart1]) rfl) ?_
    rintro ⟨m, hm1, hm3, hm2⟩
    have hms := Cal.mstart_le (y := y) (m := 1) (k := m) hm1
    rw [Cal.mstart1] at hms
    have hmd := Cal.mdays_pos (y := y) hm1 hm3
    have hsucc : Cal.mstart y (m + 1) = Cal.mstart y m + Cal.mdays y m := rfl
    refine go_ok _ 10 _ _ ?_
    simp only [go_sem, Nat.reduceBEq, Nat.zero_add]
    refine (stp_call [] (args := [I y, I m]) rfl rfl rfl ⟨_, Tryd.func43, rfl, rfl⟩ (c43 y m (by omega) hm1 hm3) rfl (fun _ h => h) rfl (fun _ _ h => h) ?_).safe trivial
    rintro v hp ⟨rfl, rfl⟩
    refine ⟨by simp only [recheck, go_sem], go_ok _ 5 _ _ ?_⟩
    simp only [go_sem, Nat.reduceBEq]
    refine ⟨fun hc => ?_, fun hc => ?_⟩
    · have hle : Cal.mdays y m ≤ day - Cal.ahead y - Cal.mstart y m := of_decide_eq_true hc
      refine go_ok _ 10 _ _ ?_
      simp only [go_sem, Nat.reduceBEq, Nat.zero_add]
      refine (stp_call [] (args := [I y, I m]) rfl rfl rfl ⟨_, Tryd.func43, rfl, rfl⟩ (c43 y m (by omega) hm1 hm3) rfl (fun _ h => h) rfl (fun _ _ h => h) ?_).safe trivial
      rintro v hp ⟨rfl, rfl⟩
      refine ⟨by simp only [recheck, go_sem], go_ok _ 20 _ _ ?_⟩
      simp only [go_sem, Nat.reduceBEq, Nat.zero_add]
      refine ⟨by simp only [inI64]; omega, by simp only [inI64]; omega, ?_⟩
      rw [show day - Cal.ahead y - Cal.mstart y m - Cal.mdays y m = day - Cal.ahead y - Cal.mstart y (m + 1) by omega]
      exact safe_lend (⟨m + 1, by omega, hm13 m hm3 (by omega), by omega⟩ : MW day y) (by simp only; have := hm13 m hm3 (by omega); omega) (Sub.front (X := []) (by simp [envSub, look]) rfl)
    have hlt3 : day - Cal.ahead y - Cal.mstart y m < Cal.mdays y m := by have : ¬ Cal.mdays y m ≤ day - Cal.ahead y - Cal.mstart y m := of_decide_eq_false hc; omega
    refine go_ok _ 13 _ _ ?_
    simp only [go_sem, Nat.reduceBEq, Nat.reduceAdd, Nat.zero_add]
    refine ⟨by simp only [inI64]; omega, ?_⟩
    refine safe_retC (l := [dateV y m (day - Cal.ahead y - Cal.mstart y m + 1) (r / 60) (r % 60) ((day + 1) % 7), I 0]) (vc := True) ?_ trivial ?_ rfl rfl
    · simp only [retC, Tryd.results22, go_sem, Nat.reduceBEq, ag49]
      rfl
    · show OfPost x (.tup [_, _])
      unfold OfPost
      rw [if_pos hin, hday, hr]
      exact ⟨y, m, _, ⟨hm1, hm3, by omega, by omega, by omega⟩, rfl⟩
end Go.SX

/- The minute at which a day begins; the days that are allowed. -/
namespace Go.SX
open Go.Proofs
set_option maxRecDepth 1000000
variable {E : Env}

/-- a bit of a word -/
theorem bit_u64 {b n : Nat} (hn : n < 64) : bitsI .and .u64 (shrI .u64 (b : Int) (n : Int)) 1 = if b.testBit n then 1 else 0 := by
  have h1 : shrI .u64 (b : Int) (n : Int) = ((b / 2 ^ n : Nat) : Int) := by
    unfold shrI
    have hmin : min (n : Int).toNat IntKind.u64.bits = n := by
      show min (n : Int).toNat 64 = n
      omega
    rw [hmin, Int.fdiv_eq_ediv_of_nonneg _ (by exact_mod_cast Nat.zero_le (2 ^ n))]
    norm_cast
  rw [h1]
  have h2 : bitsI .and .u64 ((b / 2 ^ n : Nat) : Int) 1 = IntKind.u64.wrap (((b / 2 ^ n) % 2 : Nat) : Int) := by
    unfold bitsI
    have e : ((BitVec.ofInt IntKind.u64.bits ((b / 2 ^ n : Nat) : Int) &&& BitVec.ofInt IntKind.u64.bits 1).toNat) = (b / 2 ^ n) % 2 := by
      show ((BitVec.ofInt 64 ((b / 2 ^ n : Nat) : Int) &&& 1#64).toNat) = _
      rw [BitVec.toNat_and, BitVec.ofInt_natCast, BitVec.toNat_ofNat]
      show (b / 2 ^ n) % 2 ^ 64 &&& 1 = _
      rw [Nat.and_one_is_mod]
      omega
    show IntKind.u64.wrap ((BitVec.ofInt IntKind.u64.bits ((b / 2 ^ n : Nat) : Int) &&& BitVec.ofInt IntKind.u64.bits 1).toNat : Int) = _
    rw [e]
  rw [h2, Nat.testBit_eq_decide_div_mod_eq]
  rcases Nat.mod_two_eq_zero_or_one (b / 2 ^ n) with h | h <;> rw [h] <;> rfl
theorem bit_is {b n : Nat} (hn : n < 64) : decide (bitsI .and .u64 (shrI .u64 (b : Int) (n : Int)) 1 = 1) = b.testBit n := by
  rw [bit_u64 hn]
  cases b.testBit n <;> rfl
theorem bit_not {b n : Nat} (hn : n < 64) : decide (bitsI .and .u64 (shrI .u64 (b : Int) (n : Int)) 1 = 0) = !b.testBit n := by
  rw [bit_u64 hn]
  cases b.testBit n <;> rfl
theorem c24 (x : Int) (hx : -(2 ^ 62) ≤ x) (hx2 : x ≤ 2 ^ 62) : Spec Tryd.prog E 24 [I x] [] (fun v hp => v = I (1440 * (x / 1440)) ∧ hp = []) := by
  have hlt : x.tmod 1440 < 1440 := Int.tmod_lt_of_pos x (by decide)
  have hgt : -1440 < x.tmod 1440 := Int.neg_lt_of_neg_lt (Int.neg_tmod x 1440 ▸ Int.tmod_lt_of_pos (-x) (by decide))
  have hsum : 1440 * x.tdiv 1440 + x.tmod 1440 = x := Int.mul_tdiv_add_tmod x 1440
  refine spec_of (keep := k24) (args' := [I x]) Tryd.func24 rfl Tryd.ntmps24 s24_ok (by simp) ⟨rfl, fun _ h => h⟩ (fun _ _ h => h) (go_ok _ 40 _ _ ?_)
  simp only [go_sem, s24, k24, Nat.reduceBEq, Tryd.results24]
  refine ⟨by decide, fun hc => ?_, fun hc => ?_⟩
  · have : x.tmod 1440 < 0 := of_decide_eq_true hc
    refine ⟨by simp only [inI64]; omega, by simp only [inI64]; omega, ?_⟩
    rw [show x - (x.tmod 1440 + 1440) = 1440 * (x / 1440) by omega]
  · have : ¬ x.tmod 1440 < 0 := of_decide_eq_false hc
    refine ⟨by simp only [inI64]; omega, ?_⟩
    rw [show x - x.tmod 1440 = 1440 * (x / 1440) by omega]
/-- a day's date, allowed -/
def exV (e : Cron.Ex) : SV := .agg [.val (.int .u64 e.mi), .val (.int .u64 e.ho), .val (.int .u64 e.da), .val (.int .u64 e.mo), .val (.int .u64 e.we), Bl e.ad, Bl e.aw]
set_option maxHeartbeats 4000000 in
theorem c25 (e : Cron.Ex) (y : Int) (m d w : Nat) (h mi : Int) (hm : m < 64) (hd : d < 64) (hw : w < 64) : Spec Tryd.prog E 25 [exV e, dateV y m d h mi w] [] (fun v hp => v = Bl (e.fits m d w) ∧ hp = []) := by
  refine Spec.leave (Post := fun v hp => v = Bl (e.fits m d w)) ?_ (fun v hp h => ⟨[], hp, rfl, h, rfl⟩)
  refine spec_of (keep := k25) (args' := [exV e, dateV y m d h mi w]) Tryd.func25 rfl Tryd.ntmps25 s25_ok (by simp) ⟨rfl, fun _ h => h⟩ (fun _ _ h => h) (go_ok _ 100 _ _ ?_)
  simp only [go_sem, s25, k25, exV, dateV, Nat.reduceBEq, Nat.zero_add, Tryd.results25]
  rw [bit_not hm, bit_is hw, bit_is hd]
  have hf : e.fits m d w = (e.mo.testBit m && (if e.ad && e.aw then true else if e.ad then e.we.testBit w else if e.aw then e.da.testBit d else e.da.testBit d || e.we.testBit w)) := rfl
  rw [hf]
  refine ⟨by omega, by omega, by omega, by omega, ?_⟩
  generalize e.mo.testBit m = b1
  generalize e.we.testBit w = b2
  generalize e.da.testBit d = b3
  generalize e.ad = b4
  generalize e.aw = b5
  cases b1 <;> cases b2 <;> cases b3 <;> cases b4 <;> cases b5 <;> simp
end Go.SX

/- A number, a span. -/
namespace Go.SX
open Go.Proofs
set_option maxRecDepth 1000000
variable {E : Env}

theorem get_at (x : List UInt8) (i : Nat) : (ByteArray.get! ⟨x.toArray⟩ i) = x.getD i default := by
  simp [ByteArray.get!, List.getD_eq_getElem?_getD]
theorem decode_lo {x : List UInt8} {i : Nat} (h : (x.getD i default).toNat < 128) : Utf8.decode ⟨x.toArray⟩ i = ((x.getD i default).toNat, 1) := by
  unfold Utf8.decode
  simp only [Nat.add_zero, get_at]
  rw [if_pos h]
theorem decode_hi {x : List UInt8} {i : Nat} (h : 128 ≤ (x.getD i default).toNat) : 128 ≤ (Utf8.decode ⟨x.toArray⟩ i).1 := by
  unfold Utf8.decode
  simp only [Nat.add_zero, get_at]
  rw [if_neg (by omega)]
  unfold Utf8.runeError
  repeat' split
  all_goals (first | (simp; done) | (simp_all; done) | (simp_all; omega))
theorem digit_iff (c : UInt8) : Cron.digit c = true ↔ 48 ≤ c.toNat ∧ c.toNat ≤ 57 := by
  unfold Cron.digit
  rw [Bool.and_eq_true, decide_eq_true_eq, decide_eq_true_eq]
theorem val_snoc : ∀ (l : List UInt8) (c : UInt8) (n : Int), Cron.val (l ++ [c]) n = 10 * Cron.val l n + ((c.toNat : Int) - 48)
  | [], _, _ => rfl
  | a :: l, c, n => by simp only [List.cons_append, Cron.val]; exact val_snoc l c _
theorem take_snoc {x : List UInt8} {p : Nat} (h : p < x.length) : x.take (p + 1) = x.take p ++ [x.getD p default] := by
  rw [List.take_add_one, List.getD_eq_getElem?_getD, List.getElem?_eq_getElem h]
  rfl
theorem val_bound : ∀ (l : List UInt8), l.all Cron.digit = true → l.length ≤ 2 → 0 ≤ Cron.val l 0 ∧ Cron.val l 0 ≤ 99
  | [], _, _ => ⟨by decide, by decide⟩
  | [a], h, _ => by
    have ha : Cron.digit a = true := by simpa using h
    have := (digit_iff a).1 ha
    simp only [Cron.val]
    omega
  | [a, b], h, _ => by
    have ha : Cron.digit a = true ∧ Cron.digit b = true := by simpa using h
    have h1 := (digit_iff a).1 ha.1
    have h2 := (digit_iff b).1 ha.2
    simp only [Cron.val]
    omega
  | _ :: _ :: _ :: _, _, h => by simp at h
structure NW (x : List UInt8) where
  p : Nat
  hp : p ≤ x.length
  h : (x.take p).all Cron.digit = true
theorem c51 (x : List UInt8) : Spec Tryd.prog E 51 [T x] [] (fun v hp => v = I (Cron.num x) ∧ hp = []) := by
  refine Spec.leave (Post := fun v hp => v = I (Cron.num x)) ?_ (fun v hp h => ⟨[], hp, rfl, h, rfl⟩)
  refine spec_of (keep := k51) (args' := [T x]) Tryd.func51 rfl Tryd.ntmps51 s51_ok (by simp) ⟨rfl, fun _ h => h⟩ (fun _ _ h => h) (go_ok _ 22 _ _ ?_)
  rcases d1 : (decide ((x.length : Int) < 1) || decide (2 < (x.length : Int))) with _ | _
  rotate_left
  · simp only [go_sem, s51, k51, List.size_toArray, d1, Nat.reduceBEq, Tryd.results51]
    rw [Bool.or_eq_true, decide_eq_true_eq, decide_eq_true_eq] at d1
    refine ⟨?_, fun h => absurd h (by decide)⟩
    unfold Cron.num
    rw [if_neg (by omega)]
  rw [Bool.or_eq_false_iff, decide_eq_false_iff_not, decide_eq_false_iff_not] at d1
  have hl1 : 1 ≤ x.length := by omega
  have hl2 : x.length ≤ 2 := by omega
  have e1 : decide ((x.length : Int) < 1) = false := decide_eq_false d1.1
  have e2 : decide (2 < (x.length : Int)) = false := decide_eq_false d1.2
  simp only [go_sem, s51, k51, List.size_toArray, e1, e2, Nat.reduceBEq, Tryd.results51]
  refine go_ok _ 100 _ _ ?_
  simp only [go_sem, Nat.reduceBEq]
  refine (stp_strrange (mo := .t 14) (s := ⟨x.toArray⟩) rfl Tryd.underlying9 rfl fun r => ?_).safeE rfl
  refine ⟨trivial, go_ok _ 100 _ _ ?_⟩
  simp only [go_sem, Nat.reduceBEq]
  refine safe_loop (ι := NW x) (fun g => ⟨[(0, T x), (2, I 0), (3, I (Cron.val (x.take g.p) 0)), (15, .val (.pointer (some ⟨r, 0, none⟩)))], [strI r ⟨x.toArray⟩ g.p]⟩) (fun g => x.length - g.p) ⟨0, Nat.zero_le _, rfl⟩
    (Sub.front (X := []) (by simp [envSub, look, Cron.val]) rfl) ?_
  rintro ⟨p, hp, hok⟩
  have hvb := val_bound (x.take p) hok (by rw [List.length_take]; omega)
  refine go_ok _ 100 _ _ ?_
  simp only [go_sem]
  refine (stp_strnext (ito := .t 15) (r := r) (s := ⟨x.toArray⟩) (pos := p) 0 rfl rfl rfl (fun hge => ?_) (fun hlt => ?_)).safeE rfl
  · refine ⟨trivial, go_ok _ 22 _ _ ?_⟩
    simp only [go_sem, Nat.reduceBEq, Tryd.results51]
    have hpl : p = x.length := by have : x.toArray.size ≤ p := hge; simp at this; omega
    subst hpl
    rw [List.take_length] at hok ⊢
    unfold Cron.num
    rw [if_pos ⟨hl1, hl2, hok⟩]
  · have hlt' : p < x.length := by have : p < x.toArray.size := hlt; simpa using this
    refine ⟨trivial, go_ok _ 60 _ _ ?_⟩
    simp only [go_sem, Nat.reduceBEq, Tryd.results51]
    refine ⟨⟨fun hbad => ?_, fun hgood => ?_⟩, fun h => absurd h (by decide)⟩
    · have hno : Cron.digit (x.getD p default) = false := by
        rcases Nat.lt_or_ge (x.getD p default).toNat 128 with h | h
        · rw [decode_lo h, Bool.or_eq_true, decide_eq_true_eq, decide_eq_true_eq] at hbad
          rw [← Bool.not_eq_true, digit_iff]
          omega
        · rw [← Bool.not_eq_true, digit_iff]
          omega
      have hall : x.all Cron.digit = false := by
        rw [List.all_eq_false]
        refine ⟨x[p], List.getElem_mem hlt', ?_⟩
        rw [List.getD_eq_getElem?_getD, List.getElem?_eq_getElem hlt'] at hno
        simpa using hno
      unfold Cron.num
      rw [hall, if_neg (by simp)]
    · have hlo : (x.getD p default).toNat < 128 := by
        rcases Nat.lt_or_ge (x.getD p default).toNat 128 with h | h
        · exact h
        · exfalso
          have hd := decode_hi h
          rw [Bool.or_eq_false_iff, decide_eq_false_iff_not, decide_eq_false_iff_not] at hgood
          omega
      rw [decode_lo hlo] at hgood ⊢
      rw [Bool.or_eq_false_iff, decide_eq_false_iff_not, decide_eq_false_iff_not] at hgood
      have hdig : Cron.digit (x.getD p default) = true := by rw [digit_iff]; omega
      have hw : IntKind.i32.wrap (((x.getD p default).toNat : Int) - 48) = ((x.getD p default).toNat : Int) - 48 := by rw [IntKind.wrap_i32]; omega
      simp only [hw]
      refine ⟨by simp only [inI64]; omega, by simp only [inI64]; omega, by simp only [inI64]; omega, ?_⟩
      rw [← val_snoc, ← take_snoc hlt']
      refine safe_lend ⟨p + 1, hlt', ?_⟩ (by simp only; omega) (Sub.front (X := []) (by simp [envSub, look]) rfl)
      rw [take_snoc hlt', List.all_append, hok]
      rw [Bool.true_and, List.all_cons, hdig]
      rfl
end Go.SX

/- A span's bits. -/
namespace Go.SX
open Go.Proofs
set_option maxRecDepth 1000000
variable {E : Env}

abbrev U (n : Nat) : SV := .val (.int .u64 n)
theorem wrap_nat {n : Nat} (h : n < 2 ^ 64) : IntKind.u64.wrap (n : Int) = n := by
  rw [IntKind.wrap_u64]; omega
theorem or_u64 {x y : Nat} (hx : x < 2 ^ 64) (hy : y < 2 ^ 64) : bitsI .or .u64 (x : Int) (y : Int) = ((x ||| y : Nat) : Int) := by
  unfold bitsI
  have e : ((BitVec.ofInt IntKind.u64.bits (x : Int) ||| BitVec.ofInt IntKind.u64.bits (y : Int)).toNat) = x ||| y := by
    show ((BitVec.ofInt 64 (x : Int) ||| BitVec.ofInt 64 (y : Int)).toNat) = _
    rw [BitVec.toNat_or, BitVec.ofInt_natCast, BitVec.ofInt_natCast, BitVec.toNat_ofNat, BitVec.toNat_ofNat, Nat.mod_eq_of_lt hx, Nat.mod_eq_of_lt hy]
  show IntKind.u64.wrap ((BitVec.ofInt IntKind.u64.bits (x : Int) ||| BitVec.ofInt IntKind.u64.bits (y : Int)).toNat : Int) = _
  rw [e]
  exact wrap_nat (Nat.or_lt_two_pow hx hy)
theorem and_u64 {x y : Nat} (hx : x < 2 ^ 64) (hy : y < 2 ^ 64) : bitsI .and .u64 (x : Int) (y : Int) = ((x &&& y : Nat) : Int) := by
  unfold bitsI
  have e : ((BitVec.ofInt IntKind.u64.bits (x : Int) &&& BitVec.ofInt IntKind.u64.bits (y : Int)).toNat) = x &&& y := by
    show ((BitVec.ofInt 64 (x : Int) &&& BitVec.ofInt 64 (y : Int)).toNat) = _
    rw [BitVec.toNat_and, BitVec.ofInt_natCast, BitVec.ofInt_natCast, BitVec.toNat_ofNat, BitVec.toNat_ofNat, Nat.mod_eq_of_lt hx, Nat.mod_eq_of_lt hy]
  show IntKind.u64.wrap ((BitVec.ofInt IntKind.u64.bits (x : Int) &&& BitVec.ofInt IntKind.u64.bits (y : Int)).toNat : Int) = _
  rw [e]
  exact wrap_nat (Nat.and_lt_two_pow _ hy)
theorem span_bits : ∀ b : Nat, b < 63 → ∀ a : Nat, a < b + 1 → bitsI BinOp.andNot IntKind.u64 (IntKind.u64.wrap (shlI IntKind.u64 1 ((b : Int) + 1) - 1)) (IntKind.u64.wrap (shlI IntKind.u64 1 (a : Int) - 1)) = (Cron.span a b : Nat) := by
  decide +kernel
theorem span_step : ∀ b : Nat, b < 63 → ∀ a : Nat, a < b + 1 → bitsI BinOp.or IntKind.u64 ((2 ^ b - 2 ^ a : Nat) : Int) (shlI IntKind.u64 1 (b : Int)) = ((2 ^ (b + 1) - 2 ^ a : Nat) : Int) := by
  decide +kernel
theorem c39 (a b : Nat) (h : a ≤ b) (hb : b < 63) : Spec Tryd.prog E 39 [I a, I b] [] (fun v hp => v = U (Cron.span a b) ∧ hp = []) := by
  refine spec_of (keep := k39) (args' := [I a, I b]) Tryd.func39 rfl Tryd.ntmps39 s39_ok (by simp) ⟨rfl, fun _ h => h⟩ (fun _ _ h => h) (go_ok _ 22 _ _ ?_)
  simp only [go_sem, s39, k39, Nat.reduceBEq, Nat.zero_add, Tryd.results39]
  refine ⟨by simp only [inI64]; omega, by omega, by omega, ?_⟩
  rw [span_bits b hb a (by omega)]
theorem c27 (a b : Nat) (h : a ≤ b) (hb : b < 63) : Spec Tryd.prog E 27 [I a, I b] [] (fun v hp => v = U (Cron.span a b) ∧ hp = []) := by
  refine spec_of (keep := k27) (args' := [I a, I b]) Tryd.func27 rfl Tryd.ntmps27 s27_ok (by simp) ⟨rfl, fun _ h => h⟩ (fun _ _ h => h) (go_ok _ 100 _ _ ?_)
  simp only [go_sem, s27, k27, Nat.reduceBEq, Nat.zero_add]
  refine safe_loop (ι := {i : Nat // a ≤ i ∧ i ≤ b + 1}) (fun g => ⟨[(0, I a), (1, I b), (4, U 0), (5, U (2 ^ g.1 - 2 ^ a)), (6, I g.1)], []⟩) (fun g => b + 1 - g.1) ⟨a, Nat.le_refl _, by omega⟩
    (Sub.front (X := []) (by simp [envSub, look, Nat.sub_self]) rfl) ?_
  rintro ⟨i, hi1, hi2⟩
  refine go_ok _ 100 _ _ ?_
  simp only [go_sem, Nat.reduceBEq, Tryd.results27]
  refine ⟨fun hc => ?_, fun hc => ?_⟩
  · have hle := of_decide_eq_true hc
    refine ⟨by omega, by simp only [inI64]; omega, ?_⟩
    rw [span_step i (by omega) a (by omega)]
    exact safe_lend ⟨i + 1, by omega, by omega⟩ (by simp only; omega) (Sub.front (X := []) (by simp [envSub, look]) rfl)
  · have hle := of_decide_eq_false hc
    obtain rfl : i = b + 1 := by omega
    rw [Cron.span_nat a b h]
def loT : Array Value := #[.int .i64 0, .int .i64 0, .int .i64 1, .int .i64 1, .int .i64 0]
def hiT : Array Value := #[.int .i64 59, .int .i64 23, .int .i64 31, .int .i64 12, .int .i64 6]
def loL : List Int := [0, 0, 1, 1, 0]
def hiL : List Int := [59, 23, 31, 12, 6]
theorem run_blo (w : World) : (Instr.build 81 #[(0, .int .i64 0), (1, .int .i64 0), (2, .int .i64 1), (3, .int .i64 1), (4, .int .i64 0)]).run Tryd.prog w = .ok (.agg loT) w := by kernel_rfl
theorem run_bhi (w : World) : (Instr.build 81 #[(0, .int .i64 59), (1, .int .i64 23), (2, .int .i64 31), (3, .int .i64 12), (4, .int .i64 6)]).run Tryd.prog w = .ok (.agg hiT) w := by kernel_rfl
theorem run_ilo (w : World) (f : Nat) (h2 : f < 5) : (Instr.index 81 (.agg loT) (.int .i64 (f : Int))).run Tryd.prog w = .ok (.int .i64 (loL.getD f 0)) w := by
  have : f = 0 ∨ f = 1 ∨ f = 2 ∨ f = 3 ∨ f = 4 := by omega
  rcases this with rfl | rfl | rfl | rfl | rfl <;> rfl
theorem run_ihi (w : World) (f : Nat) (h2 : f < 5) : (Instr.index 81 (.agg hiT) (.int .i64 (f : Int))).run Tryd.prog w = .ok (.int .i64 (hiL.getD f 0)) w := by
  have : f = 0 ∨ f = 1 ∨ f = 2 ∨ f = 3 ∨ f = 4 := by omega
  rcases this with rfl | rfl | rfl | rfl | rfl <;> rfl
theorem oth_blo {C : Ctx} {st : St} (hC : C.P = Tryd.prog) : OthV C st (.build 81 #[(0, .const (.int .i64 0)), (1, .const (.int .i64 0)), (2, .const (.int .i64 1)), (3, .const (.int .i64 1)), (4, .const (.int .i64 0))]) 81 (.val (.agg loT)) := by
  intro ro H F a w g
  refine ⟨?_, by simp only [SV.ok]⟩
  have h := run_blo w
  rw [← hC] at h
  simp only [execOp, oper0, SV.den, List.map_toArray, List.map_cons, List.map_nil, Act.eval, Sem.run_bind, h, Result.andThen, Sem.run_pure]
theorem oth_bhi {C : Ctx} {st : St} (hC : C.P = Tryd.prog) : OthV C st (.build 81 #[(0, .const (.int .i64 59)), (1, .const (.int .i64 23)), (2, .const (.int .i64 31)), (3, .const (.int .i64 12)), (4, .const (.int .i64 6))]) 81 (.val (.agg hiT)) := by
  intro ro H F a w g
  refine ⟨?_, by simp only [SV.ok]⟩
  have h := run_bhi w
  rw [← hC] at h
  simp only [execOp, oper0, SV.den, List.map_toArray, List.map_cons, List.map_nil, Act.eval, Sem.run_bind, h, Result.andThen, Sem.run_pure]
theorem oth_ilo {C : Ctx} {st : St} (hC : C.P = Tryd.prog) {x i : Nat} {f : Nat} (h2 : f < 5) (hx : opv st.env (.t x) = some (.val (.agg loT))) (hi : opv st.env (.t i) = some (I (f : Int))) : OthV C st (.index 81 (.tmp x) (.tmp i)) 3 (I (loL.getD f 0)) := by
  intro ro H F a w g
  refine ⟨?_, by simp only [SV.ok]⟩
  have h := run_ilo w f h2
  rw [← hC] at h
  obtain ⟨e1, _⟩ := opv_ok (x := .tmp x) g rfl hx
  obtain ⟨e2, _⟩ := opv_ok (x := .tmp i) g rfl hi
  simp only [SV.den] at e1 e2
  simp only [execOp, oper0, SV.den, e1, e2, Sem.run_bind, h, Result.andThen, Sem.run_pure]
theorem oth_ihi {C : Ctx} {st : St} (hC : C.P = Tryd.prog) {x i : Nat} {f : Nat} (h2 : f < 5) (hx : opv st.env (.t x) = some (.val (.agg hiT))) (hi : opv st.env (.t i) = some (I (f : Int))) : OthV C st (.index 81 (.tmp x) (.tmp i)) 3 (I (hiL.getD f 0)) := by
  intro ro H F a w g
  refine ⟨?_, by simp only [SV.ok]⟩
  have h := run_ihi w f h2
  rw [← hC] at h
  obtain ⟨e1, _⟩ := opv_ok (x := .tmp x) g rfl hx
  obtain ⟨e2, _⟩ := opv_ok (x := .tmp i) g rfl hi
  simp only [SV.den] at e1 e2
  simp only [execOp, oper0, SV.den, e1, e2, Sem.run_bind, h, Result.andThen, Sem.run_pure]
theorem c28 (f : Nat) (hf : f < 5) : Spec Tryd.prog E 28 [I f] [] (fun v hp => v = I (loL.getD f 0) ∧ hp = []) := by
  refine spec_of (keep := k28) (args' := [I f]) Tryd.func28 rfl Tryd.ntmps28 s28_ok (by simp) ⟨rfl, fun _ h => h⟩ (fun _ _ h => h) (go_ok _ 12 _ _ ?_)
  simp only [go_sem, s28, k28, Nat.reduceBEq]
  refine safe_oth (oth_blo rfl) trivial ?_
  refine go_ok _ 2 _ _ ?_
  simp only [go_sem, Nat.reduceBEq]
  refine safe_oth (oth_ilo rfl hf rfl rfl) trivial ?_
  refine go_ok _ 20 _ _ ?_
  simp only [go_sem, Nat.reduceBEq, Tryd.results28]
theorem c29 (f : Nat) (hf : f < 5) : Spec Tryd.prog E 29 [I f] [] (fun v hp => v = I (hiL.getD f 0) ∧ hp = []) := by
  refine spec_of (keep := k29) (args' := [I f]) Tryd.func29 rfl Tryd.ntmps29 s29_ok (by simp) ⟨rfl, fun _ h => h⟩ (fun _ _ h => h) (go_ok _ 12 _ _ ?_)
  simp only [go_sem, s29, k29, Nat.reduceBEq]
  refine safe_oth (oth_bhi rfl) trivial ?_
  refine go_ok _ 2 _ _ ?_
  simp only [go_sem, Nat.reduceBEq]
  refine safe_oth (oth_ihi rfl hf rfl rfl) trivial ?_
  refine go_ok _ 20 _ _ ?_
  simp only [go_sem, Nat.reduceBEq, Tryd.results29]
end Go.SX

/- The document's number. -/
namespace Go.SX
open Go.Proofs
set_option maxRecDepth 1000000
variable {E : Env}

theorem digs_go : ∀ (s : List UInt8) (i : Nat), i ≤ Cron.digs s → (i < Cron.digs s ↔ i < s.length ∧ i < 2 ∧ Cron.digit (s.getD i default) = true)
  | [], i, h => by simp [Cron.digs]
  | [c], i, h => by
    cases hc : Cron.digit c <;> simp only [Cron.digs, hc] at h ⊢
    · obtain rfl : i = 0 := by simpa using h
      simp [hc]
    · have : i = 0 ∨ i = 1 := by simp at h; omega
      rcases this with rfl | rfl <;> simp [hc]
  | c :: d :: r, i, h => by
    cases hc : Cron.digit c <;> cases hd : Cron.digit d <;> simp only [Cron.digs, hc, hd] at h ⊢
    · obtain rfl : i = 0 := by simpa using h
      simp [hc]
    · obtain rfl : i = 0 := by simpa using h
      simp [hc]
    · have : i = 0 ∨ i = 1 := by simp at h; omega
      rcases this with rfl | rfl <;> simp [hc, hd]
    · have : i = 0 ∨ i = 1 ∨ i = 2 := by simp at h; omega
      rcases this with rfl | rfl | rfl <;> simp [hc, hd]
theorem u8_sub {c : UInt8} (h : Cron.digit c = true) : IntKind.u8.wrap ((c.toNat : Int) - 48) = (c.toNat : Int) - 48 := by
  have := (digit_iff c).1 h
  rw [IntKind.wrap_u8]; omega
theorem bt_at {x : List UInt8} {k : Nat} (_h : k < x.length) : bt ⟨x.toArray⟩ (k : Int) = ((x.getD k default).toNat : Int) := by
  unfold bt
  rw [Int.toNat_natCast]
  rfl
structure GW (s : List UInt8) where
  i : Nat
  h : i ≤ Cron.digs s
set_option maxHeartbeats 1000000 in
theorem c30 (x : List UInt8) (at_ : Nat) (ha : at_ ≤ x.length) (hx : x.length ≤ 2 ^ 60) : Spec Tryd.prog E 30 [T x, I at_] [] (fun v hp => v = .tup [I (Cron.numG (x.drop at_)), I (at_ + Cron.digs (x.drop at_) : Nat)] ∧ hp = []) := by
  have hd := Cron.digs_le (x.drop at_)
  rw [List.length_drop] at hd
  refine spec_of (keep := k30) (args' := [T x, I at_]) Tryd.func30 rfl Tryd.ntmps30 s30_ok (by simp) ⟨rfl, fun _ h => h⟩ (fun _ _ h => h) (go_ok _ 100 _ _ ?_)
  simp only [go_sem, s30, k30, Nat.reduceBEq, Nat.zero_add]
  refine safe_loop (ι := GW (x.drop at_)) (fun g => ⟨[(0, T x), (1, I at_), (4, I 0), (5, I 0), (6, I (Cron.val ((x.drop at_).take g.i) 0)), (7, I (at_ + g.i : Nat))], []⟩) (fun g => 2 - g.i) ⟨0, Nat.zero_le _⟩
    (Sub.front (X := []) (by simp [envSub, look, Cron.val]) rfl) ?_
  rintro ⟨i, hi⟩
  have hgo := digs_go _ i hi
  rw [List.length_drop] at hgo
  have hga : (x.drop at_).getD i default = x.getD (at_ + i) default := by
    rw [List.getD_eq_getElem?_getD, List.getElem?_drop, List.getD_eq_getElem?_getD]
  rw [hga] at hgo
  have hall := Cron.digs_all (x.drop at_)
  have hb := val_bound ((x.drop at_).take i) (by
    rw [List.all_eq_true] at hall ⊢
    intro c hc
    exact hall c ((List.take_subset_take_left _ hi) hc)) (by rw [List.length_take]; omega)
  have e0 : decide (((at_ + i : Nat) : Int) < (x.length : Int)) = decide (i < x.length - at_) := decide_eq_decide.2 (by omega)
  have e1 : decide (((at_ + i : Nat) : Int) < (at_ : Int) + 2) = decide (i < 2) := decide_eq_decide.2 (by omega)
  refine go_ok _ 100 _ _ ?_
  simp only [go_sem, e0, e1, List.size_toArray, Nat.reduceBEq, Tryd.results30]
  have hin : i < x.length - at_ → (0 : Int) ≤ ((at_ + i : Nat) : Int) ∧ ((at_ + i : Nat) : Int) < (x.length : Int) := fun h => by omega
  by_cases hlt : i < Cron.digs (x.drop at_)
  · obtain ⟨h1, h2, h3⟩ := hgo.1 hlt
    have h4 := (digit_iff _).1 h3
    have hbt := bt_at (x := x) (k := at_ + i) (by omega)
    rw [hbt, u8_sub h3]
    have q1 : decide (i < x.length - at_) = true := decide_eq_true h1
    have q2 : decide (i < 2) = true := decide_eq_true h2
    have q3 : decide ((48 : Int) ≤ ((x.getD (at_ + i) default).toNat : Int)) = true := decide_eq_true (by omega)
    have q4 : decide (((x.getD (at_ + i) default).toNat : Int) ≤ 57) = true := decide_eq_true (by omega)
    rw [q1, q2, q3, q4]
    refine ⟨fun _ => ⟨rfl, by simp only [inI64]; omega⟩, fun _ => rfl, fun _ => ⟨rfl, hin h1⟩, fun _ => ⟨rfl, hin h1⟩, fun _ => ⟨by simp only [inI64]; omega, hin h1, by simp only [inI64]; omega, by simp only [inI64]; omega, by simp only [inI64]; omega, ?_⟩, fun h => absurd h (by decide)⟩
    rw [← hga, ← val_snoc, ← take_snoc (by rw [List.length_drop]; omega)]
    exact safe_lend ⟨i + 1, hlt⟩ (by simp only; omega) (Sub.front (X := []) (by simp [envSub, look]; omega) rfl)
  · obtain rfl : i = Cron.digs (x.drop at_) := by omega
    have hend : (decide (Cron.digs (x.drop at_) < x.length - at_) && decide (Cron.digs (x.drop at_) < 2) && decide (48 ≤ bt ⟨x.toArray⟩ ((at_ + Cron.digs (x.drop at_) : Nat) : Int)) && decide (bt ⟨x.toArray⟩ ((at_ + Cron.digs (x.drop at_) : Nat) : Int) ≤ 57)) = false := by
      rw [← Bool.not_eq_true]
      intro hc
      simp only [Bool.and_eq_true, decide_eq_true_eq] at hc
      obtain ⟨⟨⟨h1, h2⟩, h3⟩, h4⟩ := hc
      rw [bt_at (by omega)] at h3 h4
      exact hlt (hgo.2 ⟨h1, h2, (digit_iff _).2 (by omega)⟩)
    refine ⟨fun h => ⟨h, by simp only [inI64]; omega⟩, fun h => by rw [h]; rfl, fun h => ⟨by rw [h]; rfl, ?_⟩, fun h => ⟨by rw [h]; rfl, ?_⟩, fun h => absurd (hend.symm.trans h) (by decide), fun _ => ⟨fun h => ?_, fun h => ?_⟩⟩
    · simp only [Bool.and_eq_true, decide_eq_true_eq] at h
      exact hin h.1
    · simp only [Bool.and_eq_true, decide_eq_true_eq] at h
      exact hin h.1.1
    · have h0 : Cron.digs (x.drop at_) = 0 := by have := of_decide_eq_true h; omega
      unfold Cron.numG
      rw [if_pos h0, h0]
      simp
    · have h0 : ¬ Cron.digs (x.drop at_) = 0 := by have := of_decide_eq_false h; omega
      unfold Cron.numG
      rw [if_neg h0]
end Go.SX

/- The document's field. -/
namespace Go.SX
open Go.Proofs
set_option maxRecDepth 1000000
variable {E : Env}

def refFV (o : Option Nat) (star : Bool) : SV := match o with
  | none => .tup [U 0, Bl false, Bl false]
  | some y => .tup [U y, Bl star, Bl true]
structure FW (x : List UInt8) (lo hi : Int) where
  at_ : Nat
  acc : Nat
  ha : at_ ≤ x.length
  hb : acc < 2 ^ 60
  h : Cron.items lo hi (Cron.splitA 44 (x.drop at_)) acc = Cron.items lo hi (Cron.splitA 44 x) 0
theorem fld_lo (f : Nat) (hf : f < 5) : 0 ≤ loL.getD f 0 ∧ loL.getD f 0 ≤ hiL.getD f 0 ∧ hiL.getD f 0 ≤ 59 := by
  have : f = 0 ∨ f = 1 ∨ f = 2 ∨ f = 3 ∨ f = 4 := by omega
  rcases this with rfl | rfl | rfl | rfl | rfl <;> decide
theorem str_eq (x y : List UInt8) : decide ((⟨x.toArray⟩ : ByteArray) = ⟨y.toArray⟩) = decide (x = y) := by
  refine decide_eq_decide.2 ⟨fun h => ?_, fun h => by rw [h]⟩
  have := congrArg (fun b : ByteArray => b.data.toList) h
  simpa using this
set_option maxHeartbeats 4000000 in
theorem c14 (x : List UInt8) (f : Nat) (hf : f < 5) (hx : x.length ≤ 2 ^ 60) : Spec Tryd.prog E 14 [T x, I f] [] (fun v hp => v = refFV (Cron.field x (loL.getD f 0) (hiL.getD f 0)) (decide (x = [42])) ∧ hp = []) := by
  obtain ⟨hlo, hlh, hhi⟩ := fld_lo f hf
  have S28 := c28 (E := E) f hf
  have S29 := c29 (E := E) f hf
  generalize loL.getD f 0 = lo' at *
  generalize hiL.getD f 0 = hi' at *
  obtain ⟨lo, rfl⟩ : ∃ n : Nat, lo' = n := ⟨lo'.toNat, by omega⟩
  obtain ⟨hi, rfl⟩ : ∃ n : Nat, hi' = n := ⟨hi'.toNat, by omega⟩
  have hh : hi ≤ 59 := by omega
  have hlh' : lo ≤ hi := by omega
  refine spec_of (keep := k14) (args' := [T x, I f]) Tryd.func14 rfl Tryd.ntmps14 s14_ok (by simp) ⟨rfl, fun _ h => h⟩ (fun _ _ h => h) (go_ok _ 100 _ _ ?_)
  have e0 := str_eq x [42]
  rcases d0 : decide (x = [42]) with _ | _
  · rw [d0] at e0
    have hfd : Cron.field x lo hi = Cron.items lo hi (Cron.splitA 44 x) 0 := by
      unfold Cron.field
      rw [if_neg (of_decide_eq_false d0)]
    rw [hfd]
    simp only [go_sem, s14, k14, e0, Nat.reduceBEq, Nat.zero_add]
    refine go_ok _ 100 _ _ ?_
    simp only [go_sem]
    refine safe_loop (ι := FW x lo hi) (fun g => ⟨[(0, T x), (1, I f), (4, U 0), (5, Bl false), (6, Bl false), (7, U g.acc), (8, I g.at_)], []⟩) (fun g => x.length + 1 - g.at_) ⟨0, 0, Nat.zero_le _, by decide, by rw [List.drop_zero]⟩
      (Sub.front (X := []) (by simp [envSub, look]) rfl) ?_
    rintro ⟨at_, acc, ha, hb, hit⟩
    refine go_ok _ 100 _ _ ?_
    simp only [go_sem, Nat.reduceBEq]
    refine (stp_call [] (args := [T x, I at_]) rfl rfl rfl ⟨_, Tryd.func30, rfl, rfl⟩ (c30 x at_ ha hx) rfl (fun _ h => h) rfl (fun _ _ h => h) ?_).safe trivial
    rintro v hp ⟨rfl, rfl⟩
    refine ⟨trivial, go_ok _ 12 _ _ ?_⟩
    simp only [go_sem, Nat.reduceBEq]
    obtain ⟨t, ht⟩ : ∃ t, x.drop at_ = t := ⟨_, rfl⟩
    rw [ht] at hit ⊢
    have htl : t.length = x.length - at_ := by rw [← ht, List.length_drop]
    have hdl := Cron.digs_le t
    have hdd : x.drop (at_ + Cron.digs t) = t.drop (Cron.digs t) := by rw [← ht, List.drop_drop]
    have hstep := Cron.refStep (t := t) (lo := lo) (hi := hi) (by omega) acc
    refine safe_code_mid (ι := {g : Int × Int × Nat // g = Cron.refG t ∧ g.2.2 ≤ t.length}) (fun g => ⟨[(0, T x), (1, I f), (4, U 0), (5, Bl false), (6, Bl false), (7, U acc), (8, I at_), (9, I g.1.1), (10, I (at_ + g.1.2.2 : Nat)), (11, I g.1.2.1)], []⟩) ?_ ?_
    rotate_left
    · intro rest
      rcases hd : t.drop (Cron.digs t) with _ | ⟨c, r⟩
      · have hk : Cron.digs t = t.length := by
          have := congrArg List.length hd
          rw [List.length_drop] at this
          simp at this
          omega
        have hg : Cron.refG t = (Cron.numG t, Cron.numG t, Cron.digs t) := by unfold Cron.refG; rw [hd]
        have e1 : decide (((at_ + Cron.digs t : Nat) : Int) < (x.length : Int)) = false := decide_eq_false (by omega)
        refine go_ok _ 15 _ _ ?_
        simp only [go_sem, List.size_toArray, e1, Nat.reduceBEq]
        refine Safe.sub ?_ (rest ⟨(Cron.numG t, Cron.numG t, Cron.digs t), hg.symm, by simp only; omega⟩)
        exact Sub.front (X := []) (by simp [envSub, look]) rfl
      · have hk : Cron.digs t < t.length := by
          have := congrArg List.length hd
          rw [List.length_drop] at this
          simp at this
          omega
        have hc : bt ⟨x.toArray⟩ ((at_ + Cron.digs t : Nat) : Int) = (c.toNat : Int) := by
          rw [bt_at (by omega)]
          have := congrArg List.head? (hdd.trans hd)
          rw [List.head?_drop, List.head?_cons] at this
          rw [List.getD_eq_getElem?_getD, this]
          rfl
        have e1 : decide (((at_ + Cron.digs t : Nat) : Int) < (x.length : Int)) = true := decide_eq_true (by omega)
        refine go_ok _ 15 _ _ ?_
        simp only [go_sem, List.size_toArray, e1, hc, Nat.reduceBEq]
        refine ⟨by omega, fun h45 => ?_, fun h45 => ?_⟩
        · have hc45 : c = 45 := by
            have := of_decide_eq_true h45
            exact UInt8.toNat_inj.1 (by simp; omega)
          have hr : x.drop (at_ + Cron.digs t + 1) = r := by
            rw [← List.drop_drop, hdd, hd]
            rfl
          have hrl := Cron.digs_le r
          have hrl2 : r.length + (Cron.digs t + 1) = t.length := by
            have := congrArg List.length hd
            rw [List.length_drop, List.length_cons] at this
            omega
          have hg : Cron.refG t = (Cron.numG t, Cron.numG r, Cron.digs t + 1 + Cron.digs r) := by
            unfold Cron.refG; rw [hd]; simp only; rw [if_pos hc45]
          refine go_ok _ 100 _ _ ?_
          simp only [go_sem, Nat.reduceBEq]
          refine ⟨by simp only [inI64]; omega, ?_⟩
          refine (stp_call [] (args := [T x, I (at_ + Cron.digs t + 1 : Nat)]) rfl rfl rfl ⟨_, Tryd.func30, rfl, rfl⟩ (c30 x (at_ + Cron.digs t + 1) (by omega) hx) rfl (fun _ h => h) rfl (fun _ _ h => h) ?_).safe trivial
          rw [hr]
          rintro v hp ⟨rfl, rfl⟩
          refine ⟨trivial, go_ok _ 6 _ _ ?_⟩
          simp only [go_sem, Nat.reduceBEq]
          refine Safe.sub ?_ (rest ⟨(Cron.numG t, Cron.numG r, Cron.digs t + 1 + Cron.digs r), hg.symm, by simp only; omega⟩)
          exact Sub.front (X := []) (by simp [envSub, look]; omega) rfl
        · have hc45 : c ≠ 45 := by
            rintro rfl
            exact absurd (of_decide_eq_false h45) (by decide)
          have hg : Cron.refG t = (Cron.numG t, Cron.numG t, Cron.digs t) := by
            unfold Cron.refG; rw [hd]; simp only; rw [if_neg hc45]
          refine Safe.sub ?_ (rest ⟨(Cron.numG t, Cron.numG t, Cron.digs t), hg.symm, by simp only; omega⟩)
          exact Sub.front (X := []) (by simp [envSub, look]) rfl
    · rintro ⟨⟨a, b, j⟩, hg, hj⟩
      refine go_ok _ 100 _ _ ?_
      simp only [go_sem, Nat.reduceBEq]
      refine (stp_call [] (args := [I f]) rfl rfl rfl ⟨_, Tryd.func28, rfl, rfl⟩ S28 rfl (fun _ h => h) rfl (fun _ _ h => h) ?_).safe trivial
      rintro v hp ⟨rfl, rfl⟩
      refine ⟨by simp only [recheck, go_sem], ?_⟩
      rw [← hg] at hstep
      simp only at hstep
      rcases q1 : decide (a < (lo : Int)) with _ | _
      · refine go_ok _ 100 _ _ ?_
        simp only [go_sem, q1, Nat.reduceBEq, Tryd.results14]
        refine ⟨?_, fun h => absurd h (by decide), rfl⟩
        refine Stp.safeOn ?_ trivial
        refine stp_call [] (args := [I f]) rfl rfl rfl ⟨_, Tryd.func29, rfl, rfl⟩ S29 rfl (fun _ h => unc_oks h) (by simp [callIdx]) (fun _ _ h => h) ?_
        rintro v hp ⟨rfl, rfl⟩
        refine ⟨trivial, ?_⟩
        have q1' : ¬ a < (lo : Int) := of_decide_eq_false q1
        rcases q2 : (decide ((hi : Int) < b) || decide (b < a)) with _ | _
        · obtain ⟨q3, q4⟩ := Bool.or_eq_false_iff.1 q2
          have q3' : ¬ (hi : Int) < b := of_decide_eq_false q3
          have q4' : ¬ b < a := of_decide_eq_false q4
          obtain ⟨hs1, hs2⟩ := hstep.2 (by omega)
          obtain ⟨a, rfl⟩ : ∃ n : Nat, a = n := ⟨a.toNat, by omega⟩
          obtain ⟨b, rfl⟩ : ∃ n : Nat, b = n := ⟨b.toNat, by omega⟩
          have hspl : Cron.span a b < 2 ^ 60 := Cron.span_lt (by omega)
          refine go_ok _ 100 _ _ ?_
          simp only [go_sem, q3, q4, List.cons_append, List.nil_append, Nat.reduceBEq, Tryd.results14]
          refine (stp_call [] (args := [I a, I b]) rfl rfl rfl ⟨_, Tryd.func27, rfl, rfl⟩ (c27 a b (by omega) (by omega)) rfl (fun _ h => h) rfl (fun _ _ h => h) ?_).safe trivial
          rintro v hp ⟨rfl, rfl⟩
          have hor := or_u64 (x := acc) (y := Cron.span a b) (by omega) (by omega)
          have hor2 : (acc ||| Cron.span a b) < 2 ^ 60 := Nat.or_lt_two_pow hb hspl
          refine ⟨trivial, ?_⟩
          have hj' : j ≤ t.length := hj
          rcases hd : t.drop j with _ | ⟨c, r⟩
          · have hk : j = t.length := by
              have := congrArg List.length hd
              rw [List.length_drop] at this
              simp at this
              omega
            have e1 : decide (((at_ + j : Nat) : Int) = (x.length : Int)) = true := decide_eq_true (by omega)
            refine go_ok _ 100 _ _ ?_
            simp only [go_sem, hor, List.size_toArray, e1, List.cons_append, List.nil_append, Nat.reduceBEq, Tryd.results14]
            rw [← hit, hs1 hd]
            exact ⟨rfl, fun h => absurd h (by decide)⟩
          · have hk : j < t.length := by
              have := congrArg List.length hd
              rw [List.length_drop] at this
              simp at this
              omega
            have hdd2 : x.drop (at_ + j) = t.drop j := by rw [← ht, List.drop_drop]
            have hc : bt ⟨x.toArray⟩ ((at_ + j : Nat) : Int) = (c.toNat : Int) := by
              rw [bt_at (by omega)]
              have := congrArg List.head? (hdd2.trans hd)
              rw [List.head?_drop, List.head?_cons] at this
              rw [List.getD_eq_getElem?_getD, this]
              rfl
            have hr : x.drop (at_ + j + 1) = r := by
              rw [← List.drop_drop, hdd2, hd]
              rfl
            have e1 : decide (((at_ + j : Nat) : Int) = (x.length : Int)) = false := decide_eq_false (by omega)
            refine go_ok _ 100 _ _ ?_
            simp only [go_sem, hor, hc, List.size_toArray, e1, List.cons_append, List.nil_append, Nat.reduceBEq, Tryd.results14]
            refine ⟨by omega, fun h => ?_, fun h => ?_⟩
            · have hc44 : c ≠ 44 := by
                rintro rfl
                exact absurd (of_decide_eq_true h) (by decide)
              rw [← hit, (hs2 c r hd).1 hc44]
              rfl
            · have hc44 : c = 44 := by
                have h' := of_decide_eq_false h
                exact UInt8.toNat_inj.1 (by simp; omega)
              refine ⟨by simp only [inI64]; omega, ?_⟩
              refine safe_lend ⟨at_ + j + 1, acc ||| Cron.span a b, by omega, hor2, ?_⟩ (by simp only; omega) (Sub.front (X := []) (by simp [envSub, look]) rfl)
              rw [hr, ← (hs2 c r hd).2 hc44, hit]
        · refine go_ok _ 100 _ _ ?_
          simp only [go_sem, List.cons_append, List.nil_append, Nat.reduceBEq, Tryd.results14]
          have hn : Cron.items lo hi (Cron.splitA 44 t) acc = none := hstep.1 (.inr (by simpa using q2))
          rw [← hit, hn]
          exact ⟨fun h => by rw [h]; rfl, fun _ => rfl, fun h => absurd (q2.symm.trans h) (by decide)⟩
      · refine go_ok _ 100 _ _ ?_
        simp only [go_sem, q1, Nat.reduceBEq, Tryd.results14]
        have hn : Cron.items lo hi (Cron.splitA 44 t) acc = none := hstep.1 (.inl (of_decide_eq_true q1))
        rw [← hit, hn]
        exact ⟨⟨fun h => absurd h (by decide), fun h => absurd h (by decide), rfl, fun h => absurd h (by decide)⟩, rfl⟩
  · have hx1 : x = [42] := of_decide_eq_true d0
    rw [d0] at e0
    have hfd : Cron.field x lo hi = some (Cron.span lo hi) := by
      unfold Cron.field
      rw [if_pos hx1]
    rw [hfd]
    simp only [go_sem, s14, k14, e0, Nat.reduceBEq, Nat.zero_add]
    refine ⟨?_, fun h => absurd h (by decide)⟩
    refine go_ok _ 100 _ _ ?_
    simp only [go_sem]
    refine (stp_call [] (args := [I f]) rfl rfl rfl ⟨_, Tryd.func28, rfl, rfl⟩ S28 rfl (fun _ h => h) rfl (fun _ _ h => h) ?_).safe trivial
    rintro v hp ⟨rfl, rfl⟩
    refine ⟨by simp only [recheck, go_sem], go_ok _ 100 _ _ ?_⟩
    simp only [go_sem, Nat.reduceBEq]
    refine (stp_call [] (args := [I f]) rfl rfl rfl ⟨_, Tryd.func29, rfl, rfl⟩ S29 rfl (fun _ h => h) rfl (fun _ _ h => h) ?_).safe trivial
    rintro v hp ⟨rfl, rfl⟩
    refine ⟨by simp only [recheck, go_sem], go_ok _ 100 _ _ ?_⟩
    simp only [go_sem]
    refine (stp_call [] (args := [I lo, I hi]) rfl rfl rfl ⟨_, Tryd.func27, rfl, rfl⟩ (c27 lo hi hlh' (by omega)) rfl (fun _ h => h) rfl (fun _ _ h => h) ?_).safe trivial
    rintro v hp ⟨rfl, rfl⟩
    refine ⟨trivial, go_ok _ 20 _ _ ?_⟩
    simp only [go_sem, Nat.reduceBEq, Tryd.results14, refFV]
end Go.SX
