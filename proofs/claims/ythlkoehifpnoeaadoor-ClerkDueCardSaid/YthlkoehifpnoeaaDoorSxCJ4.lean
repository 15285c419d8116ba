/- Joined texts: DX DY DZ EA. -/
import Derived.Test.YthlkoehifpnoeaaDoorSxCJ3
/- The lowest bit from a number on; the first minute of a day that is allowed. -/
namespace Go.SX
open Go.Proofs Go.RowKit
set_option maxRecDepth 1000000
variable {E : Env}

theorem ctz_bits {x : Nat} (h0 : x ≠ 0) (h : x < 2 ^ 64) : Lib.ctz 64 x < 64 ∧ x.testBit (Lib.ctz 64 x) = true ∧ ∀ j, j < Lib.ctz 64 x → x.testBit j = false := by
  unfold Lib.ctz
  rw [if_neg h0]
  obtain ⟨m, hm, hk⟩ := Lib.ctzFrom_spec 64 x (by omega) h
  refine ⟨hk, ?_, fun j hj => ?_⟩
  · have : x.testBit (Lib.ctzFrom 64 x) = (2 ^ Lib.ctzFrom 64 x * (2 * m + 1)).testBit (Lib.ctzFrom 64 x) := by rw [← hm]
    rw [this, Nat.testBit_two_pow_mul, Nat.sub_self, Nat.testBit_zero]
    simp
  · have : x.testBit j = (2 ^ Lib.ctzFrom 64 x * (2 * m + 1)).testBit j := by rw [← hm]
    rw [this, Nat.testBit_two_pow_mul, decide_eq_false (by omega), Bool.false_and]
/-- the bits from a number on -/
def above (b n : Nat) : Nat := (BitVec.ofNat 64 b &&& ~~~BitVec.ofNat 64 (2 ^ n - 1)).toNat
theorem above_lt (b n : Nat) : above b n < 2 ^ 64 := BitVec.isLt _
theorem above_bit {b : Nat} (n i : Nat) (hb : b < 2 ^ 64) : (above b n).testBit i = (decide (n ≤ i) && b.testBit i) := by
  by_cases hi : i < 64
  · unfold above
    rw [BitVec.testBit_toNat, BitVec.getLsbD_and, BitVec.getLsbD_not, BitVec.getLsbD_ofNat, BitVec.getLsbD_ofNat, Nat.testBit_two_pow_sub_one]
    simp only [decide_eq_true hi, Bool.true_and]
    rw [Bool.and_comm, ← decide_not]
    simp only [Nat.not_lt]
  · have h1 : (above b n).testBit i = false := Nat.testBit_lt_two_pow (Nat.lt_of_lt_of_le (above_lt b n) (Nat.pow_le_pow_right (by decide) (by omega)))
    have h2 : b.testBit i = false := Nat.testBit_lt_two_pow (Nat.lt_of_lt_of_le hb (Nat.pow_le_pow_right (by decide) (by omega)))
    rw [h1, h2, Bool.and_false]
theorem above_eq {b n : Nat} (hn : n < 64) : bitsI .andNot .u64 (b : Int) (IntKind.u64.wrap (shlI .u64 1 (n : Int) - 1)) = (above b n : Int) := by
  have hp : 2 ^ n < 2 ^ 64 := Nat.pow_lt_pow_right (by decide) hn
  have h1p : 0 < 2 ^ n := Nat.pow_pos (by decide)
  have hs : shlI .u64 1 (n : Int) = ((2 ^ n : Nat) : Int) := by
    unfold shlI
    have hmin : min (n : Int).toNat IntKind.u64.bits = n := by
      show min (n : Int).toNat 64 = n
      omega
    rw [hmin, Int.one_mul, show ((2 : Int) ^ n) = ((2 ^ n : Nat) : Int) by norm_cast, wrap_nat hp]
  rw [hs, show ((2 ^ n : Nat) : Int) - 1 = ((2 ^ n - 1 : Nat) : Int) by omega, wrap_nat (by omega)]
  show IntKind.u64.wrap ((BitVec.ofInt IntKind.u64.bits (b : Int) &&& ~~~BitVec.ofInt IntKind.u64.bits ((2 ^ n - 1 : Nat) : Int)).toNat : Int) = _
  have : (BitVec.ofInt IntKind.u64.bits (b : Int) &&& ~~~BitVec.ofInt IntKind.u64.bits ((2 ^ n - 1 : Nat) : Int)).toNat = above b n := by
    unfold above
    show (BitVec.ofInt 64 (b : Int) &&& ~~~BitVec.ofInt 64 ((2 ^ n - 1 : Nat) : Int)).toNat = _
    rw [BitVec.ofInt_natCast, BitVec.ofInt_natCast]
  rw [this]
  exact wrap_nat (above_lt b n)
theorem low_above {b n : Nat} (hb : b < 2 ^ 64) : Cron.low b n = if above b n = 0 then -1 else (Lib.ctz 64 (above b n) : Int) := by
  rcases Cron.low_spec (n := n) hb with ⟨h1, h2⟩ | ⟨i, h1, h2, h3, h4, h5⟩
  · rw [h1, if_pos]
    refine Nat.eq_of_testBit_eq fun i => ?_
    rw [above_bit n i hb, Nat.zero_testBit]
    by_cases hi : n ≤ i
    · rw [h2 i hi, Bool.and_false]
    · rw [decide_eq_false hi, Bool.false_and]
  · have hi : (above b n).testBit i = true := by rw [above_bit n i hb, h4, decide_eq_true h2]; rfl
    have hne : above b n ≠ 0 := fun e => by rw [e, Nat.zero_testBit] at hi; cases hi
    rw [h1, if_neg hne]
    obtain ⟨k1, k2, k3⟩ := ctz_bits hne (above_lt b n)
    obtain ⟨c, hc⟩ : ∃ c, Lib.ctz 64 (above b n) = c := ⟨_, rfl⟩
    rw [hc] at k1 k2 k3 ⊢
    have hcb := k2
    rw [above_bit n c hb, Bool.and_eq_true, decide_eq_true_eq] at hcb
    rcases Nat.lt_trichotomy c i with q | q | q
    · rw [h5 c hcb.1 q] at hcb; cases hcb.2
    · rw [q]
    · rw [k3 i q] at hi; cases hi
theorem c44 (b n : Nat) (hb : b < 2 ^ 64) (hn : n < 64) : Spec Tryd.prog E 44 [U b, I n] [tabC] (fun v hp => v = I (Cron.low b n) ∧ hp = [tabC]) := by
  refine spec_of (keep := k44) (args' := [U b, I n]) Tryd.func44 rfl Tryd.ntmps44 s44_ok (by simp) ⟨rfl, fun _ h => h⟩ (fun _ _ h => h) (go_ok _ 100 _ _ ?_)
  simp only [go_sem, s44, k44, above_eq hn, Nat.reduceBEq, Nat.zero_add, Tryd.results44]
  rw [low_above hb]
  refine ⟨by omega, fun h => ?_, fun h => ?_⟩
  · have := of_decide_eq_true h
    rw [if_pos (by omega)]
  · have := of_decide_eq_false h
    rw [if_neg (by omega)]
    refine (stp_call [0] (args := [U (above b n)]) rfl rfl rfl ⟨_, Tryd.func53, rfl, rfl⟩ (c53 (above b n) (above_lt b n)) rfl (fun _ h => h) rfl (fun _ _ h => h) ?_).safe trivial
    rintro v hp ⟨rfl, rfl⟩
    refine ⟨trivial, go_ok _ 100 _ _ ?_⟩
    simp only [go_sem, Nat.reduceBEq, Tryd.results44]
theorem and_full {x n : Nat} (h : x < 2 ^ n) (hn : n ≤ 63) : bitsI .and .u64 (x : Int) ((Cron.span 0 ((n - 1 : Nat) : Int) : Nat) : Int) = x ∨ n = 0 := by
  by_cases h0 : n = 0
  · exact .inr h0
  refine .inl ?_
  have hs : Cron.span 0 ((n - 1 : Nat) : Int) = 2 ^ n - 1 := by
    have := Cron.span_nat 0 (n - 1) (Nat.zero_le _)
    rw [show ((0 : Nat) : Int) = 0 from rfl, show n - 1 + 1 = n by omega] at this
    rw [this, Nat.pow_zero]
  have hp : 2 ^ n < 2 ^ 64 := Nat.pow_lt_pow_right (by decide) (by omega)
  rw [hs, and_u64 (by omega) (by omega), Nat.and_two_pow_sub_one_of_lt_two_pow h]
set_option maxHeartbeats 4000000 in
theorem c23 (e : Cron.Ex) (f : Nat) (hf : f < 1440) (hh : e.ho < 2 ^ 24) (hm : e.mi < 2 ^ 60) : Spec Tryd.prog E 23 [exV e, I f] [tabC] (fun v hp => v = I (e.early f) ∧ hp = [tabC]) := by
  refine Spec.leave (Post := fun v hp => v = I (e.early f) ∧ ∃ X, hp = tabC :: X) ?_ (fun v hp h => by
    obtain ⟨h1, X, h2⟩ := h
    exact ⟨[tabC], X, h2, h1, rfl⟩)
  have a1 := (and_full hh (by decide)).resolve_right (by decide)
  have a2 := (and_full hm (by decide)).resolve_right (by decide)
  rw [show ((24 - 1 : Nat) : Int) = 23 from rfl] at a1
  rw [show ((60 - 1 : Nat) : Int) = 59 from rfl] at a2
  have S1 := c39 (E := E) 0 23 (by decide) (by decide)
  have S2 := c39 (E := E) 0 59 (by decide) (by decide)
  rw [show ((0 : Nat) : Int) = 0 from rfl, show ((23 : Nat) : Int) = 23 from rfl] at S1
  rw [show ((0 : Nat) : Int) = 0 from rfl, show ((59 : Nat) : Int) = 59 from rfl] at S2
  have q1 : (f : Int).tdiv 60 = ((f / 60 : Nat) : Int) := by rw [Int.tdiv_eq_ediv_of_nonneg (by omega)]; omega
  have q2 : (f : Int).tmod 60 = ((f % 60 : Nat) : Int) := by rw [Int.tmod_eq_emod_of_nonneg (by omega)]; omega
  refine spec_of (keep := k23) (args' := [exV e, I f]) Tryd.func23 rfl Tryd.ntmps23 s23_ok (by simp) ⟨rfl, fun _ h => h⟩ (fun _ _ h => h) (go_ok _ 100 _ _ ?_)
  simp only [go_sem, s23, k23, exV, Nat.reduceBEq, Nat.zero_add]
  intro b
  refine (stp_call [] (args := [I 0, I 23]) rfl rfl rfl ⟨_, Tryd.func39, rfl, rfl⟩ S1 rfl (fun _ h => h) rfl (fun _ _ h => h) ?_).safe trivial
  rintro v hp ⟨rfl, rfl⟩
  refine ⟨by simp only [recheck, recheck1, go_sem, Nat.reduceBEq, Nat.zero_add], go_ok _ 100 _ _ ?_⟩
  simp only [go_sem, a1, Nat.reduceBEq]
  refine (stp_call [] (args := [I 0, I 59]) rfl rfl rfl ⟨_, Tryd.func39, rfl, rfl⟩ S2 rfl (fun _ h => h) rfl (fun _ _ h => h) ?_).safe trivial
  rintro v hp ⟨rfl, rfl⟩
  refine ⟨by simp only [recheck, recheck1, go_sem, a1, Nat.reduceBEq, Nat.zero_add], go_ok _ 100 _ _ ?_⟩
  simp only [go_sem, a2, q1, Nat.reduceBEq, Nat.zero_add]
  refine ⟨⟨by decide, by simp only [inI64]; omega⟩, ?_⟩
  have hh64 : e.ho < 2 ^ 64 := Nat.lt_of_lt_of_le hh (by decide)
  have hm64 : e.mi < 2 ^ 64 := Nat.lt_of_lt_of_le hm (by decide)
  have lb : ∀ b n, b < 2 ^ 64 → -1 ≤ Cron.low b n ∧ Cron.low b n < 64 := fun b n hb => by
    rcases Cron.low_spec (n := n) hb with ⟨h1, _⟩ | ⟨i, h1, _, h3, _⟩ <;> omega
  refine (stp_call [0] (args := [U e.ho, I (f / 60 : Nat)]) rfl rfl rfl ⟨_, Tryd.func44, rfl, rfl⟩ (c44 e.ho (f / 60) hh64 (by omega)) rfl (fun _ h => h) rfl (fun _ _ h => h) ?_).safe trivial
  rintro v hp ⟨rfl, rfl⟩
  have hE : e.early f = (if Cron.low e.ho (f / 60) = (f / 60 : Nat) then (if 0 ≤ Cron.low e.mi (f % 60) then 60 * Cron.low e.ho (f / 60) + Cron.low e.mi (f % 60) else if Cron.low e.ho (f / 60 + 1) < 0 ∨ Cron.low e.mi 0 < 0 then -1 else 60 * Cron.low e.ho (f / 60 + 1) + Cron.low e.mi 0)
      else if Cron.low e.ho (f / 60) < 0 ∨ Cron.low e.mi 0 < 0 then -1 else 60 * Cron.low e.ho (f / 60) + Cron.low e.mi 0) := rfl
  rw [hE]
  have b1 := lb e.ho (f / 60) hh64
  have b2 := lb e.mi (f % 60) hm64
  have b3 := lb e.ho (f / 60 + 1) hh64
  have b4 := lb e.mi 0 hm64
  have S44a := c44 (E := E) e.mi (f % 60) hm64 (by omega)
  have S44b := c44 (E := E) e.ho (f / 60 + 1) hh64 (by omega)
  have S44c := c44 (E := E) e.mi 0 hm64 (by omega)
  rw [show ((0 : Nat) : Int) = 0 from rfl] at S44c
  generalize Cron.low e.ho (f / 60) = l1 at *
  generalize Cron.low e.mi (f % 60) = l2 at *
  generalize Cron.low e.ho (f / 60 + 1) = l3 at *
  generalize Cron.low e.mi 0 = l4 at *
  refine ⟨trivial, go_ok _ 100 _ _ ?_⟩
  simp only [go_sem, q1, q2, Nat.reduceBEq]
  refine ⟨⟨by decide, by simp only [inI64]; omega⟩, fun hc => ⟨by decide, ?_⟩, fun hc => ?_⟩
  · have hl1 := of_decide_eq_true hc
    rw [if_pos hl1]
    refine (stp_call [0] (args := [U e.mi, I (f % 60 : Nat)]) rfl rfl rfl ⟨_, Tryd.func44, rfl, rfl⟩ S44a rfl (fun _ h => h) rfl (fun _ _ h => h) ?_).safe trivial
    rintro v hp ⟨rfl, rfl⟩
    refine ⟨trivial, go_ok _ 100 _ _ ?_⟩
    simp only [go_sem, Nat.reduceBEq, Tryd.results23]
    refine ⟨fun h2 => ⟨by simp only [inI64]; omega, by simp only [inI64]; omega, ?_⟩, fun h2 => ⟨by simp only [inI64]; omega, ?_⟩⟩
    · rw [if_pos (of_decide_eq_true h2)]
      exact ⟨rfl, _, rfl⟩
    rw [if_neg (of_decide_eq_false h2)]
    rw [show ((f / 60 + 1 : Nat) : Int) = l1 + 1 by omega] at S44b
    refine (stp_call [0] (args := [U e.ho, I (l1 + 1)]) rfl rfl rfl ⟨_, Tryd.func44, rfl, rfl⟩ S44b rfl (fun _ h => h) rfl (fun _ _ h => h) ?_).safe trivial
    rintro v hp ⟨rfl, rfl⟩
    refine ⟨trivial, go_ok _ 100 _ _ ?_⟩
    simp only [go_sem, Nat.reduceBEq]
    refine (stp_call [0] (args := [U e.mi, I 0]) rfl rfl rfl ⟨_, Tryd.func44, rfl, rfl⟩ S44c rfl (fun _ h => h) rfl (fun _ _ h => h) ?_).safe trivial
    rintro v hp ⟨rfl, rfl⟩
    refine ⟨trivial, go_ok _ 100 _ _ ?_⟩
    simp only [go_sem, Nat.reduceBEq, Tryd.results23]
    refine ⟨fun h => ?_, fun h => ⟨by simp only [inI64]; omega, by simp only [inI64]; omega, ?_⟩⟩
    · rw [Bool.or_eq_true, decide_eq_true_eq, decide_eq_true_eq] at h
      rw [if_pos h]
      exact ⟨rfl, _, rfl⟩
    · rw [Bool.or_eq_false_iff, decide_eq_false_iff_not, decide_eq_false_iff_not] at h
      rw [if_neg (by omega)]
      exact ⟨rfl, _, rfl⟩
  · rw [if_neg (of_decide_eq_false hc)]
    refine (stp_call [0] (args := [U e.mi, I 0]) rfl rfl rfl ⟨_, Tryd.func44, rfl, rfl⟩ S44c rfl (fun _ h => h) rfl (fun _ _ h => h) ?_).safe trivial
    rintro v hp ⟨rfl, rfl⟩
    refine ⟨trivial, go_ok _ 100 _ _ ?_⟩
    simp only [go_sem, Nat.reduceBEq, Tryd.results23]
    refine ⟨fun h => ?_, fun h => ⟨by simp only [inI64]; omega, by simp only [inI64]; omega, ?_⟩⟩
    · rw [Bool.or_eq_true, decide_eq_true_eq, decide_eq_true_eq] at h
      rw [if_pos h]
      exact ⟨rfl, _, rfl⟩
    · rw [Bool.or_eq_false_iff, decide_eq_false_iff_not, decide_eq_false_iff_not] at h
      rw [if_neg (by omega)]
      exact ⟨rfl, _, rfl⟩
end Go.SX

/- The next minute that is allowed: the program's. -/
namespace Go.SX
open Go.Proofs Go.RowKit
set_option maxRecDepth 1000000
variable {E : Env}

noncomputable def nextV (e : Cron.Ex) (after : Int) : SV :=
  if Cron.last < after then .tup [I 0, I 1] else match e.find 4216320 (after + 1) with
    | some m => .tup [I m, I 0]
    | none => .tup [I 0, I 28]
structure NxW (e : Cron.Ex) (after : Int) where
  m : Int
  h1 : after + 1 ≤ m
  h2 : m ≤ after + 4217760
  h3 : ∀ k, after + 1 ≤ k → k < m → k ≤ after + 4216320 → e.hit k = false
set_option maxHeartbeats 8000000 in
theorem c11 (e : Cron.Ex) (after : Int) (ha : -1 ≤ after) (hh : e.ho < 2 ^ 24) (hm : e.mi < 2 ^ 60) : Spec Tryd.prog E 11 [exV e, I after] [tabC] (fun v hp => v = nextV e after ∧ hp = [tabC]) := by
  refine Spec.leave (Post := fun v hp => v = nextV e after ∧ ∃ X, hp = tabC :: X) ?_ (fun v hp h => by
    obtain ⟨h1, X, h2⟩ := h
    exact ⟨[tabC], X, h2, h1, rfl⟩)
  have hf : Cron.first = -1035593280 := by decide
  have hl : Cron.last = 4223371679 := by decide
  have hx : exV e = .agg [U e.mi, U e.ho, U e.da, U e.mo, U e.we, Bl e.ad, Bl e.aw] := rfl
  refine spec_of (keep := k11) (args' := [exV e, I after]) Tryd.func11 rfl Tryd.ntmps11 s11_ok (by simp) ⟨rfl, fun _ h => h⟩ (fun _ _ h => h) (go_ok _ 100 _ _ ?_)
  simp only [go_sem, s11, k11, exV, Nat.reduceBEq, Nat.zero_add]
  intro b
  refine (stp_call [] (args := [I after]) rfl rfl rfl ⟨_, Tryd.func22, rfl, rfl⟩ (c22 after) rfl (fun _ h => h) rfl (fun _ _ h => h) ?_).safe trivial
  rintro v hp ⟨hv, rfl⟩
  unfold OfPost at hv
  by_cases hin : Cron.first ≤ after ∧ after ≤ Cron.last
  rotate_left
  · rw [if_neg hin] at hv
    subst hv
    refine ⟨trivial, go_ok _ 100 _ _ ?_⟩
    simp only [go_sem, dateV, Nat.reduceBEq, Nat.reduceAdd, Nat.zero_add, Tryd.results11]
    refine fun b2 => ⟨fun _ => ?_, fun h => absurd h (by decide)⟩
    unfold nextV
    rw [if_pos (by omega)]
    exact ⟨rfl, _, rfl⟩
  have hnx : nextV e after = match e.find 4216320 (after + 1) with | some m => .tup [I m, I 0] | none => .tup [I 0, I 28] := by
    unfold nextV
    rw [if_neg (by omega)]
  rw [if_pos hin] at hv
  obtain ⟨y0, m0, d0, hd0, rfl⟩ := hv
  refine ⟨trivial, go_ok _ 100 _ _ ?_⟩
  simp only [go_sem, dateV, Nat.reduceBEq, Nat.reduceAdd, Nat.zero_add, Tryd.results11]
  refine fun b2 => ⟨fun h => absurd h (by decide), fun _ => ⟨by simp only [inI64]; omega, ?_⟩⟩
  have hexit : ∀ m, (∀ k, after + 1 ≤ k → k < m → k ≤ after + 4216320 → e.hit k = false) → (after + 4216320 < m ∨ Cron.last < m) → nextV e after = .tup [I 0, I 28] := fun m h h2 => by
    rw [hnx, Cron.Ex.find_none fun k k1 k2 => ?_]
    by_cases q : k < m
    · exact h k k1 q (by omega)
    · exact Cron.Ex.hit_late (by omega)
  refine safe_loop (ι := NxW e after) (fun g => ⟨[(1, I after), (2, .ptr 1 b 0), (4, I 0), (5, I 0), (8, .fn (.func 23) [exV e] []), (9, I g.m)], [tabC, .cells b 38 [U e.mi, U e.ho, U e.da, U e.mo, U e.we, Bl e.ad, Bl e.aw]]⟩)
    (fun g => (after + 4217761 - g.m).toNat) ⟨after + 1, Int.le_refl _, by omega, fun k h1 h2 _ => absurd h2 (by omega)⟩ (Sub.front (X := [_]) (by simp [envSub, look, exV]) rfl) ?_
  rintro ⟨m, hm1, hm2, hm3⟩
  refine go_ok _ 100 _ _ ?_
  simp only [go_sem, Nat.reduceBEq, Tryd.results11]
  refine ⟨by simp only [inI64]; omega, fun hc => ?_, fun hc => ?_⟩
  rotate_left
  · have := of_decide_eq_false hc
    exact ⟨(hexit m hm3 (.inl (by omega))).symm, _, rfl⟩
  have hle := of_decide_eq_true hc
  refine (stp_call [] (args := [I m]) rfl rfl rfl ⟨_, Tryd.func22, rfl, rfl⟩ (c22 m) rfl (fun _ h => h) rfl (fun _ _ h => h) ?_).safe trivial
  rintro v hp ⟨hv, rfl⟩
  unfold OfPost at hv
  by_cases hinm : Cron.first ≤ m ∧ m ≤ Cron.last
  rotate_left
  · rw [if_neg hinm] at hv
    subst hv
    refine ⟨trivial, go_ok _ 100 _ _ ?_⟩
    simp only [go_sem, dateV, Nat.reduceBEq, Nat.reduceAdd, Nat.zero_add, Tryd.results11]
    refine fun b3 => ⟨fun _ => ?_, fun h => absurd h (by decide)⟩
    exact ⟨(hexit m hm3 (.inr (by omega))).symm, _, rfl⟩
  rw [if_pos hinm] at hv
  obtain ⟨y, mo, d, hd, rfl⟩ := hv
  obtain ⟨q, hq⟩ : ∃ q, m / 1440 = q := ⟨_, rfl⟩
  obtain ⟨r, hr⟩ : ∃ r : Nat, m - 1440 * q = r := ⟨(m - 1440 * q).toNat, by omega⟩
  have hr1 : r < 1440 := by omega
  have hmq : m = 1440 * q + r := by omega
  have hdm := Cron.dayOf_mul q r (by omega) (by omega)
  rw [← hmq] at hdm
  have hday := Cron.Ex.day_eq (e := e) hd
  rw [hdm.1] at hday
  obtain ⟨w, hw⟩ : ∃ n : Nat, (Cron.dayOf m + 1) % 7 = n := ⟨((Cron.dayOf m + 1) % 7).toNat, by omega⟩
  have hw7 : w < 7 := by omega
  have hmd := Cal.mdays_pos (y := y) hd.m1 hd.m2
  have hd1 := hd.d1
  have hd2 := hd.d2
  have hmo2 := hd.m2
  obtain ⟨d, rfl⟩ : ∃ n : Nat, d = n := ⟨d.toNat, by omega⟩
  rw [← hdm.1, hw, Int.toNat_natCast, Int.toNat_natCast, hdm.1] at hday
  obtain ⟨st1, st2⟩ := Cron.Ex.day_step (e := e) (q := q) hr1 hh hm (by omega) (by omega)
  rw [← hmq] at st1 st2
  have S25 := c25 (E := E) e y mo d w (Cron.restOf m / 60) (Cron.restOf m % 60) (by omega) (by omega) (by omega)
  rw [← hday] at S25
  have S24 := c24 (E := E) m (by omega) (by omega)
  rw [hq] at S24
  rw [hw]
  refine ⟨trivial, go_ok _ 100 _ _ ?_⟩
  simp only [go_sem, dateV, Nat.reduceBEq, Nat.reduceAdd, Nat.zero_add, Tryd.results11]
  refine fun b3 => ⟨fun h => absurd h (by decide), fun _ => ?_⟩
  refine (stp_call [] (args := [exV e, dateV y mo d (Cron.restOf m / 60) (Cron.restOf m % 60) w]) rfl rfl rfl ⟨_, Tryd.func25, rfl, rfl⟩ S25 (by rw [hx]; rfl) (fun _ h => by rw [hx]; exact h) (by simp [callIdx]) (fun _ _ h => h) ?_).safe trivial
  rintro v hp ⟨rfl, rfl⟩
  refine ⟨trivial, ?_⟩
  rcases hdy : e.day (q + 719162) with _ | _
  · refine go_ok _ 100 _ _ ?_
    simp only [go_sem, Nat.reduceBEq]
    refine ⟨?_, fun h => absurd h (by decide)⟩
    refine (stp_call [] (args := [I m]) rfl rfl rfl ⟨_, Tryd.func24, rfl, rfl⟩ S24 rfl (fun _ h => h) rfl (fun _ _ h => h) ?_).safe trivial
    rintro v hp ⟨rfl, rfl⟩
    refine ⟨trivial, go_ok _ 100 _ _ ?_⟩
    simp only [go_sem, Nat.reduceBEq]
    refine ⟨by simp only [inI64]; omega, ?_⟩
    refine safe_lend ⟨1440 * q + 1440, by omega, by omega, fun k kk1 kk2 kk3 => ?_⟩ (by simp only; omega) (Sub.front (X := [_]) (by simp [envSub, look, exV]) rfl)
    by_cases qq : k < m
    · exact hm3 k kk1 qq kk3
    · exact st1 (.inl hdy) k (by omega) kk2
  have S23 := c23 (E := E) e r hr1 hh hm
  refine go_ok _ 100 _ _ ?_
  simp only [go_sem, Nat.reduceBEq]
  refine (stp_call [] (args := [I m]) rfl rfl rfl ⟨_, Tryd.func24, rfl, rfl⟩ S24 rfl (fun _ h => h) rfl (fun _ _ h => h) ?_).safe trivial
  rintro v hp ⟨rfl, rfl⟩
  refine ⟨trivial, go_ok _ 100 _ _ ?_⟩
  simp only [go_sem, hr, Nat.reduceBEq]
  refine ⟨by simp only [inI64]; omega, ?_⟩
  refine (stp_call [0] (args := [exV e, I r]) rfl rfl rfl ⟨_, Tryd.func23, rfl, rfl⟩ S23 rfl (fun _ h => h) rfl (fun _ _ h => h) ?_).safe trivial
  rintro v hp ⟨rfl, rfl⟩
  refine ⟨trivial, go_ok _ 100 _ _ ?_⟩
  simp only [go_sem, Nat.reduceBEq]
  rcases Cron.Ex.early_spec (e := e) (f := r) hh hm with ⟨k1, _⟩ | ⟨x, k1, _⟩
  · rw [k1]
    refine ⟨fun h => absurd h (by decide), fun _ => ?_⟩
    refine (stp_call [] (args := [I m]) rfl rfl rfl ⟨_, Tryd.func24, rfl, rfl⟩ S24 rfl (fun _ h => h) rfl (fun _ _ h => h) ?_).safe trivial
    rintro v hp ⟨rfl, rfl⟩
    refine ⟨trivial, go_ok _ 100 _ _ ?_⟩
    simp only [go_sem, Nat.reduceBEq]
    refine ⟨by simp only [inI64]; omega, ?_⟩
    refine safe_lend ⟨1440 * q + 1440, by omega, by omega, fun k kk1 kk2 kk3 => ?_⟩ (by simp only; omega) (Sub.front (X := [_]) (by simp [envSub, look, exV]) rfl)
    by_cases qq : k < m
    · exact hm3 k kk1 qq kk3
    · exact st1 (.inr k1) k (by omega) kk2
  · obtain ⟨x1, x2, x3, x4⟩ := st2 hdy x k1
    rw [k1]
    refine ⟨fun _ => ?_, fun h => absurd (of_decide_eq_false h) (by omega)⟩
    refine (stp_call [] (args := [I m]) rfl rfl rfl ⟨_, Tryd.func24, rfl, rfl⟩ S24 rfl (fun _ h => h) rfl (fun _ _ h => h) ?_).safe trivial
    rintro v hp ⟨rfl, rfl⟩
    refine ⟨trivial, go_ok _ 100 _ _ ?_⟩
    simp only [go_sem, Nat.reduceBEq, Tryd.results11]
    refine ⟨by simp only [inI64]; omega, by simp only [inI64]; omega, fun hc2 => ?_, fun hc2 => ?_⟩
    · have hle2 := of_decide_eq_true hc2
      refine ⟨?_, _, rfl⟩
      rw [hnx, Cron.Ex.find_some (x := 1440 * q + x) (by omega) (by omega) x3 fun k q1 q2 => ?_]
      by_cases qq : k < m
      · exact hm3 k q1 qq (by omega)
      · exact x4 k (by omega) q2
    · have hgt := of_decide_eq_false hc2
      refine (stp_call [] (args := [I m]) rfl rfl rfl ⟨_, Tryd.func24, rfl, rfl⟩ S24 rfl (fun _ h => h) rfl (fun _ _ h => h) ?_).safe trivial
      rintro v hp ⟨rfl, rfl⟩
      refine ⟨trivial, go_ok _ 100 _ _ ?_⟩
      simp only [go_sem, Nat.reduceBEq]
      refine ⟨by simp only [inI64]; omega, ?_⟩
      refine safe_lend ⟨1440 * q + 1440, by omega, by omega, fun k kk1 kk2 kk3 => ?_⟩ (by simp only; omega) (Sub.front (X := [_]) (by simp [envSub, look, exV]) rfl)
      by_cases qq : k < m
      · exact hm3 k kk1 qq kk3
      · exact x4 k (by omega) (by omega)
end Go.SX

/- Names, items, fields: the program's. -/
namespace Go.SX
open Go.Proofs Go.RowKit
set_option maxRecDepth 1000000
variable {E : Env}

theorem nmc_hi {i : Nat} {c : UInt8} (h : 128 ≤ c.toNat) : nmc i c = false := by
  unfold nmc
  rw [← Bool.not_eq_true]
  simp only [Bool.or_eq_true, Bool.and_eq_true, decide_eq_true_eq]
  omega
set_option maxHeartbeats 4000000 in
theorem c18 (x : List UInt8) : Spec Tryd.prog E 18 [T x] [] (fun v hp => v = Bl (nameA x) ∧ hp = []) := by
  refine Spec.leave (Post := fun v hp => v = Bl (nameA x)) ?_ (fun v hp h => ⟨[], hp, rfl, h, rfl⟩)
  refine spec_of (keep := k18) (args' := [T x]) Tryd.func18 rfl Tryd.ntmps18 s18_ok (by simp) ⟨rfl, fun _ h => h⟩ (fun _ _ h => h) (go_ok _ 100 _ _ ?_)
  simp only [go_sem, s18, k18, Nat.reduceBEq]
  refine (stp_strrange (mo := .t 5) (s := ⟨x.toArray⟩) rfl Tryd.underlying9 rfl fun r => ?_).safeE rfl
  refine ⟨trivial, go_ok _ 100 _ _ ?_⟩
  simp only [go_sem, Nat.reduceBEq]
  refine safe_loop (ι := NmW x) (fun g => ⟨[(0, T x), (2, Bl false), (6, .val (.pointer (some ⟨r, 0, none⟩)))], [strI r ⟨x.toArray⟩ g.i]⟩) (fun g => x.length - g.i) ⟨0, Nat.zero_le _, by rw [List.drop_zero]⟩
    (Sub.front (X := []) (by simp [envSub, look]) rfl) ?_
  rintro ⟨p, hp, h⟩
  refine go_ok _ 100 _ _ ?_
  simp only [go_sem]
  refine (stp_strnext (ito := .t 6) (r := r) (s := ⟨x.toArray⟩) (pos := p) 0 rfl rfl rfl (fun hge => ?_) (fun hlt => ?_)).safeE rfl
  · refine ⟨trivial, go_ok _ 100 _ _ ?_⟩
    have hpl : p = x.length := by have : x.toArray.size ≤ p := hge; simp at this; omega
    have hall : nmsA 0 x = true := by
      rw [← h, List.drop_eq_nil_of_le (by omega)]
      rfl
    have hd : (decide (1 ≤ (x.length : Int)) && decide ((x.length : Int) ≤ 30)) = nameA x := by
      unfold nameA
      rw [hall, Bool.true_and, Bool.eq_iff_iff]
      simp only [Bool.and_eq_true, decide_eq_true_eq]
      omega
    simp only [go_sem, List.size_toArray, Nat.reduceBEq, Tryd.results18]
    rw [hd]
  · have hlt' : p < x.length := by have : p < x.toArray.size := hlt; simpa using this
    have hnx := nmsA_next hlt'
    refine ⟨trivial, go_ok _ 100 _ _ ?_⟩
    simp only [go_sem, Nat.reduceBEq, Tryd.results18]
    rcases Nat.lt_or_ge (x.getD p default).toNat 128 with hlo | hhi
    · rw [decode_lo hlo]
      have hq := nmc_eq p (x.getD p default)
      dsimp only
      rw [hq]
      generalize (decide ((((x.getD p default).toNat : Nat) : Int) < 97) || decide (122 < (((x.getD p default).toNat : Nat) : Int))) = b1
      generalize decide ((((x.getD p default).toNat : Nat) : Int) < 48) = b2
      generalize decide (57 < (((x.getD p default).toNat : Nat) : Int)) = b3
      generalize decide ((((x.getD p default).toNat : Nat) : Int) ≠ 45) = b4
      refine ⟨⟨fun h1 => ⟨h1, fun h2 => by rw [h1, h2]; rfl⟩, fun h1 => ⟨h1, fun h2 => by rw [h1, h2]; rfl⟩, fun hb => ?_, fun hg => ?_⟩, fun h => absurd h (by decide)⟩
      · have hn : nmc p (x.getD p default) = false := by simpa using hb
        unfold nameA
        rw [← h, hnx, hn]
        rfl
      · have hn : nmc p (x.getD p default) = true := by simpa using hg
        refine safe_lend ⟨p + 1, hlt', ?_⟩ (by simp only; omega) (Sub.front (X := []) (by simp [envSub, look]) rfl)
        rw [← h, hnx, hn, Bool.true_and]
    · have hd := decode_hi hhi
      generalize (Utf8.decode ⟨x.toArray⟩ p) = dc at *
      have e1 : decide ((dc.fst : Int) < 97) = false := decide_eq_false (by omega)
      have e2 : decide (122 < (dc.fst : Int)) = true := decide_eq_true (by omega)
      have e3 : decide ((dc.fst : Int) < 48) = false := decide_eq_false (by omega)
      have e4 : decide (57 < (dc.fst : Int)) = true := decide_eq_true (by omega)
      have e5 : decide ((dc.fst : Int) ≠ 45) = true := decide_eq_true (by omega)
      rw [e1, e2, e3, e4, e5]
      refine ⟨⟨fun _ => ⟨rfl, fun _ => rfl⟩, fun _ => ⟨rfl, fun h => absurd h (by decide)⟩, fun _ => ?_, fun h => absurd h (by simp)⟩, fun h => absurd h (by decide)⟩
      unfold nameA
      rw [← h, hnx, nmc_hi hhi]
      rfl
def itemV : Option (Int × Int) → SV
  | some (a, b) => U (Cron.span a b)
  | none => U 0
theorem num_bounds (x : List UInt8) : -1 ≤ Cron.num x ∧ Cron.num x ≤ 99 := by
  unfold Cron.num
  split
  · rename_i h
    have := val_bound x h.2.2 h.2.1
    omega
  · omega
set_option maxHeartbeats 4000000 in
theorem c41 (x : List UInt8) (lo hi : Nat) (hh : hi < 63) (hx : x.length < 4294967281) : Spec Tryd.prog E 41 [T x, I lo, I hi] [tabC] (fun v hp => v = itemV (Cron.item x lo hi) ∧ hp = [tabC]) := by
  refine spec_of (keep := k41) (args' := [T x, I lo, I hi]) Tryd.func41 rfl Tryd.ntmps41 s41_ok (by simp) ⟨rfl, fun _ h => h⟩ (fun _ _ h => h) (go_ok _ 100 _ _ ?_)
  simp only [go_sem, s41, k41, Nat.reduceBEq, Nat.reduceAdd, Nat.zero_add]
  refine (stp_call [0] (args := [T x, T [45]]) rfl rfl rfl ⟨_, Tryd.func50, rfl, rfl⟩ (c50 x 45 hx) rfl (fun _ h => h) rfl (fun _ _ h => h) ?_).safe trivial
  rintro v hp ⟨rfl, rfl⟩
  refine ⟨trivial, go_ok _ 100 _ _ ?_⟩
  simp only [go_sem, Nat.reduceBEq]
  refine (stp_call [] (args := [T (Cron.cutA 45 x).1]) rfl rfl rfl ⟨_, Tryd.func51, rfl, rfl⟩ (c51 (Cron.cutA 45 x).1) rfl (fun _ h => h) rfl (fun _ _ h => h) ?_).safe trivial
  rintro v hp ⟨rfl, rfl⟩
  have hb1 := num_bounds (Cron.cutA 45 x).1
  have hit : Cron.item x lo hi = (if Cron.num (Cron.cutA 45 x).1 < lo ∨ (hi : Int) < (match (Cron.cutA 45 x).2 with | none => Cron.num (Cron.cutA 45 x).1 | some t => Cron.num t) ∨ (match (Cron.cutA 45 x).2 with | none => Cron.num (Cron.cutA 45 x).1 | some t => Cron.num t) < Cron.num (Cron.cutA 45 x).1
      then none else some (Cron.num (Cron.cutA 45 x).1, (match (Cron.cutA 45 x).2 with | none => Cron.num (Cron.cutA 45 x).1 | some t => Cron.num t))) := rfl
  rw [hit]
  generalize (Cron.cutA 45 x).1 = p1 at *
  generalize (Cron.cutA 45 x).2 = p2 at *
  generalize Cron.num p1 = u at *
  refine ⟨trivial, ?_⟩
  rcases p2 with _ | t
  · refine go_ok _ 100 _ _ ?_
    simp only [go_sem, Option.isSome_none, Nat.reduceBEq, Tryd.results41]
    refine ⟨fun h => by rw [h]; rfl, fun h => by rw [h]; rfl, fun hc => ?_, fun hc => ?_⟩
    · rw [Bool.or_eq_true, Bool.or_eq_true, decide_eq_true_eq, decide_eq_true_eq, decide_eq_true_eq, or_assoc] at hc
      rw [if_pos hc]
      rfl
    · rw [Bool.or_eq_false_iff, Bool.or_eq_false_iff, decide_eq_false_iff_not, decide_eq_false_iff_not, decide_eq_false_iff_not] at hc
      rw [if_neg (by omega)]
      obtain ⟨n, rfl⟩ : ∃ n : Nat, u = n := ⟨u.toNat, by omega⟩
      refine (stp_call [] (args := [I n, I n]) rfl rfl rfl ⟨_, Tryd.func39, rfl, rfl⟩ (c39 n n (by omega) (by omega)) rfl (fun _ h => h) rfl (fun _ _ h => h) ?_).safe trivial
      rintro v hp ⟨rfl, rfl⟩
      refine ⟨trivial, go_ok _ 100 _ _ ?_⟩
      simp only [go_sem, Nat.reduceBEq, Tryd.results41]
      rfl
  · refine go_ok _ 100 _ _ ?_
    simp only [go_sem, Option.isSome_some, Option.getD_some, Nat.reduceBEq, Tryd.results41]
    refine ⟨?_, fun h => absurd h (by decide)⟩
    refine (stp_call [] (args := [T t]) rfl rfl rfl ⟨_, Tryd.func51, rfl, rfl⟩ (c51 t) rfl (fun _ h => h) rfl (fun _ _ h => h) ?_).safe trivial
    rintro v hp ⟨rfl, rfl⟩
    have hb2 := num_bounds t
    generalize Cron.num t = w at *
    refine ⟨trivial, go_ok _ 100 _ _ ?_⟩
    simp only [go_sem, Nat.reduceBEq, Tryd.results41]
    refine ⟨fun h => by rw [h]; rfl, fun h => by rw [h]; rfl, fun hc => ?_, fun hc => ?_⟩
    · rw [Bool.or_eq_true, Bool.or_eq_true, decide_eq_true_eq, decide_eq_true_eq, decide_eq_true_eq, or_assoc] at hc
      rw [if_pos hc]
      rfl
    · rw [Bool.or_eq_false_iff, Bool.or_eq_false_iff, decide_eq_false_iff_not, decide_eq_false_iff_not, decide_eq_false_iff_not] at hc
      rw [if_neg (by omega)]
      obtain ⟨n, rfl⟩ : ∃ n : Nat, u = n := ⟨u.toNat, by omega⟩
      obtain ⟨m, rfl⟩ : ∃ m : Nat, w = m := ⟨w.toNat, by omega⟩
      refine (stp_call [] (args := [I n, I m]) rfl rfl rfl ⟨_, Tryd.func39, rfl, rfl⟩ (c39 n m (by omega) (by omega)) rfl (fun _ h => h) rfl (fun _ _ h => h) ?_).safe trivial
      rintro v hp ⟨rfl, rfl⟩
      refine ⟨trivial, go_ok _ 100 _ _ ?_⟩
      simp only [go_sem, Nat.reduceBEq, Tryd.results41]
      rfl
def fieldV : Option Nat → SV
  | some y => U y
  | none => U 0
structure FdW (x : List UInt8) (lo hi : Int) (L : List (List UInt8)) where
  i : Nat
  acc : Nat
  hi' : i ≤ L.length
  hb : acc < 2 ^ 60
  h : Cron.items lo hi (L.drop i) acc = Cron.items lo hi L 0
theorem split_mem_len (b : UInt8) : ∀ {x p : List UInt8}, p ∈ Cron.splitA b x → p.length ≤ x.length
  | [], p, h => by
    unfold Cron.splitA at h
    rw [List.mem_singleton.1 h]
    exact Nat.le_refl _
  | c :: r, p, h => by
    unfold Cron.splitA at h
    rw [List.length_cons]
    split at h
    · rcases List.mem_cons.1 h with rfl | h
      · simp
      · have := split_mem_len b h; omega
    · split at h
      · rename_i hs
        rw [List.mem_singleton.1 h]
        simp
      · rename_i q qs hs
        rcases List.mem_cons.1 h with rfl | h
        · have := split_mem_len b (x := r) (p := q) (by rw [hs]; simp)
          rw [List.length_cons]
          omega
        · have := split_mem_len b (x := r) (p := p) (by rw [hs]; exact List.mem_cons_of_mem _ h)
          omega
set_option maxHeartbeats 4000000 in
theorem c21 (x : List UInt8) (lo hi : Nat) (hlh : lo ≤ hi) (hh : hi ≤ 59) (hx : x.length < 4294967281) : Spec Tryd.prog E 21 [T x, I lo, I hi] [tabC] (fun v hp => v = fieldV (Cron.field x lo hi) ∧ hp = [tabC]) := by
  refine Spec.leave (Post := fun v hp => v = fieldV (Cron.field x lo hi) ∧ ∃ X, hp = tabC :: X) ?_ (fun v hp h => by
    obtain ⟨h1, X, h2⟩ := h
    exact ⟨[tabC], X, h2, h1, rfl⟩)
  refine spec_of (keep := k21) (args' := [T x, I lo, I hi]) Tryd.func21 rfl Tryd.ntmps21 s21_ok (by simp) ⟨rfl, fun _ h => h⟩ (fun _ _ h => h) (go_ok _ 100 _ _ ?_)
  have e0 := str_eq x [42]
  rcases d0 : decide (x = [42]) with _ | _
  rotate_left
  · have hx1 : x = [42] := of_decide_eq_true d0
    rw [d0] at e0
    have hfd : Cron.field x lo hi = some (Cron.span lo hi) := by
      unfold Cron.field
      rw [if_pos hx1]
    rw [hfd]
    simp only [go_sem, s21, k21, e0, Nat.reduceBEq, Nat.reduceAdd, Nat.zero_add]
    refine ⟨?_, fun h => absurd h (by decide)⟩
    refine go_ok _ 100 _ _ ?_
    simp only [go_sem]
    refine (stp_call [] (args := [I lo, I hi]) rfl rfl rfl ⟨_, Tryd.func39, rfl, rfl⟩ (c39 lo hi hlh (by omega)) rfl (fun _ h => h) rfl (fun _ _ h => h) ?_).safe trivial
    rintro v hp ⟨rfl, rfl⟩
    refine ⟨trivial, go_ok _ 100 _ _ ?_⟩
    simp only [go_sem, Nat.reduceBEq, Tryd.results21]
    exact ⟨rfl, _, rfl⟩
  rw [d0] at e0
  have hfd : Cron.field x lo hi = Cron.items lo hi (Cron.splitA 44 x) 0 := by
    unfold Cron.field
    rw [if_neg (of_decide_eq_false d0)]
  rw [hfd]
  simp only [go_sem, s21, k21, e0, Nat.reduceBEq, Nat.reduceAdd, Nat.zero_add]
  refine (stp_call [0] (args := [T x, T [44]]) rfl rfl rfl ⟨_, Tryd.func40, rfl, rfl⟩ (c40 x 44 hx) rfl (fun _ h => h) rfl (fun _ _ h => h) ?_).safe trivial
  rintro v hp ⟨a, cap, rfl, rfl⟩
  have hlen : ∀ p ∈ Cron.splitA 44 x, p.length < 4294967281 := fun p hp => by
    have := split_mem_len 44 hp
    omega
  have hcount : (Cron.splitA 44 x).length ≤ 4294967281 := by
    have : ∀ (y : List UInt8), (Cron.splitA 44 y).length ≤ y.length + 1 := by
      intro y
      induction y with
      | nil => simp [Cron.splitA]
      | cons c r ih =>
        unfold Cron.splitA
        split
        · simp only [List.length_cons]; omega
        · split
          · simp
          · rename_i q qs hs
            rw [hs] at ih
            simp only [List.length_cons] at ih ⊢
            omega
    have := this x
    omega
  generalize Cron.splitA 44 x = L at *
  refine ⟨trivial, go_ok _ 100 _ _ ?_⟩
  simp only [go_sem, Nat.reduceBEq]
  refine safe_loop (ι := FdW x lo hi L) (fun g => ⟨[(1, I lo), (2, I hi), (6, U 0), (7, U g.acc), (17, vT a cap L), (18, I L.length), (19, I g.i)], [tabC]⟩) (fun g => L.length - g.i) ⟨0, 0, Nat.zero_le _, by decide, by rw [List.drop_zero]⟩
    (Sub.front (X := []) (by simp [envSub, look]) rfl) ?_
  rintro ⟨i, acc, hi', hb, h⟩
  refine go_ok _ 8 _ _ ?_
  simp only [go_sem, Nat.reduceBEq]
  refine ⟨fun hc => ?_, fun hc => ?_⟩
  rotate_left
  · have hge := of_decide_eq_false hc
    rw [List.drop_eq_nil_of_le (by omega)] at h
    refine go_ok _ 100 _ _ ?_
    simp only [go_sem, Nat.reduceBEq, Tryd.results21]
    rw [← h]
    exact ⟨rfl, _, rfl⟩
  have hlt : i < L.length := by have := of_decide_eq_true hc; omega
  have hd : L.drop i = L.getD i [] :: L.drop (i + 1) := by
    rw [List.drop_eq_getElem_cons hlt, List.getD_eq_getElem?_getD, List.getElem?_eq_getElem hlt]
    rfl
  have hpl : (L.getD i []).length < 4294967281 := by
    rw [List.getD_eq_getElem?_getD, List.getElem?_eq_getElem hlt]
    exact hlen _ (List.getElem_mem _)
  rw [hd] at h
  rw [show Cron.items (lo : Int) hi (L.getD i [] :: L.drop (i + 1)) acc = (match Cron.item (L.getD i []) lo hi with | none => none | some (a, b) => Cron.items lo hi (L.drop (i + 1)) (acc ||| Cron.span a b)) from rfl] at h
  refine go_ok _ 12 _ _ ?_
  simp only [go_sem, rowsT, Int.toNat_natCast, Nat.reduceBEq]
  refine ⟨by omega, by decide, ?_⟩
  refine (stp_call [0] (args := [T (L.getD i []), I lo, I hi]) rfl rfl rfl ⟨_, Tryd.func41, rfl, rfl⟩ (c41 (L.getD i []) lo hi (by omega) hpl) rfl (fun _ h => h) rfl (fun _ _ h => h) ?_).safe trivial
  rintro v hp ⟨rfl, rfl⟩
  refine ⟨trivial, ?_⟩
  rcases hit : Cron.item (L.getD i []) lo hi with _ | ⟨u, w⟩
  · rw [hit] at h
    refine go_ok _ 100 _ _ ?_
    simp only [go_sem, itemV, Nat.reduceBEq, Tryd.results21]
    rw [← h]
    refine ⟨fun _ => ⟨rfl, _, rfl⟩, fun h => absurd h (by decide)⟩
  · rw [hit] at h
    obtain ⟨i1, i2, i3⟩ := Cron.item_some hit
    have hspl : Cron.span u w < 2 ^ 60 := Cron.span_lt (by omega)
    have hpos := Cron.span_pos (a := u) (b := w) (by omega) i2
    have hor := or_u64 (x := acc) (y := Cron.span u w) (by omega) (by omega)
    have hor2 : (acc ||| Cron.span u w) < 2 ^ 60 := Nat.or_lt_two_pow hb hspl
    refine go_ok _ 100 _ _ ?_
    simp only [go_sem, itemV, hor, Nat.reduceBEq, Tryd.results21]
    refine ⟨fun h => absurd (of_decide_eq_true h) (by omega), fun _ => ⟨by simp only [inI64]; omega, ?_⟩⟩
    exact safe_lend ⟨i + 1, acc ||| Cron.span u w, hlt, hor2, h⟩ (by simp only; omega) (Sub.front (X := []) (by simp [envSub, look]) rfl)
end Go.SX

/- Text that is UTF-8; the program's fields. -/
namespace Go.SX
open Go.Proofs Go.RowKit
set_option maxRecDepth 1000000
variable {E : Env}

/-- where a text's runes begin -/
inductive Reach (x : List UInt8) : Nat → Prop
  | zero : Reach x 0
  | step {p : Nat} : Reach x p → p < x.length → Reach x (p + (Utf8.decode ⟨x.toArray⟩ p).2)
def ValidU (x : List UInt8) : Prop := ∀ p, Reach x p → p < x.length → Utf8.decode ⟨x.toArray⟩ p ≠ (65533, 1)
theorem enc_size (c : Nat) (hv : Utf8.valid (c : Int) = true) : (Utf8.encode (c : Int)).size = if c < 128 then 1 else if c < 2048 then 2 else if c < 65536 then 3 else 4 := by
  unfold Utf8.encode
  rw [hv]
  simp only [if_true, Int.toNat_natCast]
  repeat' split
  all_goals first | rfl | (exfalso; omega)
/-- of a rune that is one: its bytes -/
theorem decode_ok {x : List UInt8} {p : Nat} (hp : p < x.length) (hhi : 128 ≤ (x.getD p default).toNat) (hne : Utf8.decode ⟨x.toArray⟩ p ≠ (65533, 1)) :
    p + (Utf8.decode ⟨x.toArray⟩ p).2 ≤ x.length ∧ 1 ≤ (Utf8.decode ⟨x.toArray⟩ p).2 ∧ (∀ j, j < (Utf8.decode ⟨x.toArray⟩ p).2 → 128 ≤ (x.getD (p + j) default).toNat) ∧ (Utf8.encode ((Utf8.decode ⟨x.toArray⟩ p).1 : Int)).size = (Utf8.decode ⟨x.toArray⟩ p).2 := by
  obtain ⟨dc, hdc⟩ : ∃ dc, Utf8.decode ⟨x.toArray⟩ p = dc := ⟨_, rfl⟩
  rw [hdc] at hne ⊢
  unfold Utf8.decode at hdc
  simp only [Nat.add_zero, get_at] at hdc
  have hsz : (⟨x.toArray⟩ : ByteArray).size = x.length := by simp [ByteArray.size]
  rw [hsz] at hdc
  rw [if_neg (by omega)] at hdc
  unfold Utf8.runeError at hdc
  split at hdc
  · rename_i h
    simp only [Bool.and_eq_true, decide_eq_true_eq, beq_iff_eq] at h
    split at hdc
    · subst hdc
      refine ⟨by simp only; omega, by simp, fun j hj => ?_, ?_⟩
      · have : j = 0 ∨ j = 1 := by simp only at hj; omega
        rcases this with rfl | rfl
        · exact hhi
        · omega
      · simp only
        rw [enc_size _ (by unfold Utf8.valid; rw [Bool.or_eq_true]; left; rw [Bool.and_eq_true, decide_eq_true_eq, decide_eq_true_eq]; omega), if_neg (by omega), if_pos (by omega)]
    · exact absurd hdc.symm hne
  split at hdc
  · rename_i h
    simp only [Bool.and_eq_true, decide_eq_true_eq, beq_iff_eq] at h
    split at hdc
    · rename_i hv
      simp only [Bool.and_eq_true, decide_eq_true_eq] at hv
      subst hdc
      refine ⟨by simp only; omega, by simp, fun j hj => ?_, ?_⟩
      · have : j = 0 ∨ j = 1 ∨ j = 2 := by simp only at hj; omega
        rcases this with rfl | rfl | rfl
        · exact hhi
        · omega
        · omega
      · simp only
        rw [enc_size _ hv.2, if_neg (by omega), if_neg (by omega), if_pos (by omega)]
    · exact absurd hdc.symm hne
  split at hdc
  · rename_i h
    simp only [Bool.and_eq_true, decide_eq_true_eq, beq_iff_eq] at h
    split at hdc
    · rename_i hv
      simp only [Bool.and_eq_true, decide_eq_true_eq] at hv
      subst hdc
      refine ⟨by simp only; omega, by simp, fun j hj => ?_, ?_⟩
      · have : j = 0 ∨ j = 1 ∨ j = 2 ∨ j = 3 := by simp only at hj; omega
        rcases this with rfl | rfl | rfl | rfl
        · exact hhi
        · omega
        · omega
        · omega
      · simp only
        rw [enc_size _ hv.2, if_neg (by omega), if_neg (by omega), if_neg (by omega)]
    · exact absurd hdc.symm hne
  · exact absurd hdc.symm hne
def runeAt (x : List UInt8) (p : Nat) : List UInt8 := (x.drop p).take (Utf8.decode ⟨x.toArray⟩ p).2
theorem rune_step {x : List UInt8} {p : Nat} (hp : p < x.length) (hne : Utf8.decode ⟨x.toArray⟩ p ≠ (65533, 1)) :
    p + (Utf8.decode ⟨x.toArray⟩ p).2 ≤ x.length ∧ 1 ≤ (Utf8.decode ⟨x.toArray⟩ p).2 ∧ (Utf8.encode ((Utf8.decode ⟨x.toArray⟩ p).1 : Int)).size = (Utf8.decode ⟨x.toArray⟩ p).2 ∧
    (decide (((Utf8.decode ⟨x.toArray⟩ p).1 : Int) = 32) || decide (((Utf8.decode ⟨x.toArray⟩ p).1 : Int) = 9)) = Cron.blank (x.getD p default) ∧
    (Cron.blank (x.getD p default) = true → (Utf8.decode ⟨x.toArray⟩ p).2 = 1) ∧ (Cron.blank (x.getD p default) = false → ∀ c ∈ runeAt x p, Cron.blank c = false) := by
  rcases Nat.lt_or_ge (x.getD p default).toNat 128 with hlo | hhi
  · unfold runeAt
    rw [decode_lo hlo]
    refine ⟨by simp only; omega, by simp, ?_, (blank_eq _).symm, fun _ => rfl, fun h c hc => ?_⟩
    · simp only
      rw [enc_size _ (by unfold Utf8.valid; rw [Bool.or_eq_true]; left; rw [Bool.and_eq_true, decide_eq_true_eq, decide_eq_true_eq]; omega), if_pos hlo]
    · rw [drop_next hp] at hc
      simp only [List.take_succ_cons, List.take_zero, List.mem_singleton] at hc
      rw [hc]
      exact h
  · obtain ⟨h1, h2, h3, h4⟩ := decode_ok hp hhi hne
    have hd := decode_hi hhi
    have hb := Cron.ascii_blank (c := x.getD p default) (by omega)
    refine ⟨h1, h2, h4, ?_, fun h => absurd (hb.symm.trans h) (by decide), fun _ c hc => ?_⟩
    · rw [hb, decide_eq_false (by omega), decide_eq_false (by omega)]
      rfl
    · unfold runeAt at hc
      obtain ⟨j, hj, rfl⟩ := List.getElem_of_mem hc
      have hj2 : j < (Utf8.decode ⟨x.toArray⟩ p).2 := by
        rw [List.length_take] at hj
        omega
      have := h3 j hj2
      apply Cron.ascii_blank
      rw [List.getElem_take, List.getElem_drop]
      rw [List.getD_eq_getElem?_getD, List.getElem?_eq_getElem (by omega)] at this
      simp only [Option.getD_some] at this
      omega
/-- a row's element is written -/
theorem updF_row {α : Type} [Inhabited α] {enc : α → List SV} {xs : List α} {i sz : Nat} {y : α} (hi : i < xs.length) (hs : (enc y).length = sz) {cs : List SV} (hcs : cs = enc y) : ∀ k j, k < xs.length → j < sz → updF (rowsV enc xs) i 0 cs k j = rowsV enc (xs.set i y) k j := by
  subst hcs
  intro k j hk hj
  by_cases h : k = i
  · subst h
    have e1 : (xs.set k y).getD k default = y := by rw [List.getD_eq_getElem?_getD, List.getElem?_set_self hi]; rfl
    have e2 : (Nat.ble 0 j && Nat.blt j (0 + (enc y).length)) = true := by
      rw [Bool.and_eq_true, Nat.ble_eq, Nat.blt_eq]
      omega
    simp only [updF, rowsV, e1, beq_self_eq_true, e2, Bool.and_self, cond_true, Nat.sub_zero]
  · have e1 : (xs.set i y).getD k default = xs.getD k default := by
      rw [List.getD_eq_getElem?_getD, List.getD_eq_getElem?_getD, List.getElem?_set_ne (Ne.symm h)]
    have e2 : (k == i) = false := by simpa using h
    simp only [updF, rowsV, e1, e2, Bool.false_and, cond_false]
def accOf (pre : List (List UInt8)) (cur : List UInt8) : List (List UInt8) := if cur = [] then pre else pre ++ [cur]
structure FiW (x : List UInt8) where
  p : Nat
  pre : List (List UInt8)
  cur : List UInt8
  nl : Bool
  b : Nat
  off : Nat
  cap : Nat
  hp : p ≤ x.length
  hr : Reach x p
  hc : cur.length ≤ p
  hl : pre.length + (if cur = [] then 0 else 1) ≤ p
  h : pre ++ Cron.fieldsA cur (x.drop p) = Cron.fieldsA [] x
theorem oth_rune {C : Ctx} {st : St} (hC : C.P = Tryd.prog) {x : Nat} {n : Int} (hx : opv st.env (.t x) = some (.val (.int .i32 n))) : OthV C st (.convert 21 9 (.tmp x)) 9 (.val (.string (Utf8.encode n))) := by
  intro ro H F a w g
  refine ⟨?_, by simp only [SV.ok]⟩
  obtain ⟨e1, _⟩ := opv_ok (x := .tmp x) g rfl hx
  have h : (convert 21 9 (.int .i32 n)).run Tryd.prog w = .ok (.string (Utf8.encode n)) w := by
    simp [convert, run_underlying Tryd.underlying21, run_underlying Tryd.underlying9, Conv.intToString]
  rw [← hC] at h
  simp only [SV.den] at e1
  simp only [execOp, oper0, SV.den, e1, Sem.run_bind, h, Result.andThen, Sem.run_pure]
set_option maxHeartbeats 4000000 in
theorem c20 (x : List UInt8) (hx : x.length ≤ 2 ^ 30) (hv : ValidU x) : Spec Tryd.prog E 20 [T x] [] (FieldsP x) := by
  refine Spec.frz (Post := fun v hp => ∃ nl b off cap, v = .osl 0 nl b off (Cron.fieldsA [] x).length cap ∧ ∃ X, hp = .row nl b 9 off 1 (Cron.fieldsA [] x).length cap (rowsV encT (Cron.fieldsA [] x)) :: X) ?_ ?_
  rotate_left
  · rintro v hp ⟨nl, b, off, cap, rfl, X, rfl⟩
    exact .inr ⟨0, nl, b, 9, off, 1, _, cap, _, rfl, ⟨X, rfl⟩, _, cap, rfl, rfl⟩
  refine spec_of (keep := k20) (args' := [T x]) Tryd.func20 rfl Tryd.ntmps20 s20_ok (by simp) ⟨rfl, fun _ h => h⟩ (fun _ _ h => h) (go_ok _ 100 _ _ ?_)
  simp only [go_sem, s20, k20, Nat.reduceBEq]
  refine safe_nilrow 0 9 0 1 (rowsV encT ([] : List (List UInt8))) (env' := [(7, T x), (0, T x), (2, nilS), (3, .osl 0 true 0 0 0 0), (4, Bl false)]) ?_ ?_
  · simp [NilL, nilS]
  refine (stp_strrange (mo := .t 7) (s := ⟨x.toArray⟩) rfl Tryd.underlying9 rfl fun r => ?_).safeE rfl
  refine ⟨trivial, go_ok _ 100 _ _ ?_⟩
  simp only [go_sem, Nat.reduceBEq]
  refine safe_loop (ι := FiW x) (fun g => ⟨[(0, T x), (2, nilS), (3, .osl 0 g.nl g.b g.off (accOf g.pre g.cur).length g.cap), (4, Bl (!decide (g.cur = []))), (8, .val (.pointer (some ⟨r, 0, none⟩)))], [.row g.nl g.b 9 g.off 1 (accOf g.pre g.cur).length g.cap (rowsV encT (accOf g.pre g.cur)), strI r ⟨x.toArray⟩ g.p]⟩) (fun g => x.length - g.p)
    ⟨0, [], [], true, 0, 0, 0, Nat.zero_le _, .zero, Nat.zero_le _, by simp, by simp⟩ (Sub.front (X := []) (by simp [envSub, look, accOf]) rfl) ?_
  rintro ⟨p, pre, cur, nl, b, off, cap, hp, hr, hc, hl, h⟩
  refine go_ok _ 100 _ _ ?_
  simp only [go_sem]
  refine (stp_strnext (ito := .t 8) (r := r) (s := ⟨x.toArray⟩) (pos := p) 1 rfl rfl rfl (fun hge => ?_) (fun hlt => ?_)).safeE rfl
  · refine ⟨trivial, go_ok _ 100 _ _ ?_⟩
    have hpl : p = x.length := by have : x.toArray.size ≤ p := hge; simp at this; omega
    have hacc : accOf pre cur = Cron.fieldsA [] x := by
      rw [← h, List.drop_eq_nil_of_le (by omega)]
      unfold Cron.fieldsA accOf
      split <;> simp
    simp only [go_sem, Nat.reduceBEq, Tryd.results20]
    rw [hacc]
    exact ⟨nl, b, off, cap, rfl, _, rfl⟩
  have hlt' : p < x.length := by have : p < x.toArray.size := hlt; simpa using this
  obtain ⟨r1, r2, r3, r4, r5, r6⟩ := rune_step hlt' (hv p hr hlt')
  have hstep := Reach.step hr hlt'
  have hrl : (runeAt x p).length = (Utf8.decode ⟨x.toArray⟩ p).2 := by
    unfold runeAt
    rw [List.length_take, List.length_drop]
    omega
  have hrd : x.drop p = runeAt x p ++ x.drop (p + (Utf8.decode ⟨x.toArray⟩ p).2) := by
    unfold runeAt
    rw [← List.drop_drop, List.take_append_drop]
  have hex : (⟨x.toArray⟩ : ByteArray).extract p (p + (Utf8.decode ⟨x.toArray⟩ p).2) = ⟨(runeAt x p).toArray⟩ := by
    rw [extract_eq]
    unfold runeAt
    rw [Nat.add_sub_cancel_left]
  generalize runeAt x p = rn at *
  generalize (Utf8.decode ⟨x.toArray⟩ p).1 = dc at *
  generalize (Utf8.decode ⟨x.toArray⟩ p).2 = dw at *
  rcases hb : Cron.blank (x.getD p default) with _ | _
  rotate_left
  · rw [hb] at r4
    obtain rfl := r5 hb
    have hdn := drop_next hlt'
    refine ⟨trivial, go_ok _ 100 _ _ ?_⟩
    simp only [go_sem, r4, Nat.reduceBEq, Nat.reduceAdd, Nat.zero_add, Tryd.results20]
    refine ⟨⟨?_, fun h => absurd h (by decide)⟩, fun h => absurd h (by decide)⟩
    have hlen : (accOf pre cur).length ≤ p := by
      unfold accOf
      split at hl <;> rename_i q
      · rw [if_pos q]; omega
      · rw [if_neg q, List.length_append, List.length_singleton]; exact hl
    refine safe_lend ⟨p + 1, accOf pre cur, [], nl, b, off, cap, hlt', hstep, Nat.zero_le _, by simp; omega, ?_⟩ (by simp only; omega) (Sub.front (X := []) (by simp [envSub, look, accOf]) rfl)
    rw [← h, hdn]
    conv => rhs; unfold Cron.fieldsA
    rw [hb, if_pos rfl]
    unfold accOf
    by_cases q : cur = []
    · rw [if_pos q, if_pos q]
    · rw [if_neg q, if_neg q, List.append_assoc]; rfl
  · rw [hb] at r4
    have r6' := r6 hb
    have hne : rn ≠ [] := fun e => by rw [e] at hrl; simp at hrl; omega
    have hnext : pre ++ Cron.fieldsA (cur ++ rn) (x.drop (p + dw)) = Cron.fieldsA [] x := by
      rw [← h, hrd, Cron.fieldsA_app r6']
    have hcn : cur ++ rn ≠ [] := fun e => hne (List.append_eq_nil_iff.1 e).2
    have hsz : ∀ a c : List UInt8, (⟨a.toArray⟩ : ByteArray) ++ ⟨c.toArray⟩ = ⟨(a ++ c).toArray⟩ := fun a c => by
      apply ByteArray.ext
      simp [ByteArray.data_append]
    have hln : pre.length ≤ p := by omega
    refine ⟨trivial, go_ok _ 26 _ _ ?_⟩
    simp only [go_sem, r4, Nat.reduceBEq, Tryd.results20]
    refine ⟨?_, fun h => absurd h (by decide)⟩
    refine safe_code_mid (ι := Bool × Nat × Nat × Nat) (fun g => ⟨[(0, T x), (2, nilS), (3, .osl 0 g.1 g.2.1 g.2.2.1 (pre ++ [cur]).length g.2.2.2), (5, I p), (6, .val (.int .i32 dc)), (8, .val (.pointer (some ⟨r, 0, none⟩)))],
      [.row g.1 g.2.1 9 g.2.2.1 1 (pre ++ [cur]).length g.2.2.2 (rowsV encT (pre ++ [cur])), strI r ⟨x.toArray⟩ (p + dw)]⟩) ?_ ?_
    rotate_left
    · intro rest
      by_cases hcur : cur = []
      · subst hcur
        refine go_ok _ 12 _ _ ?_
        simp only [go_sem, decide_true, Bool.not_true, accOf, if_true, Nat.reduceBEq, Nat.reduceAdd, Nat.zero_add]
        refine ⟨fun bb => ?_, fun h => absurd h (by decide)⟩
        refine (stp_app2 (c := 0) (b := b) (off := off) (nl := nl) (n := pre.length) (cap := cap) (x := .osl 2 false bb 0 1 1) (gx := litF 1 (encT [])) (m := 1) (f := rowsV encT pre) (f2 := rowsV encT (pre ++ [[]])) (N := (pre ++ [[]]).length) rfl rfl rfl rfl ⟨rfl, rfl, rfl, rfl, Nat.le_refl _⟩ ?_ (by omega) (by simp) (fun i' j hi hj => app_one i' j (by simpa using hi) hj) fun nl' b' off' cap' => ?_).safe trivial
        · intro i' j hi hj
          obtain rfl : i' = 0 := by omega
          obtain rfl : j = 0 := by omega
          simp [litF, encT, one, Value.oneCell']
        refine ⟨trivial, go_ok _ 2 _ _ ?_⟩
        simp only [go_sem, Nat.reduceBEq]
        refine Safe.sub ?_ (rest (nl', b', off', cap'))
        exact Sub.front (X := [_]) (by simp [envSub, look]) rfl
      · have ha : accOf pre cur = pre ++ [cur] := by unfold accOf; rw [if_neg hcur]
        refine go_ok _ 7 _ _ ?_
        simp only [go_sem, ha, decide_eq_false hcur, Bool.not_false, Bool.not_true, Nat.reduceBEq]
        refine Safe.sub ?_ (rest (nl, b, off, cap))
        exact Sub.front (X := []) (by simp [envSub, look]) rfl
    · rintro ⟨nl', b', off', cap'⟩
      have e1 : (((pre ++ [cur]).length : Nat) : Int) - 1 = (pre.length : Int) := by
        rw [List.length_append, List.length_singleton]
        omega
      have e2 : (pre ++ [cur]).getD pre.length [] = cur := by
        rw [List.getD_eq_getElem?_getD, List.getElem?_append_right (Nat.le_refl _), Nat.sub_self]
        rfl
      refine go_ok _ 20 _ _ ?_
      simp only [go_sem, e1, e2, Int.toNat_natCast, Nat.reduceBEq]
      have hlen : (pre ++ [cur]).length = pre.length + 1 := by rw [List.length_append, List.length_singleton]
      refine ⟨by simp only [inI64]; omega, ⟨by omega, by omega, Nat.le_refl _⟩, ⟨by omega, by decide⟩, ?_⟩
      refine safe_oth (oth_rune rfl rfl) trivial ?_
      have hex' : (⟨x.toArray⟩ : ByteArray).extract p ((p : Int) + (dw : Int)).toNat = ⟨rn.toArray⟩ := by
        rw [show ((p : Int) + (dw : Int)).toNat = p + dw by omega]
        exact hex
      refine go_ok _ 20 _ _ ?_
      simp only [go_sem, r3, hex', hsz, Int.toNat_natCast, Nat.reduceBEq, Nat.zero_add]
      have hcr : (cur ++ rn).length ≤ p + dw := by rw [List.length_append]; omega
      have ha : accOf pre (cur ++ rn) = (pre ++ [cur]).set pre.length (cur ++ rn) := by
        unfold accOf
        rw [if_neg hcn, List.set_append_right _ _ (Nat.le_refl _), Nat.sub_self]
        rfl
      have hal : (accOf pre (cur ++ rn)).length = (pre ++ [cur]).length := by rw [ha, List.length_set]
      refine ⟨by simp only [inI64]; omega, ⟨by omega, by omega, by simp only [List.size_toArray]; omega⟩, ?_, ⟨by omega, by omega, Nat.le_refl _⟩, ⟨by omega, by decide⟩, ?_⟩
      · simp only [List.size_toArray]
        omega
      refine safe_lend ⟨p + dw, pre, cur ++ rn, nl', b', off', cap', r1, hstep, hcr, by rw [if_neg hcn]; omega, hnext⟩ (by simp only; omega) ?_
      refine Sub.heap (by simp [envSub, look, hal, hcn]) ?_
      rintro ro H ⟨H1, H2, rfl, h1, h2⟩
      refine ⟨H1, H2, rfl, ?_, h2⟩
      simp only
      rw [hal, ha]
      exact row_congr (fun k j hk hj => updF_row (enc := encT) (by omega) rfl rfl k j hk hj) h1
end Go.SX
