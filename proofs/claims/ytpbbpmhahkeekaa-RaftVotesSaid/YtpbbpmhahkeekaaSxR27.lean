/- Contracts of the raft package: whether an entry may be; rows of entries. -/
import Derived.Test.YtpbbpmhahkeekaaSxR26
namespace Go.SX
open Go.Proofs
set_option maxRecDepth 1000000
variable {E : Env}

def mayB (e : Ent) : Bool := decide (0 ≤ e.kd) && decide (e.kd ≤ 2) && decide ((e.d.xs.length : Int) ≤ 65536) && (decide (e.kd ≠ 2) || areV (rdV e.d.xs))
/-- data that can be read -/
def okD (xs : List UInt8) : Prop := xs.length ≤ 2 ^ 40 ∧ ∀ c, beN (chunk8 xs c) < 2 ^ 63

theorem c87 (e : Ent) (h : okD e.d.xs) : Spec Try.prog E 87 [aE e] [] (fun v hp => v = Bl (mayB e) ∧ hp = []) := by
  refine Spec.leave (Post := fun v _ => v = Bl (mayB e)) ?_ (fun v hp h => ⟨[], hp, rfl, h, rfl⟩)
  refine spec_of (keep := k87) (args' := [aE e]) Try.func87 rfl Try.ntmps87 s87_ok (by simp) ⟨rfl, fun _ h => h⟩ (fun _ _ h => h) (go_ok _ 100 _ _ ?_)
  simp only [go_sem, s87, k87, Nat.reduceBEq, Nat.reduceAdd, Nat.zero_add]
  intro b1
  refine (stp_call [] (args := [vB e.d.a e.d.cap e.d.xs]) rfl rfl rfl ⟨_, Try.func85, rfl, rfl⟩ ((c85 e.d.a e.d.cap e.d.xs h.1 h.2).leave (Post' := fun v hp => (∃ a' cap', v = .tup [vI a' cap' (rdV e.d.xs), Bl (areV (rdV e.d.xs))]) ∧ hp = []) fun v hp h => ⟨[], hp, rfl, h, rfl⟩) rfl (fun _ h => h) rfl (fun _ _ h => h) ?_).safe trivial
  rintro v hp ⟨⟨a', cap', rfl⟩, rfl⟩
  refine ⟨trivial, go_ok _ 100 _ _ ?_⟩
  simp only [go_sem, Nat.reduceBEq, Nat.reduceAdd, Nat.zero_add, Try.results87]
  exact ⟨fun h => ⟨h, fun h2 => by rw [h, h2]; rfl⟩, rfl⟩

def badE (ix tm to : Int) (e : Ent) : Bool := decide (e.ix ≤ ix) || decide (e.ix - 1 ≠ ix) || decide (e.tm < tm) || decide (to < e.tm) || !mayB e
def rowB (ix tm to : Int) : List Ent → Bool
  | [] => true
  | e :: l => !badE ix tm to e && rowB e.ix e.tm to l
def prevI (ix : Int) (es : List Ent) (i : Nat) : Int := if i = 0 then ix else (es.getD (i - 1) default).ix
def prevT (tm : Int) (es : List Ent) (i : Nat) : Int := if i = 0 then tm else (es.getD (i - 1) default).tm
theorem rowB_step {ix tm to : Int} {es : List Ent} {i : Nat} (hi : i < es.length) : rowB (prevI ix es i) (prevT tm es i) to (es.drop i) = (!badE (prevI ix es i) (prevT tm es i) to (es.getD i default) && rowB (prevI ix es (i + 1)) (prevT tm es (i + 1)) to (es.drop (i + 1))) := by
  rw [List.drop_eq_getElem_cons hi]
  have : es.getD i default = es[i] := by simp [List.getD_eq_getElem?_getD, hi]
  simp only [rowB, prevI, prevT, this, Nat.add_one_ne_zero, if_false, Nat.add_sub_cancel]

structure G68 (ix tm to : Int) (es : List Ent) where
  i : Nat
  p : Int
  q : Int
  hi : i ≤ es.length
  h0 : i = 0 → p = ix ∧ q = tm
  hr : rowB ix tm to es = rowB (prevI ix es i) (prevT tm es i) to (es.drop i)

theorem c68 (a : Option Addr) (cap : Nat) (es : List Ent) (ix tm to : Int) (hl : es.length ≤ 2 ^ 40) (hd : ∀ e ∈ es, okD e.d.xs ∧ -2 ^ 62 ≤ e.ix ∧ e.ix ≤ 2 ^ 62) : Spec Try.prog E 68 [vE a cap es, I ix, I tm, I to] [] (fun v hp => v = Bl (rowB ix tm to es) ∧ hp = []) := by
  refine Spec.leave (Post := fun v _ => v = Bl (rowB ix tm to es)) ?_ (fun v hp h => ⟨[], hp, rfl, h, rfl⟩)
  refine spec_of (keep := k68) (args' := [vE a cap es, I ix, I tm, I to]) Try.func68 rfl Try.ntmps68 s68_ok (by simp) ⟨rfl, fun _ h => h⟩ (fun _ _ h => h) (go_ok _ 100 _ _ ?_)
  simp only [go_sem, s68, k68, Nat.reduceBEq, Nat.reduceAdd, Nat.zero_add, Try.results68]
  refine safe_loop (ι := G68 ix tm to es) (fun g => ⟨[(0, vE a cap es), (1, I g.p), (2, I g.q), (3, I to), (11, vE a cap es), (12, I es.length), (13, I g.i)], []⟩) (fun g => es.length - g.i) ⟨0, ix, tm, Nat.zero_le _, fun _ => ⟨rfl, rfl⟩, rfl⟩
    (Sub.front (X := []) (by simp [envSub, look]) rfl) ?_
  rintro ⟨i, p, q, hi, h0, hr⟩
  refine go_ok _ 24 _ _ ?_
  simp only [go_sem, Nat.reduceBEq, Nat.reduceAdd, Nat.zero_add, Try.results68, Int.toNat_natCast]
  refine ⟨fun h => ?_, fun h => ?_⟩
  · have hlt : i < es.length := by simpa using h
    have hmem : es.getD i default ∈ es := by
      rw [List.getD_eq_getElem?_getD, List.getElem?_eq_getElem hlt]
      exact List.getElem_mem _
    have hde := hd _ hmem
    generalize hee : es.getD i default = e at *
    refine ⟨⟨by omega, by omega⟩, by decide, fun b => ?_⟩
    refine safe_cond_mid (p := decide (0 < (i : Int))) ⟨[(0, vE a cap es), (1, I (prevI ix es i)), (2, I (prevT tm es i)), (3, I to), (10, .ptr 0 b 0), (11, vE a cap es), (12, I es.length), (13, I i)], [.cells b 43 [I e.ix, I e.tm, I e.kd, e.d.sv]]⟩ rfl ?_ ?_ ?_
    · refine go_ok _ 100 _ _ ?_
      simp only [go_sem, Nat.reduceBEq, Nat.reduceAdd, Nat.zero_add, Try.results68]
      have hrow : rowB ix tm to es = (!badE (prevI ix es i) (prevT tm es i) to e && rowB (prevI ix es (i + 1)) (prevT tm es (i + 1)) to (es.drop (i + 1))) := by
        rw [hr, rowB_step hlt, hee]
      refine ⟨fun h => ⟨h, by simp only [inI64]; omega⟩, fun h => by rw [h]; rfl, fun h => by rw [h]; rfl, fun h => by rw [h]; rfl, ?_⟩
      cases hg : (decide (e.ix ≤ prevI ix es i) || decide (e.ix - 1 ≠ prevI ix es i) || decide (e.tm < prevT tm es i) || decide (to < e.tm)) with
      | true =>
        have hbad : badE (prevI ix es i) (prevT tm es i) to e = true := by simp only [badE, hg, Bool.true_or]
        rw [hbad] at hrow
        simp only [go_sem, Nat.reduceBEq, Nat.reduceAdd, Nat.zero_add]
        exact ⟨fun h => absurd h (by decide), ⟨fun h => absurd h (by decide), by rw [hrow]; rfl, fun h => absurd h (by decide)⟩, rfl⟩
      | false =>
        have hbad : badE (prevI ix es i) (prevT tm es i) to e = !mayB e := by simp only [badE, hg, Bool.false_or]
        rw [hbad, Bool.not_not] at hrow
        simp only [go_sem, Nat.reduceBEq, Nat.reduceAdd, Nat.zero_add]
        refine ⟨?_, fun h => absurd h (by decide), rfl⟩
        refine Stp.safeOn ?_ trivial
        refine stp_call [] (args := [aE e]) rfl rfl rfl ⟨_, Try.func87, rfl, rfl⟩ (c87 e hde.1) rfl (fun _ h => unc_oks h) rfl (fun _ _ h => h) ?_
        rintro v hp ⟨rfl, rfl⟩
        refine ⟨trivial, go_ok _ 100 _ _ ?_⟩
        simp only [go_sem, Nat.reduceBEq, Nat.reduceAdd, Nat.zero_add, Try.results68]
        refine ⟨fun h => by rw [hrow, h]; rfl, fun h => ⟨by simp only [inI64]; omega, ?_⟩⟩
        have hm : mayB e = true := by simpa using h
        rw [hm, Bool.true_and] at hrow
        exact safe_lend (⟨i + 1, _, _, hlt, fun h => absurd h (by omega), hrow⟩ : G68 ix tm to es) (by simp only; omega) (Sub.front (X := [_]) ⟨rfl, rfl, rfl, rfl, rfl, rfl, rfl, trivial⟩ rfl)
    · intro h2 hrest
      have hi0 : 0 < i := by simp at h2; omega
      refine go_ok _ 16 _ _ ?_
      simp only [go_sem, Nat.reduceBEq, Nat.reduceAdd, Nat.zero_add]
      have e1 : ((i : Int) - 1).toNat = i - 1 := by omega
      rw [e1]
      refine ⟨by simp only [inI64]; omega, by omega, by decide, by simp only [inI64]; omega, by omega, by decide, ⟨by simp only [inI64]; omega, by omega, by decide⟩, ?_⟩
      refine Safe.sub ?_ hrest
      refine Sub.front (X := []) ⟨rfl, ?_, ?_, rfl, rfl, rfl, rfl, rfl, trivial⟩ rfl
      · simp only [look, go_sem, Nat.reduceBEq, prevI, if_neg (show ¬ i = 0 by omega)]
      · simp only [look, go_sem, Nat.reduceBEq, prevT, if_neg (show ¬ i = 0 by omega)]
    · intro h2 hrest
      have hi0 : i = 0 := by simp at h2; omega
      obtain ⟨rfl, rfl⟩ := h0 hi0
      refine go_ok _ 1 _ _ ?_
      simp only [go_sem, Nat.reduceBEq, Nat.reduceAdd, Nat.zero_add]
      refine Safe.sub ?_ hrest
      refine Sub.front (X := []) ⟨rfl, ?_, ?_, rfl, rfl, rfl, rfl, rfl, trivial⟩ rfl
      · simp only [look, go_sem, Nat.reduceBEq, prevI, if_pos hi0]
      · simp only [look, go_sem, Nat.reduceBEq, prevT, if_pos hi0]
  · have hi' : i = es.length := by simp at h; omega
    subst hi'
    rw [hr]
    simp [rowB]
end Go.SX
