/- Contracts of the raft package: the last change of voters. -/
import Derived.Test.YtpbbpmhahkeekaaSxR2
import Derived.Test.YtpbbpmhahkeekaaSxP
namespace Go.SX
open Go.Proofs
set_option maxRecDepth 1000000
variable {E : Env}

abbrev aE (e : Ent) : SV := .agg [I e.ix, I e.tm, I e.kd, e.d.sv]

theorem c90 (b c : Nat) (a : Option Addr) (cap : Nat) (es : List Ent) (hl : es.length < 2 ^ 62) : IterSpec Try.prog E 90 [.ptr c b 0] (.cells b 36 [vE a cap es]) es.length (fun i => [I i, aE (es.getD i default)]) := by
  intro l J Jx hY
  refine spec_of (keep := k90) (args' := [.fn (.yield l) [] [], .ptr 0 b 0]) Try.func90 rfl Try.ntmps90 s90_ok (by simp) ⟨rfl, fun _ h => by simp only [SV.oks, SV.ok] at h ⊢; exact ⟨⟨trivial, trivial⟩, trivial, trivial⟩⟩ (fun _ _ h => h) (go_ok _ 100 _ _ ?_)
  simp only [go_sem, s90, k90, Nat.reduceBEq]
  refine ⟨by simp only [inI64]; omega, ?_⟩
  refine safe_loop (fun i : {i : Nat // i ≤ es.length} => ⟨[(0, .fn (.yield l) [] []), (1, .ptr 0 b 0), (3, I ((i.1 : Int) - 1))], [.cells b 36 [vE a cap es], .abs (J i.1)]⟩) (fun i => i.1) ⟨es.length, Nat.le_refl _⟩
    (Sub.front (by simp [envSub, look]) rfl) ?_
  rintro ⟨i, hi⟩
  refine go_ok _ 100 _ _ ?_
  simp only [go_sem, Nat.reduceBEq, Try.results90]
  refine ⟨fun h => ?_, fun h => ?_⟩
  · have h0 : 0 < i := by simp at h; omega
    have ei : ((i : Int) - 1).toNat = i - 1 := by omega
    rw [ei]
    and_intros
    all_goals try (first | omega | trivial)
    obtain ⟨i, rfl⟩ : ∃ j, i = j + 1 := ⟨i - 1, by omega⟩
    refine (stp_yield [1] rfl rfl (hY i (by omega)) (by simp [SV.dens, SV.den]) (fun _ h => ?_) rfl (fun _ _ h => h) ?_).safe trivial
    · simpa using h
    · rintro v hp (⟨rfl, rfl⟩ | ⟨rfl, rfl⟩)
      · refine ⟨trivial, go_ok _ 100 _ _ ?_⟩
        simp only [go_sem, Nat.reduceBEq, Try.results90]
        refine ⟨by simp only [inI64]; omega, ?_⟩
        refine safe_lend ⟨i, by omega⟩ (by simp only; omega) (Sub.front ?_ rfl)
        simp only [envSub, look, go_sem, Nat.reduceBEq, and_true, Option.some.injEq]
        congr 2
        omega
      · refine ⟨trivial, go_ok _ 100 _ _ ?_⟩
        simp only [go_sem, Nat.reduceBEq, Try.results90]
        exact ⟨.inr trivial, fun h => by cases h⟩
  · have h0 : i = 0 := by simp at h; omega
    subst h0
    simp only [go_sem, true_or]

theorem c82 (a : Option Addr) (cap : Nat) (es : List Ent) : Spec Try.prog E 82 [vE a cap es] [] (fun v hp => ∃ b, v = .fn (.func 90) [] [.ptr 0 b 0] ∧ hp = [.cells b 36 [vE a cap es]]) := by
  refine spec_of (keep := k82) (args' := [vE a cap es]) Try.func82 rfl Try.ntmps82 s82_ok (by simp) ⟨rfl, fun _ h => h⟩ (fun _ _ h => h) (go_ok _ 100 _ _ ?_)
  simp only [go_sem, s82, k82, Nat.reduceBEq, Try.results82]
  exact fun b => ⟨b, rfl, rfl⟩

/-- the last change up to an index -/
def isCh (u : Int) (e : Ent) : Bool := decide (e.kd = 2) && decide (e.ix ≤ u)
def chg (es : List Ent) (u : Int) : Int := es.foldl (fun r e => bif isCh u e then e.ix else r) 0
theorem chg_false (u : Int) : ∀ (l : List Ent) (r : Int), (∀ e ∈ l, isCh u e = false) → l.foldl (fun r e => bif isCh u e then e.ix else r) r = r
  | [], _, _ => rfl
  | e :: l, r, h => by
    rw [List.foldl_cons, h e (by simp), cond_false]
    exact chg_false u l r (fun x hx => h x (by simp [hx]))
theorem chg_none {u : Int} {es : List Ent} (h : ∀ j, 0 ≤ j → j < es.length → isCh u (es.getD j default) = false) : chg es u = 0 :=
  chg_false u es 0 fun e he => by
    obtain ⟨j, hj, rfl⟩ := List.getElem_of_mem he
    simpa [List.getD_eq_getElem?_getD, hj] using h j (by omega) hj
theorem chg_hit {u : Int} {es : List Ent} {i : Nat} (hi : i < es.length) (h1 : isCh u (es.getD i default) = true) (h : ∀ j, i + 1 ≤ j → j < es.length → isCh u (es.getD j default) = false) : chg es u = (es.getD i default).ix := by
  have e0 : es = es.take i ++ (es.getD i default :: es.drop (i + 1)) := by
    simp [List.getD_eq_getElem?_getD, hi]
  have : chg es u = (es.take i ++ (es.getD i default :: es.drop (i + 1))).foldl (fun r e => bif isCh u e then e.ix else r) 0 := by rw [← e0]; rfl
  rw [this, List.foldl_append, List.foldl_cons, h1, cond_true]
  refine chg_false u _ _ fun e he => ?_
  obtain ⟨j, hj, rfl⟩ := List.getElem_of_mem he
  have hj2 : i + 1 + j < es.length := by simp at hj; omega
  rw [List.getElem_drop]
  simpa [List.getD_eq_getElem?_getD, hj2] using h (i + 1 + j) (by omega) hj2

theorem ag3 : aggOf Try.prog 3 = some none := by kernel_rfl
def s61a : SCode := .ops [(.alloc 6 43 [.int .i64 0, .int .i64 0, .int .i64 0, .slice none 0 0], []), (.store (.t 6) (.t 13) 4, [])]
def s61b : SCode := .block 1 (.seq (.ops [(.rd 14 (.fadd (.t 6) 2), []), (.rd 15 (.load (.t 14) none), []), (.rd 16 (.bin 0 .eql (.t 15) (.c (.int .i64 2))), []), (.rd 17 (.mv (.t 16)), []), (.grd 17 true 18 (.fadd (.t 6) 0), []),
  (.grd 17 true 19 (.load (.t 18) none), []), (.grd 17 true 20 (.load (.t 3) none), []), (.grd 17 true 21 (.bin 0 .leq (.t 19) (.t 20)), []), (.rd 22 (.pick (.t 17) (.t 21) (.c (.bool false))), [])])
  (.cond (.t 22) (.seq (.ops [(.rd 23 (.fadd (.t 6) 0), []), (.rd 24 (.load (.t 23) none), []), (.store (.t 4) (.t 24) 1, [])]) .ret) .skip))

theorem c61 (b : Nat) (u : Int) (T : TypeId) (cs : List SV) (a : Option Addr) (cap : Nat) (es : List Ent) (hc : getL cs 4 = some (vE a cap es)) (hl : es.length < 2 ^ 62) :
    Spec Try.prog E 61 [.ptr 0 b 0, I u] [.cells b T cs] (fun v hp => v = I (chg es u) ∧ hp = [.cells b T cs]) := by
  refine Spec.leave (Post := fun v hp => v = I (chg es u) ∧ ∃ X, hp = .cells b T cs :: X) ?_ (fun v hp ⟨h1, X, h2⟩ => ⟨[.cells b T cs], X, by simp [h2], h1, rfl⟩)
  refine spec_of (keep := k61) (args' := [.ptr 0 b 0, I u]) Try.func61 rfl Try.ntmps61 s61_ok (by simp) ⟨rfl, fun _ h => h⟩ (fun _ _ h => h) (go_ok _ 100 _ _ ?_)
  simp only [go_sem, s61, k61, Nat.reduceBEq, Nat.reduceAdd, Try.results61, hc]
  intro b1 b2
  refine (stp_call [] rfl rfl rfl ⟨_, Try.func82, rfl, rfl⟩ (c82 a cap es) rfl (fun _ h => h) rfl (fun _ _ h => h) ?_).safe trivial
  rintro v hp ⟨b3, rfl, rfl⟩
  refine ⟨trivial, go_ok _ 100 _ _ ?_⟩
  simp only [go_sem, Nat.reduceBEq, Nat.reduceAdd]
  have dv : ∀ x y z : Option SV, True := fun _ _ _ => trivial
  refine safe_range (sa := s61a) (sb := s61b) (c := 3) (n := es.length) (lb := [.ptr 0 b3 0]) (gf := 90)
    (HI := fun i => [.cells b T cs, .cells b1 3 [I u], .cells b2 3 [I 0], .emp, pureC (∀ j, i ≤ j → j < es.length → isCh u (es.getD j default) = false)])
    (ι := {x : Int // x = chg es u}) (XH := fun x => [.cells b T cs, .cells b1 3 [I u], .cells b2 3 [I x.1], .emp]) (el := fun i => [I i, aE (es.getD i default)])
    (κ := Nat) (stA := fun i b6 => ⟨[(3, .ptr 1 b1 0), (4, .ptr 2 b2 0), (6, .ptr 5 b6 0)], [.cells b T cs, .cells b1 3 [I u], .cells b2 3 [I 0], .emp, pureC (∀ j, i + 1 ≤ j → j < es.length → isCh u (es.getD j default) = false), .cells b6 43 (encE (es.getD i default))]⟩) Jump.ret rfl rfl rfl ⟨_, Try.func90, rfl, rfl⟩ ?_ ?_ rfl (by simp) ?_ ⟨by simp, by simp⟩ (fun _ => rfl) (c90 b3 0 a cap es hl) ?_ ?_ ?_
  · show comp Try.prog 25 _ = _
    kernel_rfl
  · show comp Try.prog 25 _ = _
    kernel_rfl
  · intro ro H h
    exact hsat_pure (hp := [.cells b T cs, .cells b1 3 [I u], .cells b2 3 [I 0], .emp]) (by omega) h
  · intro i hi l
    refine ⟨go_ok _ 100 _ _ ?_, fun b6 => ?_⟩
    · simp only [go_sem, s61a, penv, inRd, Nat.reduceBEq, Nat.reduceAdd, List.zip_cons_cons, List.zip_nil_right]
      intro b6
      exact safe_bot fun ro0 F a w hg => ⟨rfl, b6, (Sub.front (by simp [envSub, look]) rfl : Sub _ _).gam hg⟩
    · refine safe_pure 4 rfl fun hall => go_ok _ 100 _ _ ?_
      simp only [go_sem, s61b, encE, inRd, Nat.reduceBEq, Nat.reduceAdd]
      refine ⟨fun h => by rw [h]; rfl, fun h => ?_, fun h => ?_⟩
      · refine safe_ret_bot rfl fun ro0 F a w hg => .inr ⟨rfl, ⟨(es.getD i default).ix, (chg_hit hi h hall).symm⟩, hg.memIs (X := [_, _]) fun ro H h => h⟩
      · refine safe_bot fun ro0 F a w hg => .inl ⟨rfl, ?_⟩
        refine hg.memIs (X := [_]) fun ro H h' => hsat_set (hp := [.cells b T cs, .cells b1 3 [I u], .cells b2 3 [I 0], .emp, pureC _, _]) 4 (fun H hh => ⟨hh.1, fun j hj1 hj2 => ?_⟩) h'
        rcases Nat.lt_or_eq_of_le hj1 with h1 | rfl
        · exact hall j h1 hj2
        · exact h
  · intro d
    refine safe_pure 4 rfl fun hall => go_ok _ 100 _ _ ?_
    simp only [go_sem, withD, Nat.reduceBEq, Nat.reduceAdd]
    refine safe_retD (c := 6) (l := [I 0]) (vc := True) rfl rfl ?_ trivial ⟨by rw [chg_none hall]; rfl, _, rfl⟩ rfl
    simp only [retC, Try.results61, go_sem, ag3, Nat.reduceBEq]
  · rintro d ⟨x, rfl⟩
    refine safe_retD (c := 5) (l := [I (chg es u)]) (vc := True) rfl rfl ?_ trivial ⟨rfl, _, rfl⟩ rfl
    simp only [retC, Try.results61, go_sem, withD, ag3, Nat.reduceBEq]
end Go.SX
