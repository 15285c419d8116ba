/- Joined texts: T1 T2 T3. -/
import Derived.Test.YtpbbpmhahkeekaaSxZA
import Derived.Test.YtpbbpmhahkeekaaSxSAc
import Derived.Test.YtpbbpmhahkeekaaSxSBc
/- Raft: the small contracts (joined out of R1-R7). -/
/- Contracts of the raft package: small ones. -/
namespace Go.SX
open Go.Proofs
set_option maxRecDepth 1000000
variable {E : Env}

def isIdB (n : Int) : Bool := decide (0 ≤ n) && decide (n ≤ 1073741823)

theorem c67 (n : Int) : Spec Try.prog E 67 [I n] [] (fun v hp => v = Bl (isIdB n) ∧ hp = []) := by
  refine spec_of (keep := k67) (args' := [I n]) Try.func67 rfl Try.ntmps67 s67_ok (by simp) ⟨rfl, fun _ h => h⟩ (fun _ _ h => h) (go_ok _ 100 _ _ ?_)
  simp only [go_sem, s67, k67, Try.results67, Nat.reduceBEq]
  simp [isIdB]

def okV (xs : List Int) (i : Nat) : Bool := isIdB (xs.getD i 0) && (i == 0 || decide (xs.getD (i - 1) 0 < xs.getD i 0))
def areV (xs : List Int) : Bool := (List.range xs.length).all (okV xs) && (decide (1 ≤ xs.length) && decide (xs.length ≤ 7))

theorem c59 (a : Option Addr) (cap : Nat) (xs : List Int) (hl : xs.length < 2 ^ 62) : Spec Try.prog E 59 [vI a cap xs] [] (fun v hp => v = Bl (areV xs) ∧ hp = []) := by
  refine spec_of (keep := k59) (args' := [vI a cap xs]) Try.func59 rfl Try.ntmps59 s59_ok (by simp) ⟨rfl, fun _ h => h⟩ (fun _ _ h => h) (go_ok _ 100 _ _ ?_)
  simp only [go_sem, s59, k59, Nat.reduceBEq]
  refine safe_loop (fun i : {i : Nat // i ≤ xs.length ∧ ∀ k, k < i → okV xs k = true} => ⟨[(0, vI a cap xs), (2, Bl false), (5, vI a cap xs), (6, I xs.length), (7, I i.1)], []⟩) (fun i => xs.length - i.1) ⟨0, by omega, by omega⟩
    (Sub.front (by simp [envSub, look]) rfl) ?_
  rintro ⟨i, hi, hall⟩
  refine go_ok _ 100 _ _ ?_
  simp only [go_sem, Nat.reduceBEq]
  refine ⟨fun h => ?_, fun h => ?_⟩
  · have hlt : i < xs.length := by simpa using h
    refine ⟨by omega, by omega, ?_⟩
    refine (stp_call [] rfl rfl rfl ⟨_, Try.func67, rfl, rfl⟩ (c67 _) rfl (fun _ h => h) rfl (fun _ _ h => h) ?_).safe trivial
    rintro v hp ⟨rfl, rfl⟩
    refine ⟨trivial, go_ok _ 100 _ _ ?_⟩
    simp only [go_sem, Nat.reduceBEq, Try.results59, Int.toNat_natCast, inI64]
    have hk : (!isIdB (xs.getD i 0) || decide (0 < (i : Int)) && decide (xs.getD i 0 ≤ xs.getD ((i : Int) - 1).toNat 0)) = !okV xs i := by
      rw [show ((i : Int) - 1).toNat = i - 1 by omega]
      unfold okV
      rcases Nat.eq_zero_or_pos i with h0 | h0
      · subst h0; simp
      · have : decide (xs.getD i 0 ≤ xs.getD (i - 1) 0) = !decide (xs.getD (i - 1) 0 < xs.getD i 0) := by simp only [← decide_not, Int.not_lt]
        rw [this]
        have : (i == 0) = false := by simp; omega
        have h2 : decide (0 < (i : Int)) = true := by simp; omega
        rw [this, h2]
        cases isIdB (xs.getD i 0) <;> simp
    rw [hk]
    and_intros
    all_goals try (intros; first | omega | simp_all; done | (simp_all; omega))
    · intro h'
      have : okV xs i = false := by simpa using h'
      have : (List.range xs.length).all (okV xs) = false := by
        rw [List.all_eq_false]
        exact ⟨i, by simpa using hlt, by simp [this]⟩
      simp [areV, this]
    · intro h'
      have h' : okV xs i = true := by simpa using h'
      refine ⟨by omega, ?_⟩
      refine safe_lend ⟨i + 1, hlt, fun k hk => ?_⟩ (by simp only; omega) (Sub.front (by simp [envSub, look]) rfl)
      rcases Nat.lt_or_eq_of_le (Nat.lt_succ_iff.1 hk) with h1 | rfl
      · exact hall k h1
      · exact h'
  · simp only [Try.results59, go_sem]
    have hi' : i = xs.length := by simp at h; omega
    have : (List.range xs.length).all (okV xs) = true := by
      rw [List.all_eq_true]
      intro k hk
      exact hall k (by rw [hi']; simpa using hk)
    have e1 : decide ((1 : Int) ≤ (xs.length : Int)) = decide (1 ≤ xs.length) := by apply Bool.eq_iff_iff.2; simp; omega
    have e2 : decide ((xs.length : Int) ≤ 7) = decide (xs.length ≤ 7) := by apply Bool.eq_iff_iff.2; simp; omega
    simp only [areV, this, Bool.true_and, e1, e2]
    trivial
end Go.SX

/- Contracts of the raft package: copies. -/
namespace Go.SX
open Go.Proofs
set_option maxRecDepth 1000000
variable {E : Env}

structure By where
  a : Option Addr
  cap : Nat
  xs : List UInt8
instance : Inhabited By := ⟨⟨none, 0, []⟩⟩
abbrev By.sv (b : By) : SV := vB b.a b.cap b.xs
structure Ent where
  ix : Int
  tm : Int
  kd : Int
  d : By
instance : Inhabited Ent := ⟨⟨0, 0, 0, default⟩⟩
def encE (e : Ent) : List SV := [I e.ix, I e.tm, I e.kd, vB e.d.a e.d.cap e.d.xs]
abbrev vE (a : Option Addr) (cap : Nat) (xs : List Ent) : SV := .view a xs.length cap 4 (rowsV encE xs)
@[simp, go_sem] theorem rowsE0 (xs : List Ent) (i : Nat) : rowsV encE xs i 0 = I (xs.getD i default).ix := rfl
@[simp, go_sem] theorem rowsE1 (xs : List Ent) (i : Nat) : rowsV encE xs i 1 = I (xs.getD i default).tm := rfl
@[simp, go_sem] theorem rowsE2 (xs : List Ent) (i : Nat) : rowsV encE xs i 2 = I (xs.getD i default).kd := rfl
@[simp, go_sem] theorem rowsE3 (xs : List Ent) (i : Nat) : rowsV encE xs i 3 = (xs.getD i default).d.sv := rfl
def CloneP (sz : Nat) {α : Type} [Inhabited α] (enc : α → List SV) (xs : List α) (v : SV) (hp : List Chunk) : Prop :=
  (xs = [] ∧ v = .view none 0 0 1 (fun _ _ => .val undef)) ∨ ∃ (c : Nat) (nl : Bool) (b : Nat) (T : TypeId) (off cap : Nat), v = .osl c nl b off xs.length cap ∧ hp = [.row nl b T off sz xs.length cap (rowsV enc xs)]

theorem CloneP.fin {sz : Nat} {α : Type} [Inhabited α] {enc : α → List SV} {xs : List α} {v : SV} {hp : List Chunk} (h : CloneP sz enc xs v hp) {Post' : SV → List Chunk → Prop} (hP : ∀ a' cap', Post' (.view a' xs.length cap' sz (rowsV enc xs)) []) :
    (∃ v', Eqv v v' ∧ Post' v' []) ∨ ∃ c nl b T off sz n cap f, v = .osl c nl b off n cap ∧ (∃ X, hp = .row nl b T off sz n cap f :: X) ∧ Post' (frz nl b off n cap sz f) [] := by
  rcases h with ⟨rfl, rfl⟩ | ⟨c, nl, b, T, off, cap, rfl, rfl⟩
  · exact .inl ⟨_, Eqv.nil 0 1 sz _ (rowsV enc []), hP none 0⟩
  · exact .inr ⟨c, nl, b, T, off, sz, xs.length, cap, _, rfl, ⟨[], rfl⟩, hP _ _⟩

theorem c38 (a : Option Addr) (cap : Nat) (xs : List Int) (hl : xs.length * 8 ≤ 140737488355328) : Spec Try.prog E 38 [vI a cap xs] [] (fun v hp => hp = [] ∧ ∃ a' cap', v = vI a' cap' xs) := by
  refine Spec.of_ok fun ⟨ro, hro⟩ => ?_
  have ha := view_nil (oks_iff.1 hro _ (List.mem_singleton.2 rfl)) (by omega)
  refine Spec.frz (Post := CloneP 1 encI xs) ?_ (fun v hp h => h.fin (Post' := fun v hp => hp = [] ∧ ∃ a' cap', v = vI a' cap' xs) fun a' cap' => ⟨rfl, a', cap', rfl⟩)
  refine spec_of (keep := k38) (args' := [vI a cap xs]) Try.func38 rfl Try.ntmps38 s38_ok (by simp) ⟨rfl, fun _ h => h⟩ (fun _ _ h => h) (go_ok _ 100 _ _ ?_)
  simp only [go_sem, s38, k38, Nat.reduceBEq, Try.results38]
  refine ⟨fun h => .inl ⟨List.length_eq_zero_iff.1 (ha h), rfl⟩, fun h b => ?_⟩
  refine (stp_app (c := 0) (x := vI a cap xs) (gx := rowsV encI xs) rfl rfl rfl rfl rfl (onesF_rows fun x => ⟨rfl, by simp [encI, ones, one, Value.oneCell']⟩) (by omega) fun nl' b' off' cap' => ?_).safe trivial
  refine ⟨trivial, ?_⟩
  rw [Nat.zero_add, appF_zero]
  refine go_ok _ 100 _ _ ?_
  simp only [go_sem, Nat.reduceBEq, Try.results38]
  exact .inr ⟨0, nl', b', 3, off', cap', rfl, rfl⟩
end Go.SX

/- Contracts of the raft package: the last change of voters. -/
namespace Go.SX
open Go.Proofs
set_option maxRecDepth 1000000
variable {E : Env}

abbrev aE (e : Ent) : SV := .agg [I e.ix, I e.tm, I e.kd, e.d.sv]

theorem c90 (b c : Nat) (a : Option Addr) (cap : Nat) (es : List Ent) (hl : es.length < 2 ^ 62) : IterSpec Try.prog E 90 [.ptr c b 0] (.cells b 36 [vE a cap es]) es.length (fun i => [I i, aE (es.getD i default)]) := by
  intro l J Jx hY
  refine spec_of (keep := k90) (args' := [.fn (.yield l) [] [], .ptr 0 b 0]) Try.func90 rfl Try.ntmps90 s90_ok (by simp) ⟨rfl, fun _ h => by simp only [SV.oks, SV.ok] at h ⊢; exact ⟨⟨trivial, trivial⟩, trivial, trivial⟩⟩ (fun _ _ h => h) (go_ok _ 100 _ _ ?_)
  simp only [go_sem, s90, k90, Nat.reduceBEq]
  refine ⟨by simp only [inI64]; omega, ?_⟩
  refine safe_loop (fun i : {i : Nat // i ≤ es.length} => ⟨[(0, .fn (.yield l) [] []), (1, .ptr 0 b 0), (3, I ((i.1 : Int) - 1))], [.cells b 36 [vE a cap es], .abs (J i.1)]⟩) (fun i => i.1) ⟨es.length, Nat.le_refl _⟩
    (Sub.front (by simp [envSub, look]) rfl) ?_
  rintro ⟨i, hi⟩
  refine go_ok _ 100 _ _ ?_
  simp only [go_sem, Nat.reduceBEq, Try.results90]
  refine ⟨fun h => ?_, fun h => ?_⟩
  · have h0 : 0 < i := by simp at h; omega
    have ei : ((i : Int) - 1).toNat = i - 1 := by omega
    rw [ei]
    and_intros
    all_goals try (first | omega | trivial)
    obtain ⟨i, rfl⟩ : ∃ j, i = j + 1 := ⟨i - 1, by omega⟩
    refine (stp_yield [1] rfl rfl (hY i (by omega)) (by simp [SV.dens, SV.den]) (fun _ h => ?_) rfl (fun _ _ h => h) ?_).safe trivial
    · simpa using h
    · rintro v hp (⟨rfl, rfl⟩ | ⟨rfl, rfl⟩)
      · refine ⟨trivial, go_ok _ 100 _ _ ?_⟩
        simp only [go_sem, Nat.reduceBEq, Try.results90]
        refine ⟨by simp only [inI64]; omega, ?_⟩
        refine safe_lend ⟨i, by omega⟩ (by simp only; omega) (Sub.front ?_ rfl)
        simp only [envSub, look, go_sem, Nat.reduceBEq, and_true, Option.some.injEq]
        congr 2
        omega
      · refine ⟨trivial, go_ok _ 100 _ _ ?_⟩
        simp only [go_sem, Nat.reduceBEq, Try.results90]
        exact ⟨.inr trivial, fun h => by cases h⟩
  · have h0 : i = 0 := by simp at h; omega
    subst h0
    simp only [go_sem, true_or]

theorem c82 (a : Option Addr) (cap : Nat) (es : List Ent) : Spec Try.prog E 82 [vE a cap es] [] (fun v hp => ∃ b, v = .fn (.func 90) [] [.ptr 0 b 0] ∧ hp = [.cells b 36 [vE a cap es]]) := by
  refine spec_of (keep := k82) (args' := [vE a cap es]) Try.func82 rfl Try.ntmps82 s82_ok (by simp) ⟨rfl, fun _ h => h⟩ (fun _ _ h => h) (go_ok _ 100 _ _ ?_)
  simp only [go_sem, s82, k82, Nat.reduceBEq, Try.results82]
  exact fun b => ⟨b, rfl, rfl⟩

/-- the last change up to an index -/
def isCh (u : Int) (e : Ent) : Bool := decide (e.kd = 2) && decide (e.ix ≤ u)
def chg (es : List Ent) (u : Int) : Int := es.foldl (fun r e => bif isCh u e then e.ix else r) 0
theorem chg_false (u : Int) : ∀ (l : List Ent) (r : Int), (∀ e ∈ l, isCh u e = false) → l.foldl (fun r e => bif isCh u e then e.ix else r) r = r
  | [], _, _ => rfl
  | e :: l, r, h => by
    rw [List.foldl_cons, h e (by simp), cond_false]
    exact chg_false u l r (fun x hx => h x (by simp [hx]))
theorem chg_none {u : Int} {es : List Ent} (h : ∀ j, 0 ≤ j → j < es.length → isCh u (es.getD j default) = false) : chg es u = 0 :=
  chg_false u es 0 fun e he => by
    obtain ⟨j, hj, rfl⟩ := List.getElem_of_mem he
    simpa [List.getD_eq_getElem?_getD, hj] using h j (by omega) hj
theorem chg_hit {u : Int} {es : List Ent} {i : Nat} (hi : i < es.length) (h1 : isCh u (es.getD i default) = true) (h : ∀ j, i + 1 ≤ j → j < es.length → isCh u (es.getD j default) = false) : chg es u = (es.getD i default).ix := by
  have e0 : es = es.take i ++ (es.getD i default :: es.drop (i + 1)) := by
    simp [List.getD_eq_getElem?_getD, hi]
  have : chg es u = (es.take i ++ (es.getD i default :: es.drop (i + 1))).foldl (fun r e => bif isCh u e then e.ix else r) 0 := by rw [← e0]; rfl
  rw [this, List.foldl_append, List.foldl_cons, h1, cond_true]
  refine chg_false u _ _ fun e he => ?_
  obtain ⟨j, hj, rfl⟩ := List.getElem_of_mem he
  have hj2 : i + 1 + j < es.length := by simp at hj; omega
  rw [List.getElem_drop]
  simpa [List.getD_eq_getElem?_getD, hj2] using h (i + 1 + j) (by omega) hj2

theorem ag3 : aggOf Try.prog 3 = some none := by kernel_rfl
def s61a : SCode := .ops [(.alloc 6 43 [.int .i64 0, .int .i64 0, .int .i64 0, .slice none 0 0], []), (.store (.t 6) (.t 13) 4, [])]
def s61b : SCode := .block 1 (.seq (.ops [(.rd 14 (.fadd (.t 6) 2), []), (.rd 15 (.load (.t 14) none), []), (.rd 16 (.bin 0 .eql (.t 15) (.c (.int .i64 2))), []), (.rd 17 (.mv (.t 16)), []), (.grd 17 true 18 (.fadd (.t 6) 0), []),
  (.grd 17 true 19 (.load (.t 18) none), []), (.grd 17 true 20 (.load (.t 3) none), []), (.grd 17 true 21 (.bin 0 .leq (.t 19) (.t 20)), []), (.rd 22 (.pick (.t 17) (.t 21) (.c (.bool false))), [])])
  (.cond (.t 22) (.seq (.ops [(.rd 23 (.fadd (.t 6) 0), []), (.rd 24 (.load (.t 23) none), []), (.store (.t 4) (.t 24) 1, [])]) .ret) .skip))

theorem c61 (b : Nat) (u : Int) (T : TypeId) (cs : List SV) (a : Option Addr) (cap : Nat) (es : List Ent) (hc : getL cs 4 = some (vE a cap es)) (hl : es.length < 2 ^ 62) :
    Spec Try.prog E 61 [.ptr 0 b 0, I u] [.cells b T cs] (fun v hp => v = I (chg es u) ∧ hp = [.cells b T cs]) := by
  refine Spec.leave (Post := fun v hp => v = I (chg es u) ∧ ∃ X, hp = .cells b T cs :: X) ?_ (fun v hp ⟨h1, X, h2⟩ => ⟨[.cells b T cs], X, by simp [h2], h1, rfl⟩)
  refine spec_of (keep := k61) (args' := [.ptr 0 b 0, I u]) Try.func61 rfl Try.ntmps61 s61_ok (by simp) ⟨rfl, fun _ h => h⟩ (fun _ _ h => h) (go_ok _ 100 _ _ ?_)
  simp only [go_sem, s61, k61, Nat.reduceBEq, Nat.reduceAdd, Try.results61, hc]
  intro b1 b2
  refine (stp_call [] rfl rfl rfl ⟨_, Try.func82, rfl, rfl⟩ (c82 a cap es) rfl (fun _ h => h) rfl (fun _ _ h => h) ?_).safe trivial
  rintro v hp ⟨b3, rfl, rfl⟩
  refine ⟨trivial, go_ok _ 100 _ _ ?_⟩
  simp only [go_sem, Nat.reduceBEq, Nat.reduceAdd]
  have dv : ∀ x y z : Option SV, True := fun _ _ _ => trivial
  refine safe_range (sa := s61a) (sb := s61b) (c := 3) (n := es.length) (lb := [.ptr 0 b3 0]) (gf := 90)
    (HI := fun i => [.cells b T cs, .cells b1 3 [I u], .cells b2 3 [I 0], .emp, pureC (∀ j, i ≤ j → j < es.length → isCh u (es.getD j default) = false)])
    (ι := {x : Int // x = chg es u}) (XH := fun x => [.cells b T cs, .cells b1 3 [I u], .cells b2 3 [I x.1], .emp]) (el := fun i => [I i, aE (es.getD i default)])
    (κ := Nat) (stA := fun i b6 => ⟨[(3, .ptr 1 b1 0), (4, .ptr 2 b2 0), (6, .ptr 5 b6 0)], [.cells b T cs, .cells b1 3 [I u], .cells b2 3 [I 0], .emp, pureC (∀ j, i + 1 ≤ j → j < es.length → isCh u (es.getD j default) = false), .cells b6 43 (encE (es.getD i default))]⟩) Jump.ret rfl rfl rfl ⟨_, Try.func90, rfl, rfl⟩ ?_ ?_ rfl (by simp) ?_ ⟨by simp, by simp⟩ (fun _ => rfl) (c90 b3 0 a cap es hl) ?_ ?_ ?_
  · show comp Try.prog 25 _ = _
    kernel_rfl
  · show comp Try.prog 25 _ = _
    kernel_rfl
  · intro ro H h
    exact hsat_pure (hp := [.cells b T cs, .cells b1 3 [I u], .cells b2 3 [I 0], .emp]) (by omega) h
  · intro i hi l
    refine ⟨go_ok _ 100 _ _ ?_, fun b6 => ?_⟩
    · simp only [go_sem, s61a, penv, inRd, Nat.reduceBEq, Nat.reduceAdd, List.zip_cons_cons, List.zip_nil_right]
      intro b6
      exact safe_bot fun ro0 F a w hg => ⟨rfl, b6, (Sub.front (by simp [envSub, look]) rfl : Sub _ _).gam hg⟩
    · refine safe_pure 4 rfl fun hall => go_ok _ 100 _ _ ?_
      simp only [go_sem, s61b, encE, inRd, Nat.reduceBEq, Nat.reduceAdd]
      refine ⟨fun h => by rw [h]; rfl, fun h => ?_, fun h => ?_⟩
      · refine safe_ret_bot rfl fun ro0 F a w hg => .inr ⟨rfl, ⟨(es.getD i default).ix, (chg_hit hi h hall).symm⟩, hg.memIs (X := [_, _]) fun ro H h => h⟩
      · refine safe_bot fun ro0 F a w hg => .inl ⟨rfl, ?_⟩
        refine hg.memIs (X := [_]) fun ro H h' => hsat_set (hp := [.cells b T cs, .cells b1 3 [I u], .cells b2 3 [I 0], .emp, pureC _, _]) 4 (fun H hh => ⟨hh.1, fun j hj1 hj2 => ?_⟩) h'
        rcases Nat.lt_or_eq_of_le hj1 with h1 | rfl
        · exact hall j h1 hj2
        · exact h
  · intro d
    refine safe_pure 4 rfl fun hall => go_ok _ 100 _ _ ?_
    simp only [go_sem, withD, Nat.reduceBEq, Nat.reduceAdd]
    refine safe_retD (c := 6) (l := [I 0]) (vc := True) rfl rfl ?_ trivial ⟨by rw [chg_none hall]; rfl, _, rfl⟩ rfl
    simp only [retC, Try.results61, go_sem, ag3, Nat.reduceBEq]
  · rintro d ⟨x, rfl⟩
    refine safe_retD (c := 5) (l := [I (chg es u)]) (vc := True) rfl rfl ?_ trivial ⟨rfl, _, rfl⟩ rfl
    simp only [retC, Try.results61, go_sem, withD, ag3, Nat.reduceBEq]
end Go.SX

/- Contracts of the raft package: the state; the journal's small ones. -/
namespace Go.SX
open Go.Proofs
set_option maxRecDepth 1000000
variable {E : Env}

structure RS where
  mIx : Int
  mTm : Int
  mV : SV
  dat : SV
  la : Option Addr
  lc : Nat
  es : List Ent
  fi : SV
  fresh : Int
  ticks : Int
  taken : Int
  draw : Int
  beats : Int
  id : Int
  hT : Int
  hV : Int
  hC : Int
  tT : Int
  tV : Int
  tC : Int
  applied : Int
  role : Int
  leader : Int
  votes : SV
  peers : SV
  round : Int
  waits : SV
  reads : SV
  msgs : SV
  snap : Bool
@[go_sem] def RS.cs (s : RS) : List SV := [I s.mIx, I s.mTm, s.mV, s.dat, vE s.la s.lc s.es, s.fi, I s.fresh, I s.ticks, I s.taken, I s.draw, I s.beats, I s.id, I s.hT, I s.hV, I s.hC, I s.tT, I s.tV, I s.tC, I s.applied, I s.role, I s.leader,
  s.votes, s.peers, I s.round, s.waits, s.reads, s.msgs, Bl s.snap]
abbrev rC (b : Nat) (s : RS) : Chunk := .cells b 95 s.cs

/-- numbers that do not run over -/
structure RS.small (s : RS) : Prop where
  m0 : 0 ≤ s.mIx
  m1 : s.mIx ≤ 2 ^ 61
  len : s.es.length ≤ 2 ^ 40

def RS.last (s : RS) : Int := s.mIx + s.es.length
def RS.term (s : RS) (i : Int) : Int :=
  if 0 < i - s.mIx ∧ i - s.mIx ≤ s.es.length then (s.es.getD (i - s.mIx - 1).toNat default).tm else if i = s.mIx ∧ 0 < i then s.mTm else 0

theorem c40 (b : Nat) (s : RS) (h : s.small) : Spec Try.prog E 40 [.ptr 0 b 0] [rC b s] (fun v hp => v = I s.last ∧ hp = [rC b s]) := by
  refine spec_of (keep := k40) (args' := [.ptr 0 b 0]) Try.func40 rfl Try.ntmps40 s40_ok (by simp) ⟨rfl, fun _ h => h⟩ (fun _ _ h => h) (go_ok _ 100 _ _ ?_)
  simp only [go_sem, s40, k40, Nat.reduceBEq, Nat.reduceAdd, Nat.zero_add, Try.results40, inI64]
  obtain ⟨h1, h2, h3⟩ := h
  exact ⟨by omega, rfl⟩

theorem c39 (b : Nat) (s : RS) (i : Int) (h : s.small) (h0 : -(2 ^ 61) ≤ i) (h1 : i ≤ 2 ^ 61) : Spec Try.prog E 39 [.ptr 0 b 0, I i] [rC b s] (fun v hp => v = I (s.term i) ∧ hp = [rC b s]) := by
  refine spec_of (keep := k39) (args' := [.ptr 0 b 0, I i]) Try.func39 rfl Try.ntmps39 s39_ok (by simp) ⟨rfl, fun _ h => h⟩ (fun _ _ h => h) (go_ok _ 100 _ _ ?_)
  simp only [go_sem, s39, k39, Nat.reduceBEq, Nat.reduceAdd, Nat.zero_add, Try.results39, inI64]
  obtain ⟨m1, m2, m3⟩ := h
  refine ⟨by omega, fun h => by rw [h]; rfl, fun h => ?_, fun h => ⟨fun h' => ?_, fun h' => ?_⟩⟩
  all_goals simp only [Bool.and_eq_true, decide_eq_true_eq, Bool.and_eq_false_iff, decide_eq_false_iff_not] at *
  · refine ⟨by omega, by omega, by omega, ?_⟩
    unfold RS.term
    rw [if_pos h]
  · unfold RS.term
    rw [if_neg (by omega), if_pos h']
  · unfold RS.term
    rw [if_neg (by omega), if_neg (by omega)]

theorem c76 (a : Option Addr) (cap : Nat) (xs : List Int) (x : Int) (hl : xs.length < 2 ^ 62) : Spec Try.prog E 76 [vI a cap xs, I x] [] (fun v hp => ∃ r : Int, v = I r ∧ (0 ≤ r ↔ x ∈ xs) ∧ hp = []) := by
  refine spec_of (keep := k76) (args' := [vI a cap xs, I x]) Try.func76 rfl Try.ntmps76 s76_ok (by simp) ⟨rfl, fun _ h => h⟩ (fun _ _ h => h) (go_ok _ 100 _ _ ?_)
  simp only [go_sem, s76, k76, Nat.reduceBEq, Nat.reduceAdd, Nat.zero_add]
  refine safe_loop (fun i : {i : Nat // i ≤ xs.length ∧ ∀ k, k < i → x ≠ xs.getD k 0} => ⟨[(0, vI a cap xs), (1, I x), (7, I xs.length), (8, I i.1)], []⟩) (fun i => xs.length - i.1) ⟨0, by omega, by omega⟩
    (Sub.front (by simp [envSub, look]) rfl) ?_
  rintro ⟨i, hi, hall⟩
  refine go_ok _ 100 _ _ ?_
  simp only [go_sem, Nat.reduceBEq, Nat.reduceAdd, Nat.zero_add, Try.results76]
  rw [Int.toNat_natCast]
  refine ⟨fun h => ?_, fun h => ⟨-1, rfl, ?_⟩⟩
  · have hlt : i < xs.length := by simpa using h
    refine ⟨by omega, by omega, fun h => ⟨i, rfl, ⟨fun _ => ?_, fun _ => by omega⟩⟩, fun h => ⟨by simp only [inI64]; omega, ?_⟩⟩
    · have : x = xs.getD i 0 := by simpa using h
      rw [this, List.getD_eq_getElem?_getD, List.getElem?_eq_getElem hlt]
      exact List.getElem_mem _
    · have h : x ≠ xs.getD i 0 := by simpa using h
      refine safe_lend ⟨i + 1, hlt, fun k hk => ?_⟩ (by simp only; omega) (Sub.front (by simp [envSub, look]) rfl)
      rcases Nat.lt_or_eq_of_le (Nat.lt_succ_iff.1 hk) with h1 | rfl
      · exact hall k h1
      · exact h
  · have hi' : i = xs.length := by simp at h; omega
    refine ⟨fun h => by omega, fun hm => ?_⟩
    obtain ⟨k, hk, rfl⟩ := List.getElem_of_mem hm
    exact absurd (by simp [List.getD_eq_getElem?_getD, hk]) (hall k (by omega))

theorem c54 (a : Option Addr) (cap : Nat) (xs : List Int) (x : Int) (hl : xs.length < 2 ^ 62) : Spec Try.prog E 54 [vI a cap xs, I x] [] (fun v hp => v = Bl (decide (x ∈ xs)) ∧ hp = []) := by
  refine spec_of (keep := k54) (args' := [vI a cap xs, I x]) Try.func54 rfl Try.ntmps54 s54_ok (by simp) ⟨rfl, fun _ h => h⟩ (fun _ _ h => h) (go_ok _ 100 _ _ ?_)
  simp only [go_sem, s54, k54, Nat.reduceBEq, Nat.reduceAdd, Nat.zero_add]
  refine (stp_call [] rfl rfl rfl ⟨_, Try.func76, rfl, rfl⟩ (c76 a cap xs x hl) rfl (fun _ h => h) rfl (fun _ _ h => h) ?_).safe trivial
  rintro v hp ⟨r, rfl, hr, rfl⟩
  refine ⟨trivial, go_ok _ 100 _ _ ?_⟩
  simp only [go_sem, Nat.reduceBEq, Try.results54]
  simp [hr]

/-- a copy that is the caller's own -/
theorem c38o (c : Nat) (a : Option Addr) (cap : Nat) (xs : List Int) (hl : xs.length * 8 ≤ 140737488355328) (h0 : 0 < xs.length) :
    Spec Try.prog E 38 [vI a cap xs] [] (fun v hp => ∃ nl b off cap', v = .osl c nl b off xs.length cap' ∧ hp = [.row nl b 3 off 1 xs.length cap' (rowsV encI xs)]) := by
  refine Spec.of_ok fun ⟨ro, hro⟩ => ?_
  have ha := view_nil (oks_iff.1 hro _ (List.mem_singleton.2 rfl)) (by omega)
  refine Spec.conv (Post := fun v hp => ∃ nl b off cap', v = .osl 0 nl b off xs.length cap' ∧ hp = [.row nl b 3 off 1 xs.length cap' (rowsV encI xs)]) ?_ ?_
  · refine spec_of (keep := k38) (args' := [vI a cap xs]) Try.func38 rfl Try.ntmps38 s38_ok (by simp) ⟨rfl, fun _ h => h⟩ (fun _ _ h => h) (go_ok _ 100 _ _ ?_)
    simp only [go_sem, s38, k38, Nat.reduceBEq, Try.results38]
    refine ⟨fun h => absurd (ha h) (by omega), fun h b => ?_⟩
    refine (stp_app (c := 0) (x := vI a cap xs) (gx := rowsV encI xs) rfl rfl rfl rfl rfl (onesF_rows fun x => ⟨rfl, by simp [encI, ones, one, Value.oneCell']⟩) (by omega) fun nl' b' off' cap' => ?_).safe trivial
    refine ⟨trivial, ?_⟩
    rw [Nat.zero_add, appF_zero]
    refine go_ok _ 100 _ _ ?_
    simp only [go_sem, Nat.reduceBEq, Try.results38]
    exact ⟨nl', b', off', cap', rfl, rfl⟩
  · rintro v hp ⟨nl, b, off, cap', rfl, rfl⟩
    exact ⟨.osl c nl b off xs.length cap', _, [], ⟨rfl, fun _ h => h⟩, HEqv.refl _, nl, b, off, cap', rfl, rfl⟩

end Go.SX

/- Contracts of the raft package: the other voters (a single voter has none); copies of entries. -/
namespace Go.SX
open Go.Proofs
set_option maxRecDepth 1000000
variable {E : Env}

/-- the closure of 'others': is it this node? -/
theorem c84 (b bx : Nat) (s : RS) (v : Int) : Spec Try.prog E 84 [I v, .ptr 1 bx 0] [rC b s, .cells bx 24 [.ptr 0 b 0]] (fun r hp => r = Bl (decide (v = s.id)) ∧ hp = [rC b s, .cells bx 24 [.ptr 0 b 0]]) := by
  refine spec_of (keep := k84) (args' := [I v, .ptr 1 bx 0]) Try.func84 rfl Try.ntmps84 s84_ok (by simp) ⟨rfl, fun _ h => h⟩ (fun _ _ h => h) (go_ok _ 100 _ _ ?_)
  simp only [go_sem, s84, k84, Nat.reduceBEq, Nat.reduceAdd, Nat.zero_add, Try.results84]

theorem c70 (b : Nat) (s : RS) : Spec Try.prog E 70 [.ptr 0 b 0] [rC b s] (fun r hp => hp = [rC b { s with ticks := 0, taken := s.draw }]) := by
  refine spec_of (keep := k70) (args' := [.ptr 0 b 0]) Try.func70 rfl Try.ntmps70 s70_ok (by simp) ⟨rfl, fun _ h => h⟩ (fun _ _ h => h) (go_ok _ 100 _ _ ?_)
  simp only [go_sem, s70, k70, Nat.reduceBEq, Nat.reduceAdd, Nat.zero_add, Try.results70]
  rfl

def RS.followed (s : RS) : RS := { s with ticks := if s.role ≠ 0 then 0 else s.ticks, taken := if s.role ≠ 0 then s.draw else s.taken, role := 0, leader := -1, votes := nilS, peers := .val (.map none), waits := nilS, round := 0 }
theorem c51 (b : Nat) (s : RS) : Spec Try.prog E 51 [.ptr 0 b 0] [rC b s] (fun r hp => hp = [rC b s.followed]) := by
  refine spec_of (keep := k51) (args' := [.ptr 0 b 0]) Try.func51 rfl Try.ntmps51 s51_ok (by simp) ⟨rfl, fun _ h => h⟩ (fun _ _ h => h) (go_ok _ 100 _ _ ?_)
  simp only [go_sem, s51, k51, Nat.reduceBEq, Nat.reduceAdd, Nat.zero_add, Try.results51]
  refine ⟨fun h => ?_, fun h => ?_⟩
  · have h' : s.role ≠ 0 := by simpa using h
    refine (stp_call [0] rfl rfl rfl ⟨_, Try.func70, rfl, rfl⟩ (c70 b s) rfl (fun _ h => h) rfl (fun _ _ h => h) ?_).safe trivial
    rintro v hp rfl
    refine ⟨trivial, go_ok _ 100 _ _ ?_⟩
    simp only [go_sem, Nat.reduceBEq, Nat.reduceAdd, Nat.zero_add, Try.results51]
    simp only [RS.followed, if_pos h', nilS]
    rfl
  · have h' : s.role = 0 := by simpa using h
    simp [RS.followed, RS.cs, h', nilS]
end Go.SX

/- Contracts of the raft package: copies of entries; entries told. -/
namespace Go.SX
open Go.Proofs
set_option maxRecDepth 1000000
variable {E : Env}

theorem c36 (a : Option Addr) (cap : Nat) (xs : List UInt8) (hl : xs.length ≤ 140737488355328) : Spec Try.prog E 36 [vB a cap xs] [] (fun v hp => hp = [] ∧ ∃ a' cap', v = vB a' cap' xs) := by
  refine Spec.of_ok fun ⟨ro, hro⟩ => ?_
  have ha := view_nil (oks_iff.1 hro _ (List.mem_singleton.2 rfl)) (by omega)
  refine Spec.frz (Post := CloneP 1 encB xs) ?_ (fun v hp h => h.fin (Post' := fun v hp => hp = [] ∧ ∃ a' cap', v = vB a' cap' xs) fun a' cap' => ⟨rfl, a', cap', rfl⟩)
  refine spec_of (keep := k36) (args' := [vB a cap xs]) Try.func36 rfl Try.ntmps36 s36_ok (by simp) ⟨rfl, fun _ h => h⟩ (fun _ _ h => h) (go_ok _ 100 _ _ ?_)
  simp only [go_sem, s36, k36, Nat.reduceBEq, Try.results36]
  refine ⟨fun h => .inl ⟨List.length_eq_zero_iff.1 (ha h), rfl⟩, fun h b => ?_⟩
  refine (stp_app (c := 0) (x := vB a cap xs) (gx := rowsV encB xs) rfl rfl rfl rfl rfl (onesF_rows fun x => ⟨rfl, by simp [encB, ones, one, Value.oneCell']⟩) (by omega) fun nl' b' off' cap' => ?_).safe trivial
  refine ⟨trivial, ?_⟩
  rw [Nat.zero_add, appF_zero]
  refine go_ok _ 100 _ _ ?_
  simp only [go_sem, Nat.reduceBEq, Try.results36]
  exact .inr ⟨0, nl', b', 5, off', cap', rfl, rfl⟩

def Ent.core (e : Ent) : Int × Int × Int × List UInt8 := (e.ix, e.tm, e.kd, e.d.xs)
def Same (es es' : List Ent) : Prop := es'.map Ent.core = es.map Ent.core
theorem Same.len {es es' : List Ent} (h : Same es es') : es'.length = es.length := by
  have := congrArg List.length h
  simpa using this

theorem updE {es : List Ent} {i : Nat} (hi : i < es.length) (d : By) : updF (rowsV encE es) i 3 [vB d.a d.cap d.xs] = rowsV encE (es.set i { es.getD i default with d := d }) := by
  funext i' j'
  unfold updF rowsV
  by_cases h : i' = i
  · subst h
    have e1 : (es.set i' { es.getD i' default with d := d }).getD i' default = { es.getD i' default with d := d } := by simp [List.getD_eq_getElem?_getD, hi]
    rw [e1]
    rcases j' with _ | _ | _ | _ | j' <;> simp [encE, Nat.ble, Nat.blt]
  · have e1 : (es.set i { es.getD i default with d := d }).getD i' default = es.getD i' default := by simp [List.getD_eq_getElem?_getD, List.getElem?_set, Ne.symm h]
    have e2 : (i' == i) = false := by simpa using h
    rw [e1, e2]
    rfl

theorem c37 (a : Option Addr) (cap : Nat) (es : List Ent) (hl : es.length ≤ 2 ^ 40) (hd : ∀ e ∈ es, e.d.xs.length ≤ 2 ^ 40) : Spec Try.prog E 37 [vE a cap es] [] (fun v hp => hp = [] ∧ ∃ a' cap' es', v = vE a' cap' es' ∧ Same es es') := by
  refine Spec.frz (Post := fun v hp => ∃ (b : Nat) (off cap : Nat) (es' : List Ent) (X : List Chunk), Same es es' ∧ v = .osl 0 false b off es'.length cap ∧ hp = .row false b 43 off 4 es'.length cap (rowsV encE es') :: X) ?_ ?_
  · refine spec_of (keep := k37) (args' := [vE a cap es]) Try.func37 rfl Try.ntmps37 s37_ok (by simp) ⟨rfl, fun _ h => h⟩ (fun _ _ h => h) (go_ok _ 100 _ _ ?_)
    simp only [go_sem, s37, k37, Nat.reduceBEq, Try.results37]
    refine (stp_mksl (ln := es.length) (cp := es.length) rfl rfl rfl rfl (by omega) (by omega) (by omega) (by omega) fun b => ?_).safe trivial
    refine ⟨trivial, go_ok _ 100 _ _ ?_⟩
    simp only [go_sem, Nat.reduceBEq, Int.toNat_natCast]
    refine Stp.safeE (stp_copy (xo := .t 8) (yo := .t 9) (e := 43) (sz := 4) (c := 0) (b := b) (off := 0) (n := es.length) (cap := es.length) (m := es.length) (T := 43) (f := zerF [.int .i64 0, .int .i64 0, .int .i64 0, .slice none 0 0]) (gx := rowsV encE es) (sx := vE a cap es) rfl rfl rfl rfl (by decide) rfl rfl rfl rfl rfl (Nat.le_refl _) (onesF_rows fun x => ⟨rfl, by simp [encE, ones, one, Value.oneCell']⟩) trivial ?_) rfl
    refine go_ok _ 100 _ _ ?_
    simp only [go_sem, Nat.reduceBEq, Nat.reduceAdd, Nat.zero_add]
    refine safe_loop (fun x : {x : Nat × List Ent // x.1 ≤ es.length ∧ Same es x.2 ∧ ∀ k, x.1 ≤ k → x.2.getD k default = es.getD k default} => ⟨[(3, .osl 0 false b 0 es.length es.length), (12, I es.length), (13, I x.1.1)], [.row false b 43 0 4 es.length es.length (rowsV encE x.1.2)]⟩)
      (fun x => es.length - x.1.1) ⟨(0, es), by omega, rfl, fun _ _ => rfl⟩ (Sub.heap (by simp [envSub, look]) ?_) ?_
    · intro ro H h
      refine hsat_set (hp := [.row false b 43 0 4 es.length es.length _]) 0 (fun H hh => row_congr (fun i j hi hj => ?_) hh) h
      have : Nat.blt i es.length = true := by rw [Nat.blt_eq]; exact hi
      simp only [ovF, this, cond_true]
    · rintro ⟨⟨i, es'⟩, hi, hsame, hrest⟩
      have hlen := hsame.len
      simp only at hi hsame hrest hlen
      refine go_ok _ 100 _ _ ?_
      simp only [go_sem, Nat.reduceBEq, Nat.reduceAdd, Nat.zero_add, Int.toNat_natCast, Try.results37]
      refine ⟨fun h => ?_, fun h => ?_⟩
      · have hlt : i < es.length := by simpa using h
        and_intros
        all_goals try (first | omega | trivial)
        have hei : es'.getD i default = es.getD i default := hrest i (Nat.le_refl _)
        have hmem : es.getD i default ∈ es := by
          rw [List.getD_eq_getElem?_getD, List.getElem?_eq_getElem hlt]
          exact List.getElem_mem _
        have hdl := hd _ hmem
        rw [← hei] at hdl
        refine (stp_call [] rfl rfl rfl ⟨_, Try.func36, rfl, rfl⟩ (c36 _ _ (es'.getD i default).d.xs (by omega)) rfl (fun _ h => h) rfl (fun _ _ h => h) ?_).safe trivial
        rintro v hp ⟨rfl, a2, cap2, rfl⟩
        refine ⟨trivial, go_ok _ 100 _ _ ?_⟩
        simp only [go_sem, Nat.reduceBEq, Nat.reduceAdd, Nat.zero_add, Int.toNat_natCast, updE (es := es') (i := i) (by omega) ⟨a2, cap2, (es'.getD i default).d.xs⟩]
        and_intros
        all_goals try (first | omega | trivial | (simp only [inI64]; omega))
        refine safe_lend ⟨(i + 1, es'.set i { es'.getD i default with d := ⟨a2, cap2, (es'.getD i default).d.xs⟩ }), hlt, ?_, fun k hk => ?_⟩ (by simp only; omega) (Sub.front (X := []) (by simp [envSub, look]) ?_)
        · unfold Same at hsame ⊢
          rw [← hsame, List.map_set]
          have : Ent.core { es'.getD i default with d := ⟨a2, cap2, (es'.getD i default).d.xs⟩ } = (es'.map Ent.core)[i]'(by simp; omega) := by
            simp [Ent.core, List.getD_eq_getElem?_getD, List.getElem?_eq_getElem (show i < es'.length by omega)]
          rw [this, List.set_getElem_self]
        · simp only at hk
          rw [← hrest k (by omega)]
          simp [List.getD_eq_getElem?_getD, List.getElem?_set, show ¬ i = k by omega]
        · simp only [List.append_nil]
      · exact ⟨b, 0, es.length, es', [], hsame, by rw [hlen], by rw [hlen]⟩
  · rintro v hp ⟨b, off, cap', es', X, h1, rfl, rfl⟩
    exact .inr ⟨_, _, _, _, _, _, _, _, _, rfl, ⟨X, rfl⟩, rfl, some ⟨b, off, none⟩, cap', es', rfl, h1⟩

theorem ag32 : aggOf Try.prog 32 = some (some 3) := by kernel_rfl
theorem c35 (x y : Int) (a : Option Addr) (cap : Nat) (vs : List Int) (hl : vs.length * 8 ≤ 140737488355328) : Spec Try.prog E 35 [.agg [I x, I y, vI a cap vs]] [] (fun v hp => hp = [] ∧ ∃ a' cap', v = .agg [I x, I y, vI a' cap' vs]) := by
  refine Spec.leave (Post := fun v _ => ∃ a' cap', v = .agg [I x, I y, vI a' cap' vs]) ?_ (fun v hp ⟨a', cap', h⟩ => ⟨[], hp, rfl, rfl, a', cap', h⟩)
  refine spec_of (keep := k35) (args' := [.agg [I x, I y, vI a cap vs]]) Try.func35 rfl Try.ntmps35 s35_ok (by simp) ⟨rfl, fun _ h => h⟩ (fun _ _ h => h) (go_ok _ 100 _ _ ?_)
  simp only [go_sem, s35, k35, Nat.reduceBEq, Nat.reduceAdd, Nat.zero_add]
  intro b1 b2
  refine (stp_call [] rfl rfl rfl ⟨_, Try.func38, rfl, rfl⟩ (c38 a cap vs hl) rfl (fun _ h => h) rfl (fun _ _ h => h) ?_).safe trivial
  rintro v hp ⟨rfl, a', cap', rfl⟩
  refine ⟨trivial, go_ok _ 100 _ _ ?_⟩
  simp only [go_sem, Nat.reduceBEq, Nat.reduceAdd, Nat.zero_add, Try.results35]
  refine safe_retC (l := [.agg [I x, I y, vI a' cap' vs]]) (vc := True) ?_ trivial ⟨a', cap', rfl⟩ rfl rfl
  simp only [retC, Try.results35, go_sem, Nat.reduceBEq, ag32]

theorem c45 (b : Nat) (s : RS) (i most : Int) (hs : s.small) (hd : ∀ e ∈ s.es, e.d.xs.length ≤ 2 ^ 40) (h0 : -(2 ^ 61) ≤ i) (h1 : i ≤ 2 ^ 61) (h2 : 0 ≤ most) :
    Spec Try.prog E 45 [.ptr 0 b 0, I i, I most] [rC b s] (fun v hp => hp = [rC b s] ∧ ∃ a' cap' es', v = vE a' cap' es' ∧ Same ((s.es.drop (min (max (i - s.mIx - 1) 0) s.es.length).toNat).take most.toNat) es') := by
  refine spec_of (keep := k45) (args' := [.ptr 0 b 0, I i, I most]) Try.func45 rfl Try.ntmps45 s45_ok (by simp) ⟨rfl, fun _ h => h⟩ (fun _ _ h => h) (safe_cellview (c := 0) (kk := 4) rfl rfl fun hcap => go_ok _ 100 _ _ ?_)
  simp only [go_sem, s45, k45, Nat.reduceBEq, Nat.reduceAdd, Nat.zero_add]
  obtain ⟨m0, m1, m2⟩ := hs
  obtain ⟨p, hp⟩ : ∃ p : Nat, (p : Int) = min (max (i - s.mIx - 1) 0) s.es.length := ⟨(min (max (i - s.mIx - 1) 0) s.es.length).toNat, by omega⟩
  obtain ⟨q, hq⟩ : ∃ q : Nat, (q : Int) = min most ((s.es.length - p : Nat) : Int) := ⟨(min most ((s.es.length - p : Nat) : Int)).toNat, by omega⟩
  simp only [← hp, Int.toNat_natCast, ← hq, Int.toNat_zero, Nat.sub_zero, Nat.add_zero, inI64]
  and_intros
  all_goals try (first | omega | (intro h; cases h; done))
  have hsm : Same ((s.es.drop p).take q) ((s.es.drop p).take q) := rfl
  have hlen : ((s.es.drop p).take q).length = q := by simp; omega
  refine (stp_call [] rfl rfl rfl ⟨_, Try.func37, rfl, rfl⟩ (c37 (if ((s.lc - p : Nat) : Int) = 0 then if (s.lc : Int) = (p : Int) then s.la else s.la.map (fun x => x.add (p * 4)) else (if (s.lc : Int) = (p : Int) then s.la else s.la.map (fun x => x.add (p * 4))).map (fun x => x.add (0 * 4))) (s.lc - p) ((s.es.drop p).take q) (by omega) (fun e he => hd e ?_)) ?_ (fun _ h => ?_) rfl (fun _ _ h => h) ?_).safe trivial
  · exact List.mem_of_mem_drop (List.mem_of_mem_take he)
  · simp only [SV.dens, SV.den, hlen, List.nil_append, List.append_nil]
  · have hrow : ∀ i j, i < q → j < 4 → rowsV encE s.es (i + p) j = rowsV encE ((s.es.drop p).take q) i j := by
      intro i j hi _
      simp only [rowsV, List.getD_eq_getElem?_getD, List.getElem?_take, if_pos hi, List.getElem?_drop, Nat.add_comm p i]
    have h1 := oks_iff.1 h _ (List.mem_append_left _ (List.mem_append_right _ (List.mem_singleton.2 rfl)))
    have h2 := (Eqv.view hrow).2 _ h1
    rw [oks_iff]
    intro x hx
    rw [List.mem_singleton.1 hx]
    simp only [vE, hlen]
    exact h2
  · rintro v hp' ⟨rfl, a', cap', es', rfl, hsame⟩
    refine ⟨trivial, go_ok _ 100 _ _ ?_⟩
    simp only [go_sem, Nat.reduceBEq, Nat.reduceAdd, Nat.zero_add, Try.results45]
    refine ⟨a', cap', es', rfl, ?_⟩
    have : (s.es.drop p).take most.toNat = (s.es.drop p).take q := by
      rcases Nat.lt_or_ge most.toNat (s.es.length - p) with h | h
      · rw [show most.toNat = q by omega]
      · rw [List.take_of_length_le (by simp; omega), List.take_of_length_le (by simp; omega)]
    rw [this]
    exact hsame
end Go.SX

/- Contracts of the raft package: entries told and laid. -/
namespace Go.SX
open Go.Proofs
set_option maxRecDepth 1000000
variable {E : Env}

theorem c88 (a : Option Addr) (cap : Nat) (es : List Ent) : Spec Try.prog E 88 [vE a cap es] [] (fun v hp => hp = [] ∧ ∃ a', v = vE a' es.length es) := by
  refine Spec.of_ok fun ⟨ro, hro⟩ => ?_
  have hv := oks_iff.1 hro _ (List.mem_singleton.2 rfl)
  simp only [vE, SV.ok] at hv
  have hcap := hv.1
  refine spec_of (keep := k88) (args' := [vE a cap es]) Try.func88 rfl Try.ntmps88 s88_ok (by simp) ⟨rfl, fun _ h => h⟩ (fun _ _ h => h) (go_ok _ 100 _ _ ?_)
  simp only [go_sem, s88, k88, Nat.reduceBEq, Nat.reduceAdd, Nat.zero_add, Try.results88]
  refine ⟨⟨by omega, by omega, by omega, by omega, by omega, fun _ => rfl⟩, (if ((es.length : Nat) : Int) = 0 then a else a.map (fun x => x.add (Int.toNat 0 * 4))), ?_⟩
  simp only [Int.toNat_zero, Nat.sub_zero, Nat.add_zero, Int.toNat_natCast]

/-- big data are none -/
def RS.fitsD (s : RS) : Prop := ∀ e ∈ s.es, e.d.xs.length ≤ 2 ^ 40

theorem c44 (b : Nat) (s : RS) (hs : s.small) (hd : s.fitsD) (h0 : 0 ≤ s.fresh) (h1 : s.fresh ≤ 2 ^ 61) :
    Spec Try.prog E 44 [.ptr 0 b 0] [rC b s] (fun v hp => hp = [rC b { s with fresh := 0 }] ∧ ∃ a' cap' es', v = vE a' cap' es' ∧ Same (if s.fresh = 0 then [] else s.es.drop (min (max (s.fresh - s.mIx - 1) 0) s.es.length).toNat) es') := by
  refine Spec.conv (Post := fun v hp => hp = [rC b { s with fresh := 0 }] ∧ ((s.fresh = 0 ∧ v = nilS) ∨ s.fresh ≠ 0 ∧ ∃ a' cap' es', v = vE a' cap' es' ∧ Same (s.es.drop (min (max (s.fresh - s.mIx - 1) 0) s.es.length).toNat) es')) ?_ ?_
  · refine spec_of (keep := k44) (args' := [.ptr 0 b 0]) Try.func44 rfl Try.ntmps44 s44_ok (by simp) ⟨rfl, fun _ h => h⟩ (fun _ _ h => h) (go_ok _ 100 _ _ ?_)
    simp only [go_sem, s44, k44, Nat.reduceBEq, Nat.reduceAdd, Nat.zero_add, Try.results44]
    refine ⟨fun h => ?_, fun h => ?_⟩
    · have h' : s.fresh = 0 := by simpa using h
      refine ⟨?_, .inl ⟨h', rfl⟩⟩
      rw [← h']
    · have h' : s.fresh ≠ 0 := by simpa using h
      have hlen := hs.len
      refine (stp_call [0] rfl rfl rfl ⟨_, Try.func45, rfl, rfl⟩ (c45 b s s.fresh s.es.length hs hd (by omega) h1 (by omega)) rfl (fun _ h => h) rfl (fun _ _ h => h) ?_).safe trivial
      rintro v hp ⟨rfl, a', cap', es', rfl, hsame⟩
      refine ⟨trivial, go_ok _ 100 _ _ ?_⟩
      simp only [go_sem, Nat.reduceBEq, Nat.reduceAdd, Nat.zero_add, Try.results44]
      refine ⟨rfl, .inr ⟨h', a', cap', es', rfl, ?_⟩⟩
      rw [List.take_of_length_le (by simp)] at hsame
      exact hsame
  · rintro v hp ⟨rfl, ⟨h, rfl⟩ | ⟨h, a', cap', es', rfl, hsame⟩⟩
    · exact ⟨vE none 0 [], _, [], Eqv.nil 0 1 4 _ _, HEqv.refl _, rfl, none, 0, [], rfl, by rw [if_pos h]; rfl⟩
    · exact ⟨_, _, [], Eqv.refl _, HEqv.refl _, rfl, a', cap', es', rfl, by rw [if_neg h]; exact hsame⟩

theorem c72 (b : Nat) (s : RS) (e : Ent) (a : Option Addr) (cap : Nat) (hs : s.small) (hd : s.fitsD) (he : e.d.xs.length ≤ 2 ^ 40) (hix : e.ix = s.last + 1) (hl : s.es.length < 2 ^ 40) :
    Spec Try.prog E 72 [.ptr 0 b 0, vE a cap [e]] [rC b s] (fun _ hp => ∃ la lc es', Same (s.es ++ [e]) es' ∧ hp = [rC b { s with la := la, lc := lc, es := es', fresh := if s.fresh = 0 ∨ e.ix < s.fresh then e.ix else s.fresh }]) := by
  refine spec_of (keep := k72) (args' := [.ptr 0 b 0, vE a cap [e]]) Try.func72 rfl Try.ntmps72 s72_ok (by simp) ⟨rfl, fun _ h => h⟩ (fun _ _ h => h) (safe_cellview (c := 0) (kk := 4) rfl rfl fun hcap => go_ok _ 100 _ _ ?_)
  simp only [go_sem, s72, k72, Nat.reduceBEq, Nat.reduceAdd, Nat.zero_add, List.length_singleton]
  refine ⟨fun h => absurd h (by simp), fun _ => ?_⟩
  obtain ⟨m0, m1, m2⟩ := hs
  simp only [RS.last] at hix
  have e0 : ([e] : List Ent).getD 0 default = e := rfl
  have e1 : e.ix - s.mIx - 1 = (s.es.length : Int) := by omega
  simp only [Int.toNat_zero, e0, e1, Int.toNat_natCast, Nat.sub_zero, Nat.add_zero, inI64]
  and_intros
  all_goals try (first | omega | (intro h; cases h; done))
  refine (stp_call [] rfl rfl rfl ⟨_, Try.func88, rfl, rfl⟩ (c88 (if (s.lc : Int) = 0 then s.la else s.la.map (fun x => x.add (0 * 4))) s.lc s.es) rfl (fun _ h => h) rfl (fun _ _ h => h) ?_).safe trivial
  rintro v hp ⟨rfl, a2, rfl⟩
  refine ⟨by simp only [go_sem, Nat.reduceBEq, Nat.reduceAdd, Nat.zero_add], ?_⟩
  refine (stp_call [] rfl rfl rfl ⟨_, Try.func37, rfl, rfl⟩ (c37 a cap [e] (by simp) (by simpa using he)) rfl (fun _ h => h) rfl (fun _ _ h => h) ?_).safe trivial
  rintro v hp ⟨rfl, a3, cap3, es3, rfl, hs3⟩
  refine ⟨by simp only [go_sem, Nat.reduceBEq, Nat.reduceAdd, Nat.zero_add], ?_⟩
  have hl3 : es3.length = 1 := by simpa using hs3.len
  refine (stp_appv (A0 := a2) (n := s.es.length) (cap := s.es.length) (sz0 := 4) (sz := 4) (bytes := 48) (m := es3.length) (f := rowsV encE s.es) (gx := rowsV encE es3) rfl rfl rfl rfl (.inr rfl) (by omega) (by omega) fun b' cap' => ?_).safe trivial
  refine ⟨by simp only [go_sem, Nat.reduceBEq, Nat.reduceAdd, Nat.zero_add], ?_⟩
  refine safe_frz (hp := [rC b s]) ?_
  rw [appF_rows]
  have hla : s.es.length + es3.length = (s.es ++ es3).length := by simp
  rw [hla]
  refine go_ok _ 100 _ _ ?_
  simp only [go_sem, Nat.reduceBEq, Nat.reduceAdd, Nat.zero_add, frz, Try.results72]
  have hsame : Same (s.es ++ [e]) (s.es ++ es3) := by
    unfold Same at hs3 ⊢
    simp only [List.map_append, hs3]
  refine ⟨fun h => by rw [h]; rfl, fun h => ⟨some ⟨b', 0, none⟩, cap', s.es ++ es3, hsame, ?_⟩, fun h => ⟨some ⟨b', 0, none⟩, cap', s.es ++ es3, hsame, ?_⟩⟩
  · have h' : s.fresh = 0 ∨ e.ix < s.fresh := by simpa using h
    rw [if_pos h']
    simp only [if_neg (show ¬ False by simp)]
    rfl
  · have h' : ¬ (s.fresh = 0 ∨ e.ix < s.fresh) := by simpa using h
    rw [if_neg h']
    simp only [if_neg (show ¬ False by simp)]
    rfl

theorem c46 (b : Nat) (s : RS) (kd : Int) (a : Option Addr) (cap : Nat) (xs : List UInt8) (hs : s.small) (hd : s.fitsD) (he : xs.length ≤ 2 ^ 40) (hl : s.es.length < 2 ^ 40) :
    Spec Try.prog E 46 [.ptr 0 b 0, I kd, vB a cap xs] [rC b s] (fun v hp => v = I (s.last + 1) ∧ ∃ la lc es', Same (s.es ++ [⟨s.last + 1, s.hT, kd, ⟨a, cap, xs⟩⟩]) es' ∧
      hp = [rC b { s with la := la, lc := lc, es := es', fresh := if s.fresh = 0 ∨ s.last + 1 < s.fresh then s.last + 1 else s.fresh }]) := by
  refine Spec.leave (Post := fun v hp => v = I (s.last + 1) ∧ ∃ la lc es' X, Same (s.es ++ [⟨s.last + 1, s.hT, kd, ⟨a, cap, xs⟩⟩]) es' ∧
      hp = rC b { s with la := la, lc := lc, es := es', fresh := if s.fresh = 0 ∨ s.last + 1 < s.fresh then s.last + 1 else s.fresh } :: X) ?_
    (fun v hp ⟨h1, la, lc, es', X, h2, h3⟩ => ⟨[_], X, by rw [h3]; rfl, h1, la, lc, es', h2, rfl⟩)
  refine spec_of (keep := k46) (args' := [.ptr 0 b 0, I kd, vB a cap xs]) Try.func46 rfl Try.ntmps46 s46_ok (by simp) ⟨rfl, fun _ h => h⟩ (fun _ _ h => h) (go_ok _ 100 _ _ ?_)
  simp only [go_sem, s46, k46, Nat.reduceBEq, Nat.reduceAdd, Nat.zero_add]
  refine (stp_call [0] rfl rfl rfl ⟨_, Try.func40, rfl, rfl⟩ (c40 b s hs) rfl (fun _ h => h) rfl (fun _ _ h => h) ?_).safe trivial
  rintro v hp ⟨rfl, rfl⟩
  refine ⟨by simp only [go_sem, Nat.reduceBEq, Nat.reduceAdd, Nat.zero_add], go_ok _ 100 _ _ ?_⟩
  simp only [go_sem, Nat.reduceBEq, Nat.reduceAdd, Nat.zero_add]
  have hlast : 0 ≤ s.last ∧ s.last ≤ 2 ^ 61 + 2 ^ 40 := by
    obtain ⟨m0, m1, m2⟩ := hs
    simp only [RS.last]
    omega
  refine ⟨by simp only [inI64]; omega, fun b1 => ?_⟩
  refine safe_frz (hp := [rC b s]) ?_
  refine (stp_call [0] (args := [.ptr 0 b 0, vE (some ⟨b1, 0, none⟩) 1 [⟨s.last + 1, s.hT, kd, ⟨a, cap, xs⟩⟩]]) rfl rfl rfl ⟨_, Try.func72, rfl, rfl⟩ (c72 b s ⟨s.last + 1, s.hT, kd, ⟨a, cap, xs⟩⟩ (some ⟨b1, 0, none⟩) 1 hs hd he rfl hl) rfl (fun ro h => ?_) rfl (fun _ _ h => h) ?_).safe trivial
  · rw [oks_iff] at h ⊢
    intro x hx
    simp only [List.mem_cons, List.not_mem_nil, or_false] at hx
    rcases hx with rfl | rfl
    · simp only [SV.ok]
    · have h1 := h (frz false b1 0 1 1 4 (litF 4 [I (s.last + 1), I s.hT, I kd, vB a cap xs])) (by simp)
      refine (Eqv.view (fun i j hi hj => ?_)).2 _ h1
      have : i = 0 := by simpa using hi
      subst this
      simp only [litF, rowsV, Nat.zero_mul, Nat.zero_add]
      rfl
  · rintro v hp ⟨la, lc, es', hsame, rfl⟩
    have hlen := hsame.len
    simp only [List.length_append, List.length_singleton] at hlen
    refine ⟨trivial, go_ok _ 100 _ _ ?_⟩
    simp only [go_sem, Nat.reduceBEq, Nat.reduceAdd, Nat.zero_add]
    refine (stp_call [0] rfl rfl rfl ⟨_, Try.func40, rfl, rfl⟩ (c40 b { s with la := la, lc := lc, es := es', fresh := if s.fresh = 0 ∨ s.last + 1 < s.fresh then s.last + 1 else s.fresh } ⟨hs.m0, hs.m1, show es'.length ≤ 2 ^ 40 by omega⟩) rfl (fun _ h => h) rfl (fun _ _ h => h) ?_).safe trivial
    rintro v hp ⟨rfl, rfl⟩
    refine ⟨trivial, go_ok _ 100 _ _ ?_⟩
    simp only [go_sem, Nat.reduceBEq, Nat.reduceAdd, Nat.zero_add, Try.results46]
    refine ⟨?_, la, lc, es', [], hsame, ?_⟩
    · have : s.mIx + (es'.length : Int) = s.mIx + (s.es.length : Int) + 1 := by omega
      simp only [RS.last, this]
    · rfl
end Go.SX


/- Raft: who votes, the others, for any voters. -/
namespace Go.SX
open Go.Proofs
set_option maxRecDepth 1000000
variable {E : Env}

theorem row_front {ro : RO} {H : Hp} {nl : Bool} {b : Nat} {t : TypeId} {off sz n n' cap : Nat} {f f' : Nat → Nat → SV} (hn : n' ≤ n) (h : ∀ i j, i < n' → j < sz → f i j = f' i j) (hs : (Chunk.row nl b t off sz n cap f).sat ro H) : (Chunk.row nl b t off sz n' cap f').sat ro H := by
  cases nl with
  | true =>
    obtain ⟨rfl, h1, h2⟩ := hs
    exact ⟨rfl, by omega, h2⟩
  | false =>
    obtain ⟨arr, fz, rfl, h0, h1, h2, h3⟩ := hs
    refine ⟨arr, fz, rfl, h0, by omega, h2, fun i j hi hj => ?_⟩
    rw [← h i j hi hj]
    exact h3 i j (by omega) hj

/-- IndexFunc with the closure of 'others' -/
theorem c91 (b bx : Nat) (s : RS) (nl : Bool) (br off cap : Nat) (xs : List Int) (hl : xs.length ≤ 2 ^ 40) : Spec Try.prog E 91 [.osl 2 nl br off xs.length cap, .fn (.func 84) [] [.ptr 1 bx 0]] [rC b s, .cells bx 24 [.ptr 0 b 0], .row nl br 3 off 1 xs.length cap (rowsV encI xs)]
    (fun r hp => ((r = I (-1) ∧ s.id ∉ xs) ∨ ∃ i : Nat, r = I i ∧ i < xs.length ∧ xs.getD i 0 = s.id ∧ s.id ∉ xs.take i) ∧ hp = [rC b s, .cells bx 24 [.ptr 0 b 0], .row nl br 3 off 1 xs.length cap (rowsV encI xs)]) := by
  refine spec_of (keep := k91) (args' := [.osl 2 nl br off xs.length cap, .fn (.func 84) [] [.ptr 1 bx 0]]) Try.func91 rfl Try.ntmps91 s91_ok (by simp) ⟨rfl, fun _ h => h⟩ (fun _ _ h => h) (go_ok _ 100 _ _ ?_)
  simp only [go_sem, s91, k91, Nat.reduceBEq, Nat.reduceAdd, Nat.zero_add]
  refine safe_loop (ι := {i : Nat // i ≤ xs.length ∧ s.id ∉ xs.take i}) (fun i => ⟨[(0, .osl 2 nl br off xs.length cap), (1, .fn (.func 84) [] [.ptr 1 bx 0]), (7, I xs.length), (8, I i.1)], [rC b s, .cells bx 24 [.ptr 0 b 0], .row nl br 3 off 1 xs.length cap (rowsV encI xs)]⟩) (fun i => xs.length - i.1) ⟨0, Nat.zero_le _, by simp⟩
    (Sub.front (X := []) ⟨rfl, rfl, rfl, rfl, trivial⟩ rfl) ?_
  rintro ⟨i, hi, hno⟩
  refine go_ok _ 100 _ _ ?_
  simp only [go_sem, Nat.reduceBEq, Nat.reduceAdd, Nat.zero_add, Int.toNat_natCast, Try.results91]
  refine ⟨fun h => ?_, fun h => ?_⟩
  · have hlt : i < xs.length := by simpa using h
    refine ⟨by omega, by omega, ?_⟩
    refine (stp_call [0, 1] (args := [I (xs.getD i 0), .ptr 1 bx 0]) rfl rfl rfl ⟨_, Try.func84, rfl, rfl⟩ (c84 b bx s (xs.getD i 0)) rfl (fun _ h => h) rfl (fun _ _ h => h) ?_).safe trivial
    rintro v hp ⟨rfl, rfl⟩
    refine ⟨trivial, go_ok _ 100 _ _ ?_⟩
    simp only [go_sem, Nat.reduceBEq, Nat.reduceAdd, Nat.zero_add, Try.results91]
    refine ⟨fun h => .inr ⟨i, rfl, hlt, of_decide_eq_true h, hno⟩, fun h => ⟨by simp only [inI64]; omega, ?_⟩⟩
    refine safe_lend ⟨i + 1, hlt, ?_⟩ (by simp only; omega) (Sub.front (X := []) ⟨rfl, rfl, rfl, rfl, trivial⟩ rfl)
    rw [List.take_add_one, List.getElem?_eq_getElem hlt]
    have h := of_decide_eq_false h
    rw [List.getD_eq_getElem?_getD, List.getElem?_eq_getElem hlt] at h
    simp only [Option.toList_some, List.mem_append, List.mem_singleton, not_or]
    exact ⟨hno, fun e => h (by simpa using e.symm)⟩
  · have hil : i = xs.length := by have := of_decide_eq_false h; omega
    rw [hil, List.take_length] at hno
    exact .inl hno

def othersL (xs : List Int) (id : Int) : List Int := xs.filter fun v => decide (v ≠ id)
theorem others_none {xs : List Int} {id : Int} (h : id ∉ xs) : othersL xs id = xs := List.filter_eq_self.2 fun v hv => by simp; rintro rfl; exact h hv
structure W83 (xs : List Int) (id : Int) where
  i : Nat
  j : Nat
  ys : List Int
  hy : ys.length = xs.length
  hj : j ≤ xs.length
  hi : i < j
  h1 : ys.take i = othersL (xs.take j) id
  h2 : ys.drop j = xs.drop j
theorem set_int {zs : List Int} {i : Nat} {z : Int} (hi : i < zs.length) : ∀ k j, k < zs.length → j < 1 → updF (rowsV encI zs) i 0 [I z] k j = rowsV encI (zs.set i z) k j := by
  intro k j hk hj
  obtain rfl : j = 0 := by omega
  have e1 : (Nat.ble 0 0 && Nat.blt 0 1) = true := rfl
  by_cases h : k = i
  · subst h
    simp [updF, rowsV, encI, List.getD_eq_getElem?_getD, hk, e1]
  · have e2 : (k == i) = false := by simpa using h
    simp [updF, rowsV, encI, List.getD_eq_getElem?_getD, Ne.symm h, e2]
/-- DeleteFunc with the closure of 'others' -/
theorem c83 (b bx : Nat) (s : RS) (nl : Bool) (br off cap : Nat) (xs : List Int) (hl : xs.length ≤ 2 ^ 40) : Spec Try.prog E 83 [.osl 2 nl br off xs.length cap, .fn (.func 84) [] [.ptr 1 bx 0]] [rC b s, .cells bx 24 [.ptr 0 b 0], .row nl br 3 off 1 xs.length cap (rowsV encI xs)]
    (fun r hp => r = .osl 2 nl br off (othersL xs s.id).length cap ∧ hp = [rC b s, .cells bx 24 [.ptr 0 b 0], .row nl br 3 off 1 (othersL xs s.id).length cap (rowsV encI (othersL xs s.id))]) := by
  refine Spec.see2 ?_
  generalize hP : SeeP _ = P
  refine spec_of (keep := k83) (args' := [.osl 2 nl br off xs.length cap, .fn (.func 84) [] [.ptr 1 bx 0]]) Try.func83 rfl Try.ntmps83 s83_ok (by simp) ⟨rfl, fun _ h => h⟩ (fun _ _ h => h) (safe_rowcap (c := 2) rfl fun hcap => go_ok _ 100 _ _ ?_)
  simp only [go_sem, s83, k83, Nat.reduceBEq, Nat.reduceAdd, Nat.zero_add]
  refine (stp_call [0, 1, 2] rfl rfl rfl ⟨_, Try.func91, rfl, rfl⟩ (c91 b bx s nl br off cap xs hl) rfl (fun _ h => h) rfl (fun _ _ h => h) ?_).safe trivial
  rintro v hp ⟨⟨rfl, hno⟩ | ⟨i, rfl, hi, hid, hno⟩, rfl⟩
  · refine ⟨trivial, go_ok _ 100 _ _ ?_⟩
    simp only [go_sem, Nat.reduceBEq, Nat.reduceAdd, Nat.zero_add, Try.results83, Int.reduceNeg, decide_true]
    refine ⟨?_, fun h => absurd h (by decide)⟩
    rw [← hP]
    exact ⟨_, _, rfl, fun _ h => h, Sees.refl _, by rw [others_none hno], by rw [others_none hno]⟩
  · refine ⟨trivial, go_ok _ 100 _ _ ?_⟩
    simp only [go_sem, Nat.reduceBEq, Nat.reduceAdd, Nat.zero_add, Try.results83]
    refine ⟨fun h => by have := of_decide_eq_true h; omega, fun hm1 => ⟨by simp only [inI64]; omega, ?_⟩⟩
    have h10 : xs.take i = othersL (xs.take (i + 1)) s.id := by
      rw [List.take_add_one, List.getElem?_eq_getElem hi, othersL, List.filter_append]
      have e : xs[i] = s.id := by rw [← hid]; simp [List.getD_eq_getElem?_getD, hi]
      have : (xs.take i).filter (fun v => decide (v ≠ s.id)) = xs.take i := others_none hno
      rw [this]
      simp [e]
    refine safe_loop (ι := W83 xs s.id) (fun g => ⟨[(0, .osl 2 nl br off xs.length cap), (1, .fn (.func 84) [] [.ptr 1 bx 0]), (5, I g.i), (6, I g.j)], [rC b s, .cells bx 24 [.ptr 0 b 0], .row nl br 3 off 1 xs.length cap (rowsV encI g.ys)]⟩) (fun g => xs.length - g.j) ⟨i, i + 1, xs, rfl, hi, Nat.lt_succ_self _, h10, rfl⟩
      (Sub.front (X := []) ⟨rfl, rfl, rfl, rfl, trivial⟩ rfl) ?_
    clear h10 hno hid hi hm1 i
    rintro ⟨i, j, ys, hy, hj, hi, h1, h2⟩
    refine go_ok _ 100 _ _ ?_
    simp only [go_sem, Nat.reduceBEq, Nat.reduceAdd, Nat.zero_add, Int.toNat_natCast, Try.results83]
    refine ⟨fun h => ?_, fun h => ?_⟩
    · have hlt : j < xs.length := by simpa using h
      refine ⟨by omega, by omega, ?_⟩
      refine (stp_call [0, 1] (args := [I (ys.getD j 0), .ptr 1 bx 0]) rfl rfl rfl ⟨_, Try.func84, rfl, rfl⟩ (c84 b bx s (ys.getD j 0)) rfl (fun _ h => h) rfl (fun _ _ h => h) ?_).safe trivial
      rintro v hp ⟨rfl, rfl⟩
      refine ⟨trivial, go_ok _ 100 _ _ ?_⟩
      simp only [go_sem, Nat.reduceBEq, Nat.reduceAdd, Nat.zero_add, Int.toNat_natCast, Try.results83]
      have hyx : ys.getD j 0 = xs.getD j 0 := by
        have := congrArg (fun l : List Int => l[0]?) h2
        simp only [List.getElem?_drop, Nat.add_zero] at this
        rw [List.getD_eq_getElem?_getD, List.getD_eq_getElem?_getD, this]
      have htk : xs.take (j + 1) = xs.take j ++ [xs.getD j 0] := by
        rw [List.take_add_one, List.getElem?_eq_getElem hlt]
        simp [List.getD_eq_getElem?_getD, hlt]
      have hdr : ys.drop (j + 1) = xs.drop (j + 1) := by rw [← List.drop_drop, ← List.drop_drop, h2]
      rw [hyx]
      refine ⟨fun hne => ?_, fun heq => ⟨by simp only [inI64]; omega, ?_⟩⟩
      · have hne := of_decide_eq_false hne
        refine ⟨by omega, ⟨by omega, by decide⟩, by simp only [inI64]; omega, by simp only [inI64]; omega, ?_⟩
        refine safe_sees (hp' := [rC b s, .cells bx 24 [.ptr 0 b 0], .row nl br 3 off 1 xs.length cap (rowsV encI (ys.set i (xs.getD j 0)))]) (Sees.same (Sees.same (Sees.cons (fun ro H h => ⟨H, [], by simp, row_congr (fun k j' hk hj' => set_int (by omega) k j' (by omega) hj') h⟩) (Sees.refl [])))) ?_
        refine safe_lend ⟨i + 1, j + 1, ys.set i (xs.getD j 0), by simpa using hy, hlt, by omega, ?_, ?_⟩ (by simp only; omega) (Sub.front (X := []) ⟨rfl, rfl, rfl, rfl, trivial⟩ rfl)
        · rw [htk, othersL, List.filter_append, show (xs.take j).filter (fun v => decide (v ≠ s.id)) = ys.take i from h1.symm, List.take_add_one]
          have hi' : i < ys.length := by omega
          clear hdr htk hyx
          generalize xs.getD j 0 = v at hne ⊢
          simp [hi', hne, List.take_set_of_le]
        · rw [List.drop_set_of_lt (by omega), hdr]
      · have heq : xs.getD j 0 = s.id := by simpa only [Bool.not_eq_false', decide_eq_true_eq] using heq
        refine safe_lend ⟨i, j + 1, ys, hy, hlt, by omega, ?_, hdr⟩ (by simp only; omega) (Sub.front (X := []) ⟨rfl, rfl, rfl, rfl, trivial⟩ rfl)
        rw [htk, othersL, List.filter_append, show (xs.take j).filter (fun v => decide (v ≠ s.id)) = ys.take i from h1.symm, heq]
        simp
    · have hjl : j = xs.length := by have := of_decide_eq_false h; omega
      have hci : ¬ (cap : Int) = i := by omega
      simp only [if_neg hci]
      refine ⟨by omega, ?_⟩
      refine Stp.safeE (stp_clear (xo := .t 38) (c := 2) (b := br) (off := off) (off' := off + i * 1) (n := xs.length) (n' := xs.length - i) (cap := cap) (nl := nl) (T := 3) (p := i) (e := 3) (z := .int .i64 0) (sz := 1) (f := rowsV encI ys) rfl rfl rfl rfl rfl (by decide) (by simp [Value.oneCell', Value.cells]) rfl rfl rfl (by omega) (by omega) trivial ?_) rfl
      rw [hjl, List.take_length] at h1
      have hil : (othersL xs s.id).length = i := by rw [← h1]; simp; omega
      refine go_ok _ 100 _ _ ?_
      simp only [go_sem, Nat.reduceBEq, Nat.reduceAdd, Nat.zero_add, Int.toNat_natCast, Try.results83]
      have hc0 : ¬ (cap : Int) = 0 := by omega
      simp only [if_neg hc0, Int.toNat_zero, Nat.zero_mul, Nat.add_zero, Nat.sub_zero]
      refine ⟨by and_intros <;> first | omega | (intro; rfl), ?_⟩
      rw [← hP]
      refine ⟨_, _, rfl, fun _ h => h, Sees.same (Sees.same (Sees.cons (fun ro H h => ⟨H, [], by simp, row_front (n' := i) (f' := rowsV encI (othersL xs s.id)) (by omega) (fun k j' hk hj' => ?_) h⟩) (Sees.refl []))), by rw [hil], by rw [hil]⟩
      have hb : Nat.ble i k = false := by rw [Bool.eq_false_iff, ne_eq, Nat.ble_eq]; omega
      have hk' : k < ys.length := by omega
      simp only [ovAt, hb, Bool.false_and, cond_false, ← h1, rowsV, List.getD_eq_getElem?_getD, List.getElem?_take, if_pos hk]
end Go.SX

/- Raft: who votes: read out of an entry, by any log. -/
namespace Go.SX
open Go.Proofs
set_option maxRecDepth 1000000
variable {E : Env}

theorem c59o (nl : Bool) (b off cap : Nat) (xs : List Int) (hl : xs.length < 2 ^ 62) : Spec Try.prog E 59 [.osl 0 nl b off xs.length cap] [.row nl b 3 off 1 xs.length cap (rowsV encI xs)] (fun v hp => v = Bl (areV xs) ∧ hp = [.row nl b 3 off 1 xs.length cap (rowsV encI xs)]) := by
  refine spec_of (keep := k59) (args' := [.osl 0 nl b off xs.length cap]) Try.func59 rfl Try.ntmps59 s59_ok (by simp) ⟨rfl, fun _ h => h⟩ (fun _ _ h => h) (go_ok _ 100 _ _ ?_)
  simp only [go_sem, s59, k59, Nat.reduceBEq]
  refine safe_loop (fun i : {i : Nat // i ≤ xs.length ∧ ∀ k, k < i → okV xs k = true} => ⟨[(0, .osl 0 nl b off xs.length cap), (2, Bl false), (5, .osl 0 nl b off xs.length cap), (6, I xs.length), (7, I i.1)], [.row nl b 3 off 1 xs.length cap (rowsV encI xs)]⟩) (fun i => xs.length - i.1) ⟨0, by omega, by omega⟩
    (Sub.front (by simp [envSub, look]) rfl) ?_
  rintro ⟨i, hi, hall⟩
  refine go_ok _ 100 _ _ ?_
  simp only [go_sem, Nat.reduceBEq]
  refine ⟨fun h => ?_, fun h => ?_⟩
  · have hlt : i < xs.length := by simpa using h
    refine ⟨by omega, by omega, ?_⟩
    refine (stp_call [] rfl rfl rfl ⟨_, Try.func67, rfl, rfl⟩ (c67 _) rfl (fun _ h => h) rfl (fun _ _ h => h) ?_).safe trivial
    rintro v hp ⟨rfl, rfl⟩
    refine ⟨trivial, go_ok _ 100 _ _ ?_⟩
    simp only [go_sem, Nat.reduceBEq, Try.results59, Int.toNat_natCast, inI64]
    have hk : (!isIdB (xs.getD i 0) || decide (0 < (i : Int)) && decide (xs.getD i 0 ≤ xs.getD ((i : Int) - 1).toNat 0)) = !okV xs i := by
      rw [show ((i : Int) - 1).toNat = i - 1 by omega]
      unfold okV
      rcases Nat.eq_zero_or_pos i with h0 | h0
      · subst h0; simp
      · have : decide (xs.getD i 0 ≤ xs.getD (i - 1) 0) = !decide (xs.getD (i - 1) 0 < xs.getD i 0) := by simp only [← decide_not, Int.not_lt]
        rw [this]
        have : (i == 0) = false := by simp; omega
        have h2 : decide (0 < (i : Int)) = true := by simp; omega
        rw [this, h2]
        cases isIdB (xs.getD i 0) <;> simp
    rw [hk]
    and_intros
    all_goals try (intros; first | omega | simp_all; done | (simp_all; omega))
    · intro h'
      have : okV xs i = false := by simpa using h'
      have : (List.range xs.length).all (okV xs) = false := by
        rw [List.all_eq_false]
        exact ⟨i, by simpa using hlt, by simp [this]⟩
      simp [areV, this]
    · intro h'
      have h' : okV xs i = true := by simpa using h'
      refine ⟨by omega, ?_⟩
      refine safe_lend ⟨i + 1, hlt, fun k hk => ?_⟩ (by simp only; omega) (Sub.front (by simp [envSub, look]) rfl)
      rcases Nat.lt_or_eq_of_le (Nat.lt_succ_iff.1 hk) with h1 | rfl
      · exact hall k h1
      · exact h'
  · simp only [Try.results59, go_sem]
    have hi' : i = xs.length := by simp at h; omega
    have : (List.range xs.length).all (okV xs) = true := by
      rw [List.all_eq_true]
      intro k hk
      exact hall k (by rw [hi']; simpa using hk)
    have e1 : decide ((1 : Int) ≤ (xs.length : Int)) = decide (1 ≤ xs.length) := by apply Bool.eq_iff_iff.2; simp; omega
    have e2 : decide ((xs.length : Int) ≤ 7) = decide (xs.length ≤ 7) := by apply Bool.eq_iff_iff.2; simp; omega
    simp only [go_sem, Nat.reduceBEq, areV, this, Bool.true_and, e1, e2]

end Go.SX
