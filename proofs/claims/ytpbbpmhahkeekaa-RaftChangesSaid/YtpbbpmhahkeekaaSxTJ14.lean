/- Joined texts: T63. -/
import Derived.Test.YtpbbpmhahkeekaaSxTJ13
import Derived.Test.YtpbbpmhahkeekaaSxTJ12
/- Raft, the law: voters are changed one at a time. -/
namespace Go.SX
open Go.Proofs
set_option maxRecDepth 1000000
variable {E : Env}

/-- quiet rounds so far -/
structure W6a (N : Nat) where
  c : Nat
  hc : c ≤ 40
  b : Nat
  g : GL
  gd : g.good N (2100 * c) 0 70000
  eq : Rf.Gr.quietsC 40 (Rf.Gr.new N) = Rf.Gr.quietsC (40 - c) g.pl
/-- Change of one of a group's nodes -/
theorem c25g (b nb : Nat) (g : GL) {i : Nat} (n : NL) (a : Option Addr) (cap : Nat) (vs : List Int) {k j : Nat} (hR : g.R[i]? = some (some (nb, n))) (h : n.nd.inv k j) (hvl : vs.length ≤ 1000) (hk1 : k + 1 ≤ 2 ^ 30) (hj : j + 14 ≤ 2 ^ 28) :
    Spec Try.prog E 25 [.ptr 0 nb 0, vI a cap vs] (gO b g) (fun v hp => ∃ n' : NL, (v = .tup [I (n.nd.change vs).1.1, I (n.nd.change vs).1.2] ∧ n'.nd = (n.nd.change vs).2) ∧ hp = gO b (g.setR i nb n')) :=
  Spec.node ((c25p nb n a cap vs h hvl hk1 hj).post fun v hp ⟨h1, n', h2, h3⟩ => ⟨n', ⟨h1, h2⟩, h3⟩) b g hR
/-- the nodes from i on are those of the plain group -/
structure W6b (R : List Rf.Nd) (N K J : Nat) where
  i : Nat
  hi : i ≤ N
  g : GL
  hN : g.N = N
  hl : g.R.length = N
  at' : ∀ m, i ≤ m → m < N → ∃ nb n, g.R[m]? = some (some (nb, n)) ∧ rowsV encR g.R m 0 = .ptr 0 nb 0 ∧ n.nd = R.getD m default ∧ n.nd.inv K J
/-- the voters wanted, after k of them -/
def wantV (V : List Int) (x : Int) (more : Bool) (k : Nat) : List Int := (V.take k).filter fun y => more || decide (y ≠ x)
theorem wantV_succ {V : List Int} {x : Int} {more : Bool} {k : Nat} (hk : k < V.length) : wantV V x more (k + 1) = wantV V x more k ++ if (more || decide (V.getD k 0 ≠ x)) = true then [V.getD k 0] else [] := by
  unfold wantV
  rw [List.take_add_one, List.getElem?_eq_getElem hk, List.filter_append, List.getD_eq_getElem?_getD, List.getElem?_eq_getElem hk]
  simp only [Option.toList_some, Option.getD_some, List.filter_cons, List.filter_nil]
/-- the first of a group's nodes, who leads; the others are those of the plain group -/
structure Ld (R : List Rf.Nd) (N : Nat) (g : GL) (nb : Nat) (n : NL) (K J : Nat) : Prop where
  R' : g.R[0]? = some (some (nb, n))
  inv : n.nd.inv K J
  gN : g.N = N
  gl : g.R.length = N
  at' : ∀ m, 1 ≤ m → m < N → ∃ nb n, g.R[m]? = some (some (nb, n)) ∧ rowsV encR g.R m 0 = .ptr 0 nb 0 ∧ n.nd = R.getD m default ∧ n.nd.inv (2100 * 40) 0
theorem Ld.row {R : List Rf.Nd} {N : Nat} {g : GL} {nb : Nat} {n : NL} {K J : Nat} (h : Ld R N g nb n K J) : rowsV encR g.R 0 0 = .ptr 0 nb 0 := encR_at h.R'
theorem Ld.len {R : List Rf.Nd} {N : Nat} {g : GL} {nb : Nat} {n : NL} {K J : Nat} (h : Ld R N g nb n K J) : 0 < g.R.length := (List.getElem?_eq_some_iff.1 h.R').1
theorem Ld.set {R : List Rf.Nd} {N : Nat} {g : GL} {nb : Nat} {n n' : NL} {K J K' J' : Nat} (h : Ld R N g nb n K J) (hi : n'.nd.inv K' J') : Ld R N (g.setR 0 nb n') nb n' K' J' := by
  refine ⟨List.getElem?_set_self h.len, hi, h.gN, by show (g.R.set _ _).length = N; rw [List.length_set]; exact h.gl, fun m h1 h2 => ?_⟩
  obtain ⟨nb3, n3, q1, q2, q3, q4⟩ := h.at' m h1 h2
  have q5 : (g.setR 0 nb n').R[m]? = some (some (nb3, n3)) := by
    show (g.R.set _ _)[m]? = _
    rw [List.getElem?_set_ne (by omega)]
    exact q1
  exact ⟨nb3, n3, q5, encR_at q5, q3, q4⟩
theorem chgs_facts {n : Rf.Nd} {who : Nat} {more : Bool} (h : Rf.chgs n who more = true) :
    (n.change n.voters).1.2 = 1 ∧ ((n.change n.voters).2.change []).1.2 = 1 ∧ (((n.change n.voters).2.change []).2.change (n.voters ++ [200, 201])).1.2 = 1 ∧
    ((((n.change n.voters).2.change []).2.change (n.voters ++ [200, 201])).2.change (Rf.newV n.voters (n.voters.getD who 0) more)).1.2 = 0 ∧
    2 ≤ ((((n.change n.voters).2.change []).2.change (n.voters ++ [200, 201])).2.change (Rf.newV n.voters (n.voters.getD who 0) more)).1.1 ∧
    ((((n.change n.voters).2.change []).2.change (n.voters ++ [200, 201])).2.change (Rf.newV n.voters (n.voters.getD who 0) more)).2.voters = Rf.newV n.voters (n.voters.getD who 0) more ∧
    ((Rf.newV n.voters (n.voters.getD who 0) more).length ≤ 1 ∨ (((((n.change n.voters).2.change []).2.change (n.voters ++ [200, 201])).2.change (Rf.newV n.voters (n.voters.getD who 0) more)).2.change n.voters).1.2 = 22) := by
  unfold Rf.chgs at h
  simp only [Bool.and_eq_true, Bool.or_eq_true, decide_eq_true_eq] at h
  exact h
theorem app_two {ys : List Int} {x y : Int} : ∀ i j, i < ys.length + 2 → j < 1 → appF (rowsV encI ys) ys.length (litF 1 [I x, I y]) i j = rowsV encI (ys ++ [x, y]) i j := by
  intro i j hi hj
  rw [← app_rows i j hi hj]
  unfold appF
  cases h : Nat.blt i ys.length with
  | true => rfl
  | false =>
    have h2 : ¬ i < ys.length := fun h3 => by rw [show Nat.blt i ys.length = true by rw [Nat.blt_eq]; exact h3] at h; cases h
    have : i - ys.length = 0 ∨ i - ys.length = 1 := by omega
    obtain rfl : j = 0 := by omega
    simp only [cond_false]
    rcases this with h3 | h3 <;> rw [h3] <;> rfl
structure W6c (V : List Int) where
  k : Nat
  hk : k ≤ V.length
  w : Rw
set_option maxHeartbeats 16000000 in
theorem c6p (x y : Int) (more : Bool) : Spec Try.prog E 6 [I x, I y, Bl more] [] (fun v _ => v = Bl true) := by
  obtain ⟨N, hN, hN2, hN5⟩ : ∃ N : Nat, 2 + x % 4 = N ∧ 2 ≤ N ∧ N ≤ 5 := ⟨(2 + x % 4).toNat, by omega, by omega, by omega⟩
  obtain ⟨ge, he1, he2, he3, he4, he5⟩ := evC hN2 hN5
  refine spec_of (keep := k6) (args' := [I x, I y, Bl more]) Try.func6 rfl Try.ntmps6 s6_ok (by simp) ⟨rfl, fun _ h => h⟩ (fun _ _ h => h) (go_ok _ 20 _ _ ?_)
  simp only [go_sem, s6, k6, Nat.reduceBEq, Nat.reduceAdd, Nat.zero_add]
  refine (stp_call [] rfl rfl rfl ⟨_, Try.func12, rfl, rfl⟩ (c12p.leave (Post' := fun v hp => v = Bl true ∧ hp = []) fun _ hp h => ⟨[], hp, rfl, h, rfl⟩) rfl (fun _ h => h) rfl (fun _ _ h => h) ?_).safe trivial
  rintro v hp ⟨rfl, rfl⟩
  refine ⟨trivial, go_ok _ 20 _ _ ?_⟩
  simp only [go_sem, Nat.reduceBEq, Try.results6]
  refine (stp_call [] (args := [I x, I 4]) rfl rfl rfl ⟨_, Try.func21, rfl, rfl⟩ (c21 x 4 (by decide) (by decide)) rfl (fun _ h => h) rfl (fun _ _ h => h) ?_).safe trivial
  rintro v hp ⟨rfl, rfl⟩
  refine ⟨trivial, go_ok _ 1 _ _ ?_⟩
  simp only [go_sem, Nat.reduceBEq]
  refine ⟨by simp only [inI64]; omega, ?_⟩
  rw [hN]
  refine (stp_call [] (args := [I N]) rfl rfl rfl ⟨_, Try.func23, rfl, rfl⟩ (c23p N (by omega) (by omega)) rfl (fun _ h => h) rfl (fun _ _ h => h) ?_).safe trivial
  rintro v hp ⟨b, g, rfl, hpl, gd, gok, rfl⟩
  refine ⟨trivial, go_ok _ 20 _ _ ?_⟩
  simp only [go_sem, Nat.reduceBEq]
  refine safe_loop (ι := W6a N) (fun w => ⟨[(1, I y), (2, Bl more), (7, .ptr 0 w.b 0), (8, I w.c)], gO w.b w.g⟩) (fun w => 40 - w.c)
    ⟨0, Nat.zero_le _, b, g, ⟨gd.inv.mono (Nat.zero_le _) (Nat.le_refl _) (by decide), gd.N', gd.full⟩, by rw [hpl]⟩ (Sub.front (X := []) (by simp [envSub, look]) rfl) ?_
  rintro ⟨c, hc, b, g, gd, heq⟩
  refine go_ok _ 10 _ _ ?_
  simp only [go_sem, List.cons_append, List.nil_append, Nat.reduceBEq]
  refine ⟨fun hlc => ?_, fun hlc => ?_⟩
  · have hlt : c < 40 := by have := of_decide_eq_true hlc; omega
    refine go_ok _ 5 _ _ ?_
    simp only [go_sem, Nat.reduceBEq]
    have hst : Rf.Gr.quietsC (40 - c) g.pl = g.pl.quietC.bind (Rf.Gr.quietsC (40 - (c + 1))) := by rw [show 40 - c = (40 - (c + 1)) + 1 by omega]; rfl
    refine (stp_call [0, 1, 2, 3, 4, 5, 6, 7, 8] (args := [.ptr 0 b 0]) rfl rfl rfl ⟨_, Try.func24, rfl, rfl⟩ (c24p b g (by omega) (by omega) gd) rfl (fun _ h => h) rfl (fun _ _ h => h) ?_).safe trivial
    rintro v hp (hnone | ⟨rfl, G, k1, k2, k3, rfl⟩)
    · rw [heq, hst, hnone] at he1
      cases he1
    · refine ⟨trivial, go_ok _ 10 _ _ ?_⟩
      simp only [go_sem, List.cons_append, List.nil_append, Nat.reduceBEq, Try.results6]
      refine ⟨by simp only [inI64]; omega, ?_⟩
      exact safe_lend (⟨c + 1, hlt, b, G, ⟨k3.inv.mono (by omega) (Nat.le_refl _) (Nat.le_refl _), k3.N', k3.full⟩, by rw [heq, hst, k1]; rfl⟩ : W6a N) (by simp only; omega) (Sub.front (X := []) (by simp [envSub, look]) rfl)
  have hcl : c = 40 := by have := of_decide_eq_false hlc; omega
  subst hcl
  rw [heq] at he1
  simp only [Nat.sub_self, Rf.Gr.quietsC, Option.some.injEq] at he1
  subst he1
  refine go_ok _ 10 _ _ ?_
  simp only [go_sem, List.nil_append, Nat.reduceBEq]
  refine safe_loop (ι := W6b g.pl.R N (2100 * 40) 0) (fun w => ⟨[(1, I y), (2, Bl more), (7, .ptr 0 b 0), (9, I w.i)], gO b w.g⟩) (fun w => N - w.i)
    ⟨0, Nat.zero_le _, g, gd.N', gd.Rl, fun m _ hm => by
      obtain ⟨nb, n, h1, h2, h3, h4⟩ := gd.node hm
      exact ⟨nb, n, h1, h2, h3.symm, h4⟩⟩ (Sub.front (X := []) (by simp [envSub, look]) rfl) ?_
  clear heq
  rintro ⟨i, hi, g1, hGN, hGl, hat⟩
  refine go_ok _ 12 _ _ ?_
  simp only [go_sem, List.cons_append, List.nil_append, Nat.reduceBEq, Nat.zero_add]
  refine ⟨fun hin => ?_, fun hin => ?_⟩
  rotate_left
  · refine go_ok _ 20 _ _ ?_
    simp only [go_sem, List.nil_append, Nat.reduceBEq, Try.results6]
  have hlt : i < N := by have := of_decide_eq_true hin; omega
  clear hin
  obtain ⟨nb, n, hR, hRi, hnd, hinv⟩ := hat i (Nat.le_refl _) hlt
  refine go_ok _ 12 _ _ ?_
  simp only [go_sem, hRi, Int.toNat_natCast, Nat.reduceBEq, Nat.zero_add]
  refine ⟨⟨by omega, by omega, Nat.le_refl _⟩, ⟨by omega, by decide⟩, ?_⟩
  refine (stp_call [0, 1, 2, 3, 4, 5, 6, 7, 8] (args := [.ptr 0 nb 0]) rfl rfl rfl ⟨_, Try.func14, rfl, rfl⟩ (Spec.node ((c14n nb n).post (Post' := fun v hp => ∃ N : NL, (v = I n.nd.role ∧ N = n) ∧ hp = nO nb N) fun v hp h => ⟨n, ⟨h.1, rfl⟩, h.2⟩) b g1 hR) rfl (fun _ h => h) rfl (fun _ _ h => h) ?_).safe trivial
  rintro v hp ⟨n', ⟨rfl, hn'⟩, rfl⟩
  rw [hn', setR_same hR]
  refine ⟨trivial, ?_⟩
  rcases Nat.eq_zero_or_pos i with rfl | hi1
  · rw [hnd, he2]
    refine go_ok _ 9 _ _ ?_
    simp only [go_sem, List.cons_append, List.nil_append, Nat.reduceBEq, Nat.zero_add]
    refine ⟨fun h => absurd h (by decide), fun _ => ?_⟩
    refine go_ok _ 12 _ _ ?_
    simp only [go_sem, hRi, Int.toNat_natCast, Nat.reduceBEq]
    refine ⟨⟨by omega, by omega, Nat.le_refl _⟩, ⟨by omega, by decide⟩, ?_⟩
    refine (stp_call [0, 1, 2, 3, 4, 5, 6, 7, 8] (args := [.ptr 0 nb 0]) rfl rfl rfl ⟨_, Try.func26, rfl, rfl⟩ (Spec.node (c26n nb n hinv.toFit (by omega)) b g1 hR) rfl (fun _ h => h) rfl (fun _ _ h => h) ?_).safe trivial
    rintro v hp ⟨n2, ⟨⟨a1, k1, rfl⟩, hn2⟩, rfl⟩
    rw [hn2, setR_same hR]
    rw [← hnd] at he4 he5
    generalize hV : n.nd.voters = V at *
    obtain ⟨k0, hk0, hk0N⟩ : ∃ k0 : Nat, y % N = k0 ∧ k0 < N := ⟨(y % N).toNat, by have := Int.emod_nonneg y (show (N : Int) ≠ 0 by omega); omega, by have := Int.emod_lt_of_pos y (show (0 : Int) < N by omega); omega⟩
    have hlaw := he5 k0 more hk0N
    refine ⟨trivial, go_ok _ 20 _ _ ?_⟩
    simp only [go_sem, List.cons_append, List.nil_append, Nat.reduceBEq]
    refine (stp_call [] (args := [I y, I V.length]) rfl rfl rfl ⟨_, Try.func21, rfl, rfl⟩ (c21 y V.length (by omega) (by omega)) rfl (fun _ h => h) rfl (fun _ _ h => h) ?_).safe trivial
    rintro v hp ⟨rfl, rfl⟩
    rw [he4, hk0]
    refine ⟨by simp only [recheck, go_sem], go_ok _ 20 _ _ ?_⟩
    simp only [go_sem, Int.toNat_natCast, List.cons_append, List.nil_append, Nat.reduceBEq]
    refine ⟨by omega, by omega, ?_⟩
    refine safe_nilrow 0 3 0 1 (rowsV encI []) (env' := [(1, I y), (2, Bl more), (7, .ptr 0 b 0), (9, I (0 : Nat)), (12, vI a1 k1 V), (13, .osl 9 true 0 0 0 0), (14, I (V.getD k0 0)), (15, I (0 : Nat))]) ⟨rfl, .inl rfl, rfl, .inl rfl, rfl, .inl rfl, rfl, .inl rfl, rfl, .inl rfl, rfl, .inr ⟨⟨_, _, rfl⟩, rfl⟩, rfl, .inl rfl, rfl, .inl rfl, trivial⟩ ?_
    generalize hx0 : V.getD k0 0 = x0 at *
    refine safe_loop (ι := W6c V) (fun w => ⟨[(1, I y), (2, Bl more), (7, .ptr 0 b 0), (9, I (0 : Nat)), (12, vI a1 k1 V), (13, w.w.sv 9 (wantV V x0 more w.k).length), (14, I x0), (15, I w.k)], gO b g1 ++ [.row w.w.nl w.w.b 3 w.w.off 1 (wantV V x0 more w.k).length w.w.cap (rowsV encI (wantV V x0 more w.k))]⟩) (fun w => V.length - w.k)
      ⟨0, Nat.zero_le _, ⟨true, 0, 0, 0⟩⟩ (Sub.front (X := []) (by simp [envSub, look, wantV, Rw.sv]) rfl) ?_
    rintro ⟨k, hk, w⟩
    refine go_ok _ 10 _ _ ?_
    simp only [go_sem, List.cons_append, List.nil_append, Nat.reduceBEq]
    refine ⟨fun hc => ?_, fun hc => ?_⟩
    · have hkl : k < V.length := by have := of_decide_eq_true hc; omega
      refine go_ok _ 12 _ _ ?_
      simp only [go_sem, Int.toNat_natCast, List.cons_append, List.nil_append, Nat.reduceBEq]
      refine ⟨fun h => ⟨by rw [h]; rfl, by omega, by omega⟩, fun h => ⟨h, by decide⟩, fun h => by rw [h]; rfl, ?_⟩
      refine go_ok _ 20 _ _ ?_
      simp only [go_sem, Int.toNat_natCast, List.cons_append, List.nil_append, Nat.reduceBEq, Nat.reduceAdd, Nat.zero_add]
      refine ⟨fun hw => ⟨⟨by omega, by omega⟩, by decide, fun b2 => ?_⟩, fun hw => ?_⟩
      · have hws : wantV V x0 more (k + 1) = wantV V x0 more k ++ [V.getD k 0] := by rw [wantV_succ hkl, if_pos hw]
        have hwl : (wantV V x0 more k).length ≤ V.length := Nat.le_trans (List.length_filter_le _ _) (by rw [List.length_take]; omega)
        refine (stp_app2 (c := 9) (b := w.b) (off := w.off) (nl := w.nl) (n := (wantV V x0 more k).length) (cap := w.cap) (x := .osl 10 false b2 0 1 1) (gx := litF 1 [I (V.getD k 0)]) (m := 1) (f := rowsV encI (wantV V x0 more k)) (f2 := rowsV encI (wantV V x0 more (k + 1))) (N := (wantV V x0 more (k + 1)).length) rfl rfl rfl rfl ⟨rfl, rfl, rfl, rfl, by decide⟩ (fun i j hi hj => ?_) (by omega) (by rw [hws, List.length_append, List.length_singleton]) (fun a j ha hj => ?_) fun nl2 b3 off2 cap2 => ?_).safe trivial
        · obtain rfl : i = 0 := by omega
          obtain rfl : j = 0 := by omega
          simp [litF, one, Value.oneCell']
        · rw [hws] at ha ⊢
          exact app_one (enc := encI) a j (by simpa using ha) hj
        refine ⟨trivial, go_ok _ 100 _ _ ?_⟩
        simp only [go_sem, Nat.reduceBEq]
        refine ⟨by simp only [inI64]; omega, ?_⟩
        exact safe_lend (⟨k + 1, hkl, ⟨nl2, b3, off2, cap2⟩⟩ : W6c V) (by simp only; omega) (Sub.front (X := [_]) (by simp [envSub, look]) rfl)
      · have hws : wantV V x0 more (k + 1) = wantV V x0 more k := by rw [wantV_succ hkl, if_neg (by rw [hw]; decide), List.append_nil]
        refine ⟨by simp only [inI64]; omega, ?_⟩
        exact safe_lend (⟨k + 1, hkl, w⟩ : W6c V) (by simp only; omega) (Sub.front (X := []) (by simp [envSub, look, hws]) (by rw [hws]; rfl))
    have hkl : k = V.length := by have := of_decide_eq_false hc; omega
    subst hkl
    have hWl : (wantV V x0 more V.length).length ≤ V.length := Nat.le_trans (List.length_filter_le _ _) (by rw [List.length_take]; omega)
    have hWe : Rf.newV V x0 more = wantV V x0 more V.length ++ if more then [100] else [] := by unfold Rf.newV wantV; rw [List.take_length]
    refine go_ok _ 1 _ _ ?_
    simp only [go_sem]
    refine safe_code_mid (ι := Option Addr × Nat) (fun q => ⟨[(1, I y), (2, Bl more), (7, .ptr 0 b 0), (9, I (0 : Nat)), (12, vI a1 k1 V), (13, vI q.1 q.2 (Rf.newV V x0 more))], gO b g1 ++ [.emp]⟩) ?_ ?_
    rotate_left
    · intro rest
      rcases more with _ | _
      · refine go_ok _ 6 _ _ ?_
        simp only [go_sem, List.cons_append, List.nil_append, Nat.reduceBEq]
        have hW : Rf.newV V x0 false = wantV V x0 false V.length := by rw [hWe]; exact List.append_nil _
        refine safe_frzA (c := 9) (rowsV encI (Rf.newV V x0 false)) rfl (fun _ _ _ _ => by rw [hW]) (by simp [frzOk, frzOk1]) ?_
        simp only [go_sem]
        exact Safe.sub (Sub.front (X := []) (by simp [envSub, look, hW]) rfl) (rest (if w.nl = true then none else some ⟨w.b, w.off, none⟩, w.cap))
      · refine go_ok _ 8 _ _ ?_
        simp only [go_sem, List.cons_append, List.nil_append, Nat.reduceBEq, Nat.reduceAdd, Nat.zero_add]
        refine ⟨fun b2 => ?_, fun h => absurd h (by decide)⟩
        have hW : Rf.newV V x0 true = wantV V x0 true V.length ++ [100] := by rw [hWe]; rfl
        refine (stp_app2 (c := 9) (b := w.b) (off := w.off) (nl := w.nl) (n := (wantV V x0 true V.length).length) (cap := w.cap) (x := .osl 10 false b2 0 1 1) (gx := litF 1 [I 100]) (m := 1) (f := rowsV encI (wantV V x0 true V.length)) (f2 := rowsV encI (Rf.newV V x0 true)) (N := (Rf.newV V x0 true).length) rfl rfl rfl rfl ⟨rfl, rfl, rfl, rfl, by decide⟩ (fun i j hi hj => ?_) (by omega) (by rw [hW, List.length_append, List.length_singleton]) (fun a j ha hj => ?_) fun nl2 b3 off2 cap2 => ?_).safe trivial
        · obtain rfl : i = 0 := by omega
          obtain rfl : j = 0 := by omega
          simp [litF, one, Value.oneCell']
        · rw [hW] at ha ⊢
          exact app_one (enc := encI) a j (by simpa using ha) hj
        refine ⟨trivial, go_ok _ 2 _ _ ?_⟩
        simp only [go_sem, List.nil_append, Nat.reduceBEq]
        refine safe_frzA (c := 9) (rowsV encI (Rf.newV V x0 true)) rfl (fun _ _ _ _ => rfl) (by simp [frzOk, frzOk1]) ?_
        simp only [go_sem]
        exact Safe.sub (Sub.front (X := [_]) (by simp [envSub, look]) rfl) (rest (if nl2 = true then none else some ⟨b3, off2, none⟩, cap2))
    rintro ⟨a3, k3⟩
    have L1 : Ld g.pl.R N g1 nb n (2100 * 40) 0 := ⟨hR, hinv, hGN, hGl, fun m _ h2 => hat m (Nat.zero_le _) h2⟩
    obtain ⟨e1, e2, e3, e4, e5, e6, e7⟩ := chgs_facts hlaw
    rw [hV] at e1 e2 e3 e4 e5 e6 e7
    rw [hx0] at e4 e5 e6 e7
    have hnl : (Rf.newV V x0 more).length ≤ 6 := by
      rw [hWe, List.length_append]
      cases more <;> simp <;> omega
    generalize Rf.newV V x0 more = W at *
    refine go_ok _ 20 _ _ ?_
    simp only [go_sem, L1.row, Int.toNat_natCast, List.cons_append, List.nil_append, Nat.reduceBEq, Nat.zero_add]
    have hl1 := L1.len
    refine ⟨⟨by omega, by omega, Nat.le_refl _⟩, ⟨by omega, by decide⟩, ?_⟩
    refine (stp_call [0, 1, 2, 3, 4, 5, 6, 7, 8] (args := [.ptr 0 nb 0, vI a1 k1 V]) rfl rfl rfl ⟨_, Try.func25, rfl, rfl⟩ (c25g b nb g1 n a1 k1 V L1.R' L1.inv (by omega) (by decide) (by decide)) rfl (fun _ h => h) rfl (fun _ _ h => h) ?_).safe trivial
    rintro v hp ⟨n1, ⟨rfl, hn1⟩, rfl⟩
    have L2 := L1.set (n' := n1) (by rw [hn1]; exact Rf.inv_change L1.inv V)
    rw [e1]
    rw [← hn1] at e2 e3 e4 e5 e6 e7
    generalize g1.setR 0 nb n1 = g2 at *
    refine ⟨by simp only [recheck, go_sem], go_ok _ 20 _ _ ?_⟩
    simp only [go_sem, L2.row, Int.toNat_natCast, List.cons_append, List.nil_append, Nat.reduceBEq, Nat.zero_add]
    have hl2 := L2.len
    refine ⟨⟨by omega, by omega, Nat.le_refl _⟩, ⟨by omega, by decide⟩, ?_⟩
    refine (stp_call [0, 1, 2, 3, 4, 5, 6, 7, 8] (args := [.ptr 0 nb 0, vI none 0 []]) rfl rfl rfl ⟨_, Try.func25, rfl, rfl⟩ (c25g b nb g2 n1 none 0 [] L2.R' L2.inv (by decide) (by decide) (by decide)) rfl (fun _ h => ?_) rfl (fun _ _ h => h) ?_).safe trivial
    · simp only [SV.oks, SV.ok, List.length_nil]
      exact ⟨trivial, ⟨Nat.le_refl _, fun i j hi => absurd hi (by omega)⟩, trivial⟩
    rintro v hp ⟨n2, ⟨rfl, hn2⟩, rfl⟩
    have L3 := L2.set (n' := n2) (by rw [hn2]; exact Rf.inv_change L2.inv [])
    rw [e2]
    rw [← hn2] at e3 e4 e5 e6 e7
    generalize g2.setR 0 nb n2 = g3 at *
    refine ⟨by simp only [recheck, go_sem], go_ok _ 7 _ _ ?_⟩
    simp only [go_sem, List.cons_append, List.nil_append, Nat.reduceBEq]
    have hones : onesF (rowsV encI V) V.length 1 := by
      intro i j hi hj
      obtain rfl : j = 0 := by omega
      simp [rowsV, encI, one, Value.oneCell']
    have hones2 : onesF (litF 1 [I 200, I 201]) 2 1 := by
      intro i j hi hj
      obtain rfl : j = 0 := by omega
      have : i = 0 ∨ i = 1 := by omega
      rcases this with rfl | rfl <;> simp [litF, one, Value.oneCell']
    refine safe_alts_mid (ι := {p : GL × NL // Ld g.pl.R N p.1 nb p.2 (2100 * 40 + 1 + 1 + 1) (0 + 14 + 14 + 14) ∧ p.2.nd = (n2.nd.change (V ++ [200, 201])).2}) (fun p => ⟨[(1, I y), (2, Bl more), (7, .ptr 0 b 0), (9, I (0 : Nat)), (12, vI a1 k1 V), (13, vI a3 k3 W), (17, I 1), (19, I 1), (21, I 1)], gO b p.1.1⟩) ?_ ?_
    rotate_left
    · intro l hl rest
      have hl3 := L3.len
      have hb : (0 ≤ ((0 : Nat) : Int) ∧ ((0 : Nat) : Int) < g3.R.length ∧ g3.R.length ≤ g3.R.length) ∧ 0 < g3.R.length ∧ 0 < 1 := ⟨⟨by omega, by omega, Nat.le_refl _⟩, by omega, by decide⟩
      simp only [List.mem_cons, List.not_mem_nil, or_false] at hl
      rcases hl with rfl | rfl | rfl
      · refine go_ok _ 20 _ _ ?_
        simp only [go_sem, L3.row, Int.toNat_natCast, List.cons_append, List.nil_append, Nat.reduceBEq, Nat.reduceAdd, Nat.zero_add]
        refine ⟨hb.1, hb.2, fun b1 => ⟨hb, ?_⟩⟩
        refine (stp_app2 (c := 10) (b := b1) (off := 0) (nl := false) (n := 0) (cap := 0) (x := vI a1 k1 V) (gx := rowsV encI V) (m := V.length) (f := litF 1 []) (f2 := rowsV encI V) (N := V.length) rfl rfl rfl rfl rfl hones (by omega) (by omega) (fun a j _ _ => rfl) fun nl2 b3 off2 cap2 => ?_).safe trivial
        refine ⟨by simp only [recheck, recheck1, go_sem, Int.toNat_natCast, Nat.reduceBEq, Nat.zero_add]; exact ⟨hb.1, hb.2, by rw [L3.row]⟩, go_ok _ 20 _ _ ?_⟩
        simp only [go_sem, L3.row, Int.toNat_natCast, List.cons_append, List.nil_append, Nat.reduceBEq, Nat.reduceAdd, Nat.zero_add]
        refine fun b2 => ⟨hb, ?_⟩
        refine (stp_app2 (c := 10) (b := b3) (off := off2) (nl := nl2) (n := V.length) (cap := cap2) (x := .osl 11 false b2 0 2 2) (gx := litF 1 [I 200, I 201]) (m := 2) (f := rowsV encI V) (f2 := rowsV encI (V ++ [200, 201])) (N := (V ++ [200, 201]).length) rfl rfl rfl rfl ⟨rfl, rfl, rfl, rfl, by decide⟩ hones2 (by omega) (by simp) (fun a j ha hj => app_two a j (by simpa using ha) hj) fun nl3 b4 off3 cap3 => ?_).safe trivial
        refine ⟨by simp only [recheck, recheck1, go_sem, Int.toNat_natCast, Nat.reduceBEq, Nat.zero_add]; exact ⟨hb.1, hb.2, by rw [L3.row]⟩, ?_⟩
        refine safe_prune [142, 147, 1, 2, 7, 9, 12, 13, 17, 19] ?_
        simp only [go_sem, Nat.reduceBEq]
        refine safe_frzA (c := 10) (rowsV encI (V ++ [200, 201])) rfl (fun _ _ _ _ => rfl) (by simp [frzOk, frzOk1]) ?_
        simp only [go_sem]
        refine (stp_call [0, 1, 2, 3, 4, 5, 6, 7, 8] (args := [.ptr 0 nb 0, vI (if nl3 = true then none else some ⟨b4, off3, none⟩) cap3 (V ++ [200, 201])]) rfl rfl rfl ⟨_, Try.func25, rfl, rfl⟩ (c25g b nb g3 n2 _ _ (V ++ [200, 201]) L3.R' L3.inv (by simp; omega) (by decide) (by decide)) rfl (fun _ h => h) rfl (fun _ _ h => h) ?_).safe trivial
        rintro v hp ⟨n3, ⟨rfl, hn3⟩, rfl⟩
        rw [e3]
        refine ⟨by simp only [recheck, go_sem], go_ok _ 6 _ _ ?_⟩
        simp only [go_sem, List.cons_append, List.nil_append, Nat.reduceBEq]
        refine Safe.sub ?_ (rest ⟨(g3.setR 0 nb n3, n3), L3.set (by rw [hn3]; exact Rf.inv_change L3.inv _), hn3⟩)
        exact Sub.front (X := [_, _, _]) (by simp [envSub, look]) rfl
      · refine go_ok _ 20 _ _ ?_
        simp only [go_sem, L3.row, Int.toNat_natCast, List.cons_append, List.nil_append, Nat.reduceBEq, Nat.reduceAdd, Nat.zero_add]
        refine ⟨hb.1, hb.2, fun b1 => ⟨hb, fun b2 => ⟨hb, ?_⟩⟩⟩
        refine (stp_app2 (c := 10) (b := b1) (off := 0) (nl := false) (n := 0) (cap := 0) (x := vI a1 k1 V) (gx := rowsV encI V) (m := V.length) (f := litF 1 []) (f2 := rowsV encI V) (N := V.length) rfl rfl rfl rfl rfl hones (by omega) (by omega) (fun a j _ _ => rfl) fun nl2 b3 off2 cap2 => ?_).safe trivial
        refine ⟨by simp only [recheck, recheck1, go_sem, Int.toNat_natCast, Nat.reduceBEq, Nat.zero_add]; exact ⟨hb.1, hb.2, by rw [L3.row]⟩, ?_⟩
        refine (stp_app2 (c := 10) (b := b3) (off := off2) (nl := nl2) (n := V.length) (cap := cap2) (x := .osl 11 false b2 0 2 2) (gx := litF 1 [I 200, I 201]) (m := 2) (f := rowsV encI V) (f2 := rowsV encI (V ++ [200, 201])) (N := (V ++ [200, 201]).length) rfl rfl rfl rfl ⟨rfl, rfl, rfl, rfl, by decide⟩ hones2 (by omega) (by simp) (fun a j ha hj => app_two a j (by simpa using ha) hj) fun nl3 b4 off3 cap3 => ?_).safe trivial
        refine ⟨by simp only [recheck, recheck1, go_sem, Int.toNat_natCast, Nat.reduceBEq, Nat.zero_add]; exact ⟨hb.1, hb.2, by rw [L3.row]⟩, ?_⟩
        refine safe_prune [142, 147, 1, 2, 7, 9, 12, 13, 17, 19] ?_
        simp only [go_sem, Nat.reduceBEq]
        refine safe_frzA (c := 10) (rowsV encI (V ++ [200, 201])) rfl (fun _ _ _ _ => rfl) (by simp [frzOk, frzOk1]) ?_
        simp only [go_sem]
        refine (stp_call [0, 1, 2, 3, 4, 5, 6, 7, 8] (args := [.ptr 0 nb 0, vI (if nl3 = true then none else some ⟨b4, off3, none⟩) cap3 (V ++ [200, 201])]) rfl rfl rfl ⟨_, Try.func25, rfl, rfl⟩ (c25g b nb g3 n2 _ _ (V ++ [200, 201]) L3.R' L3.inv (by simp; omega) (by decide) (by decide)) rfl (fun _ h => h) rfl (fun _ _ h => h) ?_).safe trivial
        rintro v hp ⟨n3, ⟨rfl, hn3⟩, rfl⟩
        rw [e3]
        refine ⟨by simp only [recheck, go_sem], go_ok _ 6 _ _ ?_⟩
        simp only [go_sem, List.cons_append, List.nil_append, Nat.reduceBEq]
        refine Safe.sub ?_ (rest ⟨(g3.setR 0 nb n3, n3), L3.set (by rw [hn3]; exact Rf.inv_change L3.inv _), hn3⟩)
        exact Sub.front (X := [_, _, _]) (by simp [envSub, look]) rfl
      · refine go_ok _ 20 _ _ ?_
        simp only [go_sem, L3.row, Int.toNat_natCast, List.cons_append, List.nil_append, Nat.reduceBEq, Nat.reduceAdd, Nat.zero_add]
        refine ⟨hb.1, hb.2, fun b1 => ⟨hb, fun b2 => ⟨hb, ?_⟩⟩⟩
        refine (stp_app2 (c := 11) (b := b2) (off := 0) (nl := false) (n := 0) (cap := 0) (x := vI a1 k1 V) (gx := rowsV encI V) (m := V.length) (f := litF 1 []) (f2 := rowsV encI V) (N := V.length) rfl rfl rfl rfl rfl hones (by omega) (by omega) (fun a j _ _ => rfl) fun nl2 b3 off2 cap2 => ?_).safe trivial
        refine ⟨by simp only [recheck, recheck1, go_sem, Int.toNat_natCast, Nat.reduceBEq, Nat.zero_add]; exact ⟨hb.1, hb.2, by rw [L3.row]⟩, ?_⟩
        refine (stp_app2 (c := 11) (b := b3) (off := off2) (nl := nl2) (n := V.length) (cap := cap2) (x := .osl 10 false b1 0 2 2) (gx := litF 1 [I 200, I 201]) (m := 2) (f := rowsV encI V) (f2 := rowsV encI (V ++ [200, 201])) (N := (V ++ [200, 201]).length) rfl rfl rfl rfl ⟨rfl, rfl, rfl, rfl, by decide⟩ hones2 (by omega) (by simp) (fun a j ha hj => app_two a j (by simpa using ha) hj) fun nl3 b4 off3 cap3 => ?_).safe trivial
        refine ⟨by simp only [recheck, recheck1, go_sem, Int.toNat_natCast, Nat.reduceBEq, Nat.zero_add]; exact ⟨hb.1, hb.2, by rw [L3.row]⟩, ?_⟩
        refine safe_prune [142, 147, 1, 2, 7, 9, 12, 13, 17, 19] ?_
        simp only [go_sem, Nat.reduceBEq]
        refine safe_frzA (c := 11) (rowsV encI (V ++ [200, 201])) rfl (fun _ _ _ _ => rfl) (by simp [frzOk, frzOk1]) ?_
        simp only [go_sem]
        refine (stp_call [0, 1, 2, 3, 4, 5, 6, 7, 8] (args := [.ptr 0 nb 0, vI (if nl3 = true then none else some ⟨b4, off3, none⟩) cap3 (V ++ [200, 201])]) rfl rfl rfl ⟨_, Try.func25, rfl, rfl⟩ (c25g b nb g3 n2 _ _ (V ++ [200, 201]) L3.R' L3.inv (by simp; omega) (by decide) (by decide)) rfl (fun _ h => h) rfl (fun _ _ h => h) ?_).safe trivial
        rintro v hp ⟨n3, ⟨rfl, hn3⟩, rfl⟩
        rw [e3]
        refine ⟨by simp only [recheck, go_sem], go_ok _ 6 _ _ ?_⟩
        simp only [go_sem, List.cons_append, List.nil_append, Nat.reduceBEq]
        refine Safe.sub ?_ (rest ⟨(g3.setR 0 nb n3, n3), L3.set (by rw [hn3]; exact Rf.inv_change L3.inv _), hn3⟩)
        exact Sub.front (X := [_, _, _]) (by simp [envSub, look]) rfl
    rintro ⟨⟨g4, n3⟩, L4, hn3⟩
    simp only at L4 hn3
    rw [← hn3] at e4 e5 e6 e7
    refine go_ok _ 20 _ _ ?_
    simp only [go_sem, L4.row, Int.toNat_natCast, Nat.reduceBEq, Nat.zero_add]
    have hl4 := L4.len
    refine ⟨⟨by omega, by omega, Nat.le_refl _⟩, ⟨by omega, by decide⟩, ?_⟩
    refine (stp_call [0, 1, 2, 3, 4, 5, 6, 7, 8] (args := [.ptr 0 nb 0, vI a3 k3 W]) rfl rfl rfl ⟨_, Try.func25, rfl, rfl⟩ (c25g b nb g4 n3 a3 k3 W L4.R' L4.inv (by omega) (by decide) (by decide)) rfl (fun _ h => h) rfl (fun _ _ h => h) ?_).safe trivial
    rintro v hp ⟨n4, ⟨rfl, hn4⟩, rfl⟩
    have L5 := L4.set (n' := n4) (by rw [hn4]; exact Rf.inv_change L4.inv W)
    rw [e4]
    generalize hat4 : (n3.nd.change W).1.1 = at4 at *
    rw [← hn4] at e6 e7
    generalize g4.setR 0 nb n4 = g5 at *
    refine ⟨by simp only [recheck, go_sem], go_ok _ 20 _ _ ?_⟩
    simp only [go_sem, L5.row, Int.toNat_natCast, List.cons_append, List.nil_append, Nat.reduceBEq, Nat.zero_add]
    have hl5 := L5.len
    refine ⟨⟨by omega, by omega, Nat.le_refl _⟩, ⟨by omega, by decide⟩, ?_⟩
    refine (stp_call [0, 1, 2, 3, 4, 5, 6, 7, 8] (args := [.ptr 0 nb 0]) rfl rfl rfl ⟨_, Try.func26, rfl, rfl⟩ (Spec.node (c26n nb n4 L5.inv.toFit (by omega)) b g5 L5.R') rfl (fun _ h => h) rfl (fun _ _ h => h) ?_).safe trivial
    rintro v hp ⟨n5, ⟨⟨a5, k5', rfl⟩, hn5⟩, rfl⟩
    rw [hn5, setR_same L5.R', e6]
    refine ⟨trivial, go_ok _ 20 _ _ ?_⟩
    simp only [go_sem, L5.row, Int.toNat_natCast, List.cons_append, List.nil_append, Nat.reduceBEq, Nat.zero_add]
    refine ⟨⟨by omega, by omega, Nat.le_refl _⟩, ⟨by omega, by decide⟩, ?_⟩
    refine (stp_call [0, 1, 2, 3, 4, 5, 6, 7, 8] (args := [.ptr 0 nb 0, vI a1 k1 V]) rfl rfl rfl ⟨_, Try.func25, rfl, rfl⟩ (c25g b nb g5 n4 a1 k1 V L5.R' L5.inv (by omega) (by decide) (by decide)) rfl (fun _ h => h) rfl (fun _ _ h => h) ?_).safe trivial
    rintro v hp ⟨n6, ⟨rfl, hn6⟩, rfl⟩
    have L6 := L5.set (n' := n6) (by rw [hn6]; exact Rf.inv_change L5.inv V)
    generalize g5.setR 0 nb n6 = g6 at *
    have hat2 : decide (at4 < 2) = false := decide_eq_false (by omega)
    generalize he : (n4.nd.change V).1.2 = e5' at *
    refine ⟨by simp only [recheck, go_sem], go_ok _ 40 _ _ ?_⟩
    have hd1 : decide ((1 : Int) ≠ 1) = false := by decide
    have hd0 : decide ((0 : Int) ≠ 0) = false := by decide
    simp only [go_sem, hat2, hd1, hd0, List.cons_append, List.nil_append, Nat.reduceBEq, Try.results6]
    refine ⟨?_, fun h => absurd h (by decide), rfl⟩
    refine Stp.safeOn ?_ trivial
    refine stp_call [] (args := [vI a5 k5' W, vI a3 k3 W]) rfl rfl rfl ⟨_, Try.func27, rfl, rfl⟩ (c27n a5 k5' W a3 k3 W (by omega)) rfl (fun _ h => unc_oks h) (by simp [callIdx]) (fun _ _ h => h) ?_
    rintro v hp ⟨rfl, rfl⟩
    rw [show decide (W = W) = true from decide_eq_true rfl]
    refine ⟨trivial, go_ok _ 40 _ _ ?_⟩
    simp only [go_sem, List.cons_append, List.nil_append, Nat.reduceBEq, Try.results6]
    refine ⟨fun hh => ?_, fun _ => ⟨by simp only [inI64]; omega, ?_⟩⟩
    · rw [Bool.and_eq_true, decide_eq_true_eq, decide_eq_true_eq] at hh
      rcases e7 with e7 | e7
      · omega
      · exact absurd e7 hh.2
    · exact safe_lend (⟨1, by omega, g6, L6.gN, L6.gl, L6.at'⟩ : W6b g.pl.R N (2100 * 40) 0) (show N - 1 < N - 0 by omega) (Sub.front (X := []) (by simp [envSub, look]) rfl)
  · have hrn := he3 i hi1 hlt
    rw [← hnd] at hrn
    have hd : decide (n.nd.role ≠ 2) = true := decide_eq_true hrn
    refine go_ok _ 20 _ _ ?_
    simp only [go_sem, hd, hRi, Int.toNat_natCast, List.cons_append, List.nil_append, Nat.reduceBEq, Nat.reduceAdd, Nat.zero_add]
    refine ⟨⟨⟨by omega, by omega, Nat.le_refl _⟩, ⟨by omega, by decide⟩, fun b1 => ?_⟩, fun h => absurd h (by decide)⟩
    refine safe_frzA (c := 9) (rowsV encI [0, 1, 2]) rfl (fun i j hi hj => ?_) (by simp [frzOk, frzOk1]) ?_
    · have : i = 0 ∨ i = 1 ∨ i = 2 := by omega
      obtain rfl : j = 0 := by omega
      rcases this with rfl | rfl | rfl <;> rfl
    simp only [go_sem, Nat.reduceBEq]
    have hch : n.nd.change [0, 1, 2] = ((0, 21), n.nd) := by unfold Rf.Nd.change; rw [if_pos hrn]
    refine (stp_call [0, 1, 2, 3, 4, 5, 6, 7, 8] (args := [.ptr 0 nb 0, vI (some ⟨b1, 0, none⟩) 3 [0, 1, 2]]) rfl rfl rfl ⟨_, Try.func25, rfl, rfl⟩ (c25g b nb g1 n _ _ _ hR hinv (by decide) (by decide) (by decide)) rfl (fun _ h => h) rfl (fun _ _ h => h) ?_).safe trivial
    rintro v hp ⟨n2, ⟨rfl, hn2⟩, rfl⟩
    rw [hch]
    refine ⟨by simp only [recheck, go_sem], go_ok _ 20 _ _ ?_⟩
    simp only [go_sem, List.cons_append, List.nil_append, Nat.reduceBEq]
    have hiN : inI64 ((i : Int) + 1) := by simp only [inI64]; omega
    refine ⟨fun h => absurd h (by decide), fun _ => ⟨hiN, ?_⟩⟩
    refine safe_lend (⟨i + 1, hlt, g1.setR i nb n2, (show (g1.setR i nb n2).N = N from hGN), by show (g1.R.set _ _).length = N; rw [List.length_set]; exact hGl, fun m hm1 hm2 => ?_⟩ : W6b g.pl.R N (2100 * 40) 0) (show N - (i + 1) < N - i by omega) (Sub.front (X := [.emp]) (by simp [envSub, look]) rfl)
    obtain ⟨nb3, n3, q1, q2, q3, q4⟩ := hat m (by omega) hm2
    have q5 : (g1.setR i nb n2).R[m]? = some (some (nb3, n3)) := by
      show (g1.R.set _ _)[m]? = _
      rw [List.getElem?_set_ne (by omega)]
      exact q1
    exact ⟨nb3, n3, q5, encR_at q5, q3, q4⟩
end Go.SX
