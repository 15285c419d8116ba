/- Joined texts: T54 T55 T57 T58 T59 PV T61. -/
import Derived.Test.YtpbbpmhahkeekaaSxTJ11
import Derived.Test.YtpbbpmhahkeekaaSxZB
import Derived.Test.YtpbbpmhahkeekaaSxTJ9
/- Raft: a new group. -/
namespace Go.SX
open Go.Proofs
set_option maxRecDepth 1000000
variable {E : Env}

/-- nothing saved yet -/
def sv0 : SvL := ⟨0, -1, 0, 0, 0, ⟨none, 0, []⟩, ⟨none, 0, []⟩, ⟨none, 0, []⟩⟩
def dn0 : DnL := ⟨nilR, []⟩
def g0 (N : Nat) : GL := ⟨nilR, [], nilR, [], nilR, [], nilR, [], nilR, [], nilR, [], N, true⟩
/-- a row with one more, seen alike -/
theorem row_app {α : Type} [Inhabited α] {enc : α → List SV} {xs : List α} {y : α} {cs : List SV} {sz : Nat} (hcs : ∀ j, j < sz → ((enc y).getD j default).den = (cs.getD j default).den ∧ ∀ ro, (cs.getD j default).ok ro → ((enc y).getD j default).ok ro) {nl : Bool} {b : Nat} {t : TypeId} {off cap : Nat} :
    ∀ ro H, (Chunk.row nl b t off sz (xs.length + 1) cap (appF (rowsV enc xs) xs.length (litF sz cs))).sat ro H → (Chunk.row nl b t off sz (xs.length + 1) cap (rowsV enc (xs ++ [y]))).sat ro H := by
  intro ro H hh
  refine row_see (fun i j hi hj => ?_) hh
  rw [← app_one (enc := enc) (ys := xs) (y := y) (sz := sz) i j hi hj]
  unfold appF
  cases h : Nat.blt i xs.length with
  | true => exact ⟨rfl, fun _ h => h⟩
  | false =>
    have h' : ¬ i < xs.length := by rw [← Nat.blt_eq, h]; decide
    simp only [cond_false, litF, show i - xs.length = 0 by omega, Nat.zero_mul, Nat.zero_add]
    exact hcs j hj
theorem Sees.bagNil {A X : List Chunk} {x : Chunk} (hx : ∀ ro, x.sat ro []) : Sees (sepC A :: X) (sepC (A ++ [x]) :: X) := Sees.trans (Sees.same (Sees.new hx (Sees.refl X))) Sees.bagEnd
theorem emp_sat (ro : RO) : Chunk.emp.sat ro [] := rfl
structure W23 (N : Nat) where
  i : Nat
  hi : i ≤ N
  b : Nat
  g : GL
  N' : g.N = N
  ok : g.ok = true
  net : g.net = []
  al : g.al = []
  ld : g.ld = []
  Rl : g.R.length = i
  S : g.S = List.replicate i sv0
  Dl : g.D.length = i
  full : ∀ a, a < i → ∃ nb n, g.R[a]? = some (some (nb, n))
  R : g.R.map RN.pl = (List.range i).map fun (a : Nat) => Rf.Nd.new a (upTo N) ⟨0, -1, 0⟩ ⟨0, 0, []⟩ [] []
  D : (g.D.map fun d => d.xs.map Ent.pl) = (List.range i).map fun _ => []
theorem sv0_fit (K : Nat) : sv0.pl.fit K := ⟨Int.le_refl _, Int.natCast_nonneg K, by decide, Int.le_refl _, Int.natCast_nonneg K, Int.le_refl _, Int.natCast_nonneg K, Int.le_refl _, Int.natCast_nonneg K, fun h => absurd h (by decide), by decide, by decide, rfl, fun e he => by cases he⟩
theorem map_const (N : Nat) {α : Type} (x : α) : (List.range N).map (fun _ => x) = List.replicate N x := by
  rw [List.map_const', List.length_range]
theorem new_inv {N : Nat} (h1 : 1 ≤ N) (h7 : N ≤ 7) : (Rf.Gr.new N).inv 0 0 0 := by
  have hl : ∀ {α : Type} (f : Nat → α), ((List.range N).map f).length = N := fun f => by rw [List.length_map, List.length_range]
  refine ⟨h1, h7, hl _, hl _, hl _, fun i hi => ?_, fun i hi => ?_, fun m hm => absurd hm (by simp [Rf.Gr.new]), Nat.le_refl 0, fun i hi => ?_, Nat.le_refl 0, Nat.zero_le 5000⟩
  · have e : (Rf.Gr.new N).R.getD i default = Rf.Nd.new i (upTo N) ⟨0, -1, 0⟩ ⟨0, 0, []⟩ [] [] := by
      show ((List.range N).map _).getD i default = _
      rw [List.getD_eq_getElem?_getD, List.getElem?_map, List.getElem?_range (show i < N from hi)]
      rfl
    rw [e]
    exact Rf.inv_new (sv0_fit 0) i (upTo_voters h1 h7)
  · have e : (Rf.Gr.new N).S.getD i default = sv0.pl := by
      show ((List.range N).map _).getD i default = _
      rw [List.getD_eq_getElem?_getD, List.getElem?_map, List.getElem?_range (show i < N from hi)]
      rfl
    rw [e]
    exact ⟨Int.le_refl _, Int.le_refl _, fun i hi => absurd hi (Nat.not_lt_zero i), fun e he => absurd he (by simp [sv0, SvL.pl]), by decide, by decide⟩
  · have e : (Rf.Gr.new N).done.getD i [] = [] := by
      show ((List.range N).map _).getD i [] = _
      rw [List.getD_eq_getElem?_getD, List.getElem?_map, List.getElem?_range (show i < N from hi)]
      rfl
    rw [e]
    exact Nat.le_refl 0
theorem set_last {α : Type} {A : List α} {i : Nat} {x y : α} (h : A.length = i) : (A ++ [x]).set i y = A ++ [y] := by
  subst h
  simp
set_option maxHeartbeats 8000000 in
theorem c23p (N : Nat) (h1 : 1 ≤ N) (h7 : N ≤ 7) :
    Spec Try.prog E 23 [I N] [] (fun v hp => ∃ (b : Nat) (g : GL), v = .ptr 0 b 0 ∧ g.pl = Rf.Gr.new N ∧ g.good N 0 0 0 ∧ g.ok = true ∧ hp = gO b g) := by
  refine Spec.see2 ?_
  generalize hP : SeeP _ = P
  refine spec_of (keep := k23) (args' := [I N]) Try.func23 rfl Try.ntmps23 s23_ok (by simp) ⟨rfl, fun _ h => h⟩ (fun _ _ h => h) (go_ok _ 100 _ _ ?_)
  simp only [go_sem, s23, k23, Nat.reduceBEq, Nat.zero_add]
  intro b
  refine safe_loop (ι := W23 N) (fun w => ⟨[(0, I N), (3, .ptr 0 w.b 0), (4, I w.i)], gO w.b w.g⟩) (fun w => N - w.i)
    ⟨0, Nat.zero_le _, b, g0 N, rfl, rfl, rfl, rfl, rfl, rfl, rfl, rfl, fun a ha => absurd ha (by omega), rfl, rfl⟩ ?_ ?_
  · refine ⟨fun t s ht => ⟨s, envSub_ok (by simp [envSub, look]) t s ht, rfl, fun _ h => h⟩, ?_⟩
    refine Sees.cons (fun ro H hh => ⟨H, [], by simp, cells_imp (cs := [nilS, nilS, nilS, nilS, nilS, nilS, I N, Bl true]) rfl (fun hk => ?_) hh⟩) (Sees.new (nil_ch 24 1 encR) (Sees.new (nil_ch 108 8 encS) (Sees.new (nil_ch 54 15 encM) (Sees.new (nil_ch 36 1 encD) (Sees.new (nil_ch 43 4 encE) (Sees.new (nil_ch 3 1 encI) (Sees.new sep_nil (Sees.new sep_nil (Sees.refl [])))))))))
    simp only [GL.cs, g0, Rw.sv, SV.oks, SV.ok, and_true]
  rintro ⟨i, hi, b, g, hN, hok, hnet, hal, hld, hRl, hS, hDl, hfull, hR, hD⟩
  refine go_ok _ 10 _ _ ?_
  simp only [go_sem, List.cons_append, List.nil_append, Nat.reduceBEq]
  refine ⟨fun hlc => ?_, fun hlc => ?_⟩
  · have hlt : i < N := by have := of_decide_eq_true hlc; omega
    refine go_ok _ 20 _ _ ?_
    simp only [go_sem, List.cons_append, List.nil_append, Nat.reduceBEq, Nat.reduceAdd, Nat.zero_add]
    intro b1
    have hSl : g.S.length = i := by rw [hS]; exact List.length_replicate ..
    refine (stp_app2 (c := 2) (b := g.sw.b) (off := g.sw.off) (nl := g.sw.nl) (n := g.S.length) (cap := g.sw.cap) (x := .osl 9 false b1 0 1 1) (gx := litF 8 [I 0, I (-1), I 0, I 0, I 0, nilS, nilS, nilS]) (m := 1) (f := rowsV encS g.S) (f2 := appF (rowsV encS g.S) g.S.length (litF 8 [I 0, I (-1), I 0, I 0, I 0, nilS, nilS, nilS])) (N := g.S.length + 1) rfl rfl rfl rfl ⟨rfl, rfl, rfl, rfl, by decide⟩ (fun a j ha hj => ?_) (by omega) rfl (fun a j ha hj => rfl) fun nl2 b2 off2 cap2 => ?_).safe trivial
    · obtain rfl : a = 0 := by omega
      have : j = 0 ∨ j = 1 ∨ j = 2 ∨ j = 3 ∨ j = 4 ∨ j = 5 ∨ j = 6 ∨ j = 7 := by omega
      rcases this with rfl | rfl | rfl | rfl | rfl | rfl | rfl | rfl <;> simp [litF, one, Value.oneCell', nilS]
    refine ⟨by simp only [recheck, go_sem], go_ok _ 20 _ _ ?_⟩
    simp only [go_sem, List.cons_append, List.nil_append, Nat.reduceBEq, Nat.reduceAdd, Nat.zero_add]
    intro b3
    refine (stp_app2 (c := 4) (b := g.dw.b) (off := g.dw.off) (nl := g.dw.nl) (n := g.D.length) (cap := g.dw.cap) (x := .osl 10 false b3 0 1 1) (gx := litF 1 [nilS]) (m := 1) (f := rowsV encD g.D) (f2 := appF (rowsV encD g.D) g.D.length (litF 1 [nilS])) (N := g.D.length + 1) rfl rfl rfl rfl ⟨rfl, rfl, rfl, rfl, by decide⟩ (fun a j ha hj => ?_) (by omega) rfl (fun a j ha hj => rfl) fun nl4 b4 off4 cap4 => ?_).safe trivial
    · obtain rfl : a = 0 := by omega
      obtain rfl : j = 0 := by omega
      simp [litF, one, nilS]
    refine ⟨by simp only [recheck, go_sem], go_ok _ 20 _ _ ?_⟩
    simp only [go_sem, List.cons_append, List.nil_append, Nat.reduceBEq, Nat.reduceAdd, Nat.zero_add]
    intro b5
    refine (stp_app2 (c := 1) (b := g.rw.b) (off := g.rw.off) (nl := g.rw.nl) (n := g.R.length) (cap := g.rw.cap) (x := .osl 11 false b5 0 1 1) (gx := litF 1 [.val (.pointer none)]) (m := 1) (f := rowsV encR g.R) (f2 := appF (rowsV encR g.R) g.R.length (litF 1 [.val (.pointer none)])) (N := g.R.length + 1) rfl rfl rfl rfl ⟨rfl, rfl, rfl, rfl, by decide⟩ (fun a j ha hj => ?_) (by omega) rfl (fun a j ha hj => rfl) fun nl6 b6 off6 cap6 => ?_).safe trivial
    · obtain rfl : a = 0 := by omega
      obtain rfl : j = 0 := by omega
      simp [litF, one, Value.oneCell']
    refine ⟨by simp only [recheck, go_sem], go_ok _ 9 _ _ ?_⟩
    simp only [go_sem, List.nil_append, Nat.reduceBEq, Nat.zero_add]
    have hsub : Sees [.cells b 63 [.osl 1 nl6 b6 off6 (g.R.length + 1) cap6, .osl 2 nl2 b2 off2 (g.S.length + 1) cap2, g.nw.sv 3 g.net.length, .osl 4 nl4 b4 off4 (g.D.length + 1) cap4, g.aw.sv 5 g.al.length, g.lw.sv 6 g.ld.length, I g.N, Bl g.ok],
        .row nl6 b6 24 off6 1 (g.R.length + 1) cap6 (appF (rowsV encR g.R) g.R.length (litF 1 [.val (.pointer none)])), .row nl2 b2 108 off2 8 (g.S.length + 1) cap2 (appF (rowsV encS g.S) g.S.length (litF 8 [I 0, I (-1), I 0, I 0, I 0, nilS, nilS, nilS])),
        g.nw.ch 54 15 encM g.net, .row nl4 b4 36 off4 1 (g.D.length + 1) cap4 (appF (rowsV encD g.D) g.D.length (litF 1 [nilS])), g.aw.ch 43 4 encE g.al, g.lw.ch 3 1 encI g.ld, sepC (g.R.map RN.ch), sepC (g.D.map DnL.ch)]
        (gO b { g with rw := ⟨nl6, b6, off6, cap6⟩, R := g.R ++ [none], sw := ⟨nl2, b2, off2, cap2⟩, S := g.S ++ [sv0], dw := ⟨nl4, b4, off4, cap4⟩, D := g.D ++ [dn0] }) := by
      simp only [gO, GL.cs, Rw.ch, Rw.sv, List.length_append, List.length_singleton, List.map_append, List.map_cons, List.map_nil]
      refine Sees.same (Sees.cons (fun ro H hh => ⟨H, [], by simp, row_app (fun j hj => ?_) ro H hh⟩) (Sees.cons (fun ro H hh => ⟨H, [], by simp, row_app (fun j hj => ?_) ro H hh⟩) (Sees.same (Sees.cons (fun ro H hh => ⟨H, [], by simp, row_app (fun j hj => ?_) ro H hh⟩) (Sees.same (Sees.same (Sees.trans (Sees.bagNil emp_sat) (Sees.same (Sees.bagNil (nil_ch 43 4 encE))))))))))
      · obtain rfl : j = 0 := by omega
        exact ⟨rfl, fun _ h => h⟩
      · have : j = 0 ∨ j = 1 ∨ j = 2 ∨ j = 3 ∨ j = 4 ∨ j = 5 ∨ j = 6 ∨ j = 7 := by omega
        rcases this with rfl | rfl | rfl | rfl | rfl | rfl | rfl | rfl
        · exact ⟨rfl, fun _ h => h⟩
        · exact ⟨rfl, fun _ h => h⟩
        · exact ⟨rfl, fun _ h => h⟩
        · exact ⟨rfl, fun _ h => h⟩
        · exact ⟨rfl, fun _ h => h⟩
        · exact ⟨rfl, fun ro _ => nilOk ro 1 _⟩
        · exact ⟨rfl, fun ro _ => nilOk ro 1 _⟩
        · exact ⟨rfl, fun ro _ => nilOk ro 4 _⟩
      · obtain rfl : j = 0 := by omega
        exact ⟨rfl, fun ro _ => by simp [encD, Rw.sv, SV.ok]⟩
    refine Safe.sub (st' := ⟨[(43, I i), (42, .ptr 0 b 0), (0, I N), (3, .ptr 0 b 0), (4, I i)], gO b { g with rw := ⟨nl6, b6, off6, cap6⟩, R := g.R ++ [none], sw := ⟨nl2, b2, off2, cap2⟩, S := g.S ++ [sv0], dw := ⟨nl4, b4, off4, cap4⟩, D := g.D ++ [dn0] }⟩) ⟨fun t s ht => ⟨s, ht, rfl, fun _ h => h⟩, Sees.trans (Sees.left (a := [_, _, _, _, _, _, _, _, _]) (X := [_, _, _])) hsub⟩ ?_
    generalize hG1 : ({ g with rw := ⟨nl6, b6, off6, cap6⟩, R := g.R ++ [none], sw := ⟨nl2, b2, off2, cap2⟩, S := g.S ++ [sv0], dw := ⟨nl4, b4, off4, cap4⟩, D := g.D ++ [dn0] } : GL) = G1
    have e1 : G1.R = g.R ++ [none] := by rw [← hG1]
    have e2 : G1.S = List.replicate (i + 1) sv0 := by rw [← hG1, List.replicate_succ', ← hS]
    have e3 : G1.D = g.D ++ [dn0] := by rw [← hG1]
    have e4 : G1.N = N := by rw [← hG1]; exact hN
    have e5 : G1.ok = true := by rw [← hG1]; exact hok
    have e6 : G1.net = [] := by rw [← hG1]; exact hnet
    have e7 : G1.al = [] := by rw [← hG1]; exact hal
    have e8 : G1.ld = [] := by rw [← hG1]; exact hld
    have e9 : G1.S.getD i default = sv0 := by
      rw [e2, List.getD_eq_getElem?_getD, List.getElem?_replicate, if_pos (by omega)]
      rfl
    refine (stp_call [0, 1, 2, 3, 4, 5, 6, 7, 8] (args := [.ptr 0 b 0, I i]) rfl rfl rfl ⟨_, Try.func58, rfl, rfl⟩ (c58p b G1 i N 0 e4 h1 h7 hlt (by rw [e1, List.length_append, List.length_singleton]; omega) (by rw [e2, List.length_replicate]; omega) (by rw [e3, List.length_append, List.length_singleton]; omega) (by rw [e9]; exact sv0_fit 0) (by decide) (by rw [e9, e7]; decide) (by rw [e7]; decide)) rfl (fun _ h => h) rfl (fun _ _ h => h) ?_).safe trivial
    rintro v hp ⟨G2, k1, k2, ⟨nb, n, dd, k3⟩, rfl⟩
    refine ⟨trivial, go_ok _ 9 _ _ ?_⟩
    simp only [go_sem, List.cons_append, List.nil_append, Nat.reduceBEq]
    refine ⟨by simp only [inI64]; omega, ?_⟩
    have hvo : G1.pl.voters = upTo N := by
      show (List.range G1.N.toNat).map _ = _
      rw [e4, Int.toNat_natCast]; rfl
    have hs0 : G1.pl.S.getD i default = sv0.pl := by rw [getS_pl G1 (by rw [e2, List.length_replicate]; omega), e9]
    have r1 : G2.R.map RN.pl = (List.range (i + 1)).map fun (a : Nat) => Rf.Nd.new a (upTo N) ⟨0, -1, 0⟩ ⟨0, 0, []⟩ [] [] := by
      have q := congrArg Rf.Gr.R k1
      have q2 : (G1.pl.back i).R = G1.pl.R.set i (Rf.Nd.new i G1.pl.voters (G1.pl.S.getD i default).h (G1.pl.S.getD i default).m (G1.pl.S.getD i default).d (G1.pl.S.getD i default).l) := rfl
      have q3 : G1.pl.R = g.R.map RN.pl ++ [RN.pl none] := by show G1.R.map RN.pl = _; rw [e1, List.map_append]; rfl
      rw [q2, hs0, hvo, q3, set_last (by rw [List.length_map]; exact hRl), hR] at q
      rw [List.range_succ, List.map_append]
      exact q
    have r2 : (G2.D.map fun d => d.xs.map Ent.pl) = (List.range (i + 1)).map fun _ => [] := by
      have q := congrArg Rf.Gr.done k1
      have q2 : (G1.pl.back i).done = G1.pl.done.set i (if 0 < (G1.pl.S.getD i default).m.ix then G1.pl.all.take (G1.pl.S.getD i default).m.ix.toNat else []) := rfl
      have q3 : G1.pl.done = (g.D.map fun d => d.xs.map Ent.pl) ++ [[]] := by show (G1.D.map fun d => d.xs.map Ent.pl) = _; rw [e3, List.map_append]; rfl
      rw [q2, hs0, q3, if_neg (by decide), set_last (by rw [List.length_map]; exact hDl), hD] at q
      rw [List.range_succ, List.map_append]
      exact q
    refine safe_lend (⟨i + 1, hlt, b, G2, by rw [k3]; exact e4, k2.trans e5, by rw [k3]; exact e6, by rw [k3]; exact e7, by rw [k3]; exact e8, ?_, by rw [k3]; exact e2, ?_, ?_, r1, r2⟩ : W23 N) (by simp only; omega) (Sub.front (X := []) (by simp [envSub, look]) rfl)
    · have q := congrArg List.length r1
      rw [List.length_map, List.length_map, List.length_range] at q
      exact q
    · have q := congrArg List.length r2
      rw [List.length_map, List.length_map, List.length_range] at q
      exact q
    · intro a ha
      rw [k3]
      dsimp only
      rw [e1]
      by_cases hai : a = i
      · subst hai
        exact ⟨nb, n, List.getElem?_set_self (by rw [List.length_append, List.length_singleton]; omega)⟩
      · rw [List.getElem?_set_ne (Ne.symm hai), List.getElem?_append_left (by omega)]
        exact hfull a (by omega)
  · have hcl : i = N := by have := of_decide_eq_false hlc; omega
    subst hcl
    refine go_ok _ 20 _ _ ?_
    simp only [go_sem, List.nil_append, Nat.reduceBEq, Try.results23]
    have hpl : g.pl = Rf.Gr.new i := by
      have e1 : g.S.map SvL.pl = (List.range i).map fun _ => (⟨⟨0, -1, 0⟩, ⟨0, 0, []⟩, [], []⟩ : Rf.Sv) := by
        rw [hS, map_const, List.map_replicate]
        rfl
      unfold GL.pl
      rw [hR, e1, hD, hnet, hal, hld, hN]
      rfl
    rw [← hP]
    exact ⟨_, _, rfl, fun _ h => h, Sees.refl _, b, g, rfl, hpl, ⟨by rw [hpl]; exact new_inv h1 h7, hN, hfull⟩, hok, rfl⟩
end Go.SX

/- Contracts of the raft laws: the chapter's example. -/
namespace Go.SX
open Go.Proofs
set_option maxRecDepth 1000000
variable {E : Env}

theorem newOk {ro : RO} {id t v c : Int} {x y1 y2 y3 : SV} (h : SV.oks ro [I id, x, .agg [I t, I v, I c], .agg [I 0, I 0, y1], y2, y3]) : SV.oks ro [I id, x, .agg [I t, I v, I c], .agg [I 0, I 0, vI none 0 []], vB none 0 [], vE none 0 []] := by
  simp only [SV.oks] at h ⊢
  exact ⟨h.1, h.2.1, h.2.2.1, by simp only [SV.ok, SV.oks]; exact ⟨trivial, trivial, nilOk _ _ _, trivial⟩, nilOk _ _ _, nilOk _ _ _, trivial⟩
def kn : Nat → Rf.Nd
  | 0 => Rf.Nd.new 3 [3] ⟨0, -1, 0⟩ ⟨0, 0, []⟩ [] []
  | c + 1 => (kn c).tick 0
theorem kn_res : ((kn 10).propose [120]).1 = (2, 1, 0) ∧ ((kn 10).propose [120]).2.role = 2 ∧ ((kn 10).propose [120]).2.hd.cm = 2 := by decide +kernel
theorem kn_inv : ∀ c, (kn c).inv (3 * c) (21 * c)
  | 0 => Rf.inv_new (sv0_fit 0) 3 (vs := [3]) (by decide)
  | c + 1 => Rf.inv_tick (kn_inv c) 0
theorem okB1 (x : UInt8) : Rf.okB [x] := ⟨by rw [List.length_singleton]; decide, fun c => by
  rw [List.drop_of_length_le (by rw [List.length_singleton]; omega)]
  exact (by decide : Rf.beN ([] : List UInt8) < 2 ^ 63)⟩
structure W12 where
  c : Nat
  hc : c ≤ 10
  b : Nat
  n : NL
  eq : n.nd = kn c
set_option maxHeartbeats 4000000 in
theorem c12p : Spec Try.prog E 12 [] [] (fun v _ => v = Bl true) := by
  refine spec_of (keep := k12) (args' := []) Try.func12 rfl Try.ntmps12 s12_ok (by simp) ⟨rfl, fun _ h => h⟩ (fun _ _ h => h) (go_ok _ 7 _ _ ?_)
  simp only [go_sem, s12, k12, Nat.reduceBEq, Nat.zero_add]
  intro b1
  refine safe_frz2 (hp := []) (f' := rowsV encI [3]) (fun i j hi hj => ?_) ?_
  · obtain rfl : i = 0 := by omega
    obtain rfl : j = 0 := by omega
    rfl
  refine go_ok _ 100 _ _ ?_
  simp only [go_sem, frz, Nat.zero_add, if_false]
  refine (stp_call [] (args := [I 3, vI (some ⟨b1, 0, none⟩) 1 [3], .agg [I 0, I (-1), I 0], .agg [I 0, I 0, vI none 0 []], vB none 0 [], vE none 0 []]) rfl rfl rfl ⟨_, Try.func13, rfl, rfl⟩
    (c13p 0 0 3 (some ⟨b1, 0, none⟩) 1 [3] sv0.pl none 0 none 0 none 0 [] rfl (sv0_fit 0) (by decide) (by decide) (by decide)) rfl (fun _ h => newOk h) rfl (fun _ _ h => h) ?_).safe trivial
  rintro v hp ⟨b, n, rfl, hn, rfl⟩
  refine ⟨trivial, go_ok _ 100 _ _ ?_⟩
  simp only [go_sem, List.cons_append, List.nil_append, Nat.reduceBEq, Try.results12]
  refine ⟨fun h => absurd h (by decide), fun _ => ?_⟩
  refine safe_loop (ι := W12) (fun w => ⟨[(0, Bl false), (1, .ptr 0 w.b 0), (3, I w.c)], nO w.b w.n⟩) (fun w => 10 - w.c) ⟨0, Nat.zero_le _, b, n, hn⟩
    (Sub.front (X := []) (by simp [envSub, look]) rfl) ?_
  rintro ⟨c, hc, b, n, hn⟩
  have hinv := kn_inv c
  rw [← hn] at hinv
  refine go_ok _ 100 _ _ ?_
  simp only [go_sem, List.cons_append, List.nil_append, Nat.reduceBEq, Nat.reduceAdd, Nat.zero_add]
  refine ⟨fun h => ?_, fun h => ?_⟩
  · have hlt : c < 10 := by have := of_decide_eq_true h; omega
    refine (stp_call [0, 1, 2, 3, 4, 5, 6] (args := [.ptr 0 b 0, I 0]) rfl rfl rfl ⟨_, Try.func15, rfl, rfl⟩ (c15p b n 0 hinv (by omega) (by omega)) rfl (fun _ h => h) rfl (fun _ _ h => h) ?_).safe trivial
    rintro v hp ⟨n', hn', rfl⟩
    refine ⟨trivial, go_ok _ 100 _ _ ?_⟩
    simp only [go_sem, List.cons_append, List.nil_append, Nat.reduceBEq]
    refine ⟨by simp only [inI64]; omega, ?_⟩
    exact safe_lend (⟨c + 1, hlt, b, n', by rw [hn', hn]; rfl⟩ : W12) (by simp only; omega) (Sub.front (X := []) (by simp [envSub, look]) rfl)
  · have h10 : c = 10 := by have := of_decide_eq_false h; omega
    subst h10
    intro b2
    obtain ⟨r1, r2, r3⟩ := kn_res
    refine Stp.safeE (stp_conv (xo := .t 28) (e := 5) (c := 7) (b := b2) (off := 0) (n := 1) (cap := 1) (off' := 0) (sz := 1) (n' := 1) (cap' := 1) (T := 5) (f := litF 1 [.val (.int .u8 120)]) rfl (by kernel_rfl) (by kernel_rfl) rfl rfl trivial ?_) rfl
    refine safe_frz2 (hp := nO b n) (f' := rowsV encB [120]) (fun i j hi hj => ?_) ?_
    · obtain rfl : i = 0 := by omega
      obtain rfl : j = 0 := by omega
      rfl
    refine go_ok _ 2 _ _ ?_
    simp only [go_sem, frz, if_false]
    refine (stp_call [0, 1, 2, 3, 4, 5, 6] (args := [.ptr 0 b 0, vB (some ⟨b2, 0, none⟩) 1 [120]]) rfl rfl rfl ⟨_, Try.func17, rfl, rfl⟩
      (c17p b n (some ⟨b2, 0, none⟩) 1 [120] hinv (fun _ => okB1 _) (by decide) (by decide) (by decide)) rfl (fun _ h => h) rfl (fun _ _ h => h) ?_).safe trivial
    rintro v hp ⟨rfl, n2, hn2, rfl⟩
    rw [hn, r1]
    rw [hn] at hn2
    refine ⟨trivial, go_ok _ 100 _ _ ?_⟩
    simp only [go_sem, List.cons_append, List.nil_append, Nat.reduceBEq]
    refine (stp_call [0, 1, 2, 3, 4, 5, 6] (args := [.ptr 0 b 0]) rfl rfl rfl ⟨_, Try.func14, rfl, rfl⟩ (c14n b n2) rfl (fun _ h => h) rfl (fun _ _ h => h) ?_).safe trivial
    rintro v hp ⟨rfl, rfl⟩
    rw [hn2, r2]
    refine ⟨trivial, go_ok _ 100 _ _ ?_⟩
    simp only [go_sem, List.cons_append, List.nil_append, Nat.reduceBEq, reduceCtorEq]
    refine ⟨?_, rfl⟩
    refine Stp.safeOn ?_ trivial
    refine stp_call [0, 1, 2, 3, 4, 5, 6] (args := [.ptr 0 b 0]) rfl rfl rfl ⟨_, Try.func19, rfl, rfl⟩ (c19n b n2) rfl (fun _ h => unc_oks h) (by simp [callIdx]) (fun _ _ h => h) ?_
    rintro v hp ⟨rfl, rfl⟩
    rw [hn2, r3]
    refine ⟨trivial, go_ok _ 100 _ _ ?_⟩
    simp only [go_sem, List.cons_append, List.nil_append, Nat.reduceBEq, reduceCtorEq, Try.results12]
end Go.SX

/- Raft: voters written. -/
namespace Go.SX
open Go.Proofs
set_option maxRecDepth 1000000
variable {E : Env}

theorem c62 (a : Option Addr) (cap : Nat) (xs : List Int) (hl : xs.length ≤ 1000) : Spec Try.prog E 62 [vI a cap xs] [] (fun v hp => hp = [] ∧ ∃ a' cap', v = vB a' cap' (encV xs)) := by
  refine Spec.frz (Post := fun v hp => ∃ (nl : Bool) (b off cap' : Nat) (X : List Chunk), v = .osl 0 nl b off (encV xs).length cap' ∧ hp = .row nl b 5 off 1 (encV xs).length cap' (rowsV encB (encV xs)) :: X) ?_ (fun v hp ⟨nl, b, off, cap', X, h1, h2⟩ => .inr ⟨0, nl, b, 5, off, 1, _, cap', _, h1, ⟨X, h2⟩, rfl, _, _, rfl⟩)
  refine spec_of (keep := k62) (args' := [vI a cap xs]) Try.func62 rfl Try.ntmps62 s62_ok (by simp) ⟨rfl, fun _ h => h⟩ (fun _ _ h => h) (go_ok _ 100 _ _ ?_)
  simp only [go_sem, s62, k62, Nat.reduceBEq, Nat.zero_add]
  intro b0
  refine safe_loop (ι := {p : Nat × Bool × Nat × Nat × Nat // p.1 ≤ xs.length}) (fun p => ⟨[(0, vI a cap xs), (3, .osl 0 p.1.2.1 p.1.2.2.1 p.1.2.2.2.1 (encVp xs p.1.1).length p.1.2.2.2.2), (11, vI a cap xs), (12, I xs.length), (13, I p.1.1)], [.row p.1.2.1 p.1.2.2.1 5 p.1.2.2.2.1 1 (encVp xs p.1.1).length p.1.2.2.2.2 (rowsV encB (encVp xs p.1.1))]⟩)
    (fun p => xs.length - p.1.1) ⟨(0, false, b0, 0, 1), Nat.zero_le _⟩ (Sub.heap (by simp [envSub, look, encVp]) ?_) ?_
  · intro ro H h
    refine hsat_set (hp := [.row false b0 5 0 1 1 1 _]) 0 (fun H hh => row_congr (fun i j hi hj => ?_) hh) h
    have hi : i < 1 := hi
    obtain rfl : i = 0 := by omega
    obtain rfl : j = 0 := by omega
    simp only [litF, encVp, rowsV, encB, List.take_zero, List.flatMap_nil, List.getD_cons_zero, Nat.zero_mul, Nat.zero_add, by8_val]
  rintro ⟨⟨i, nl, b, off, cp⟩, hi⟩
  simp only at hi
  refine go_ok _ 100 _ _ ?_
  simp only [go_sem, Nat.reduceBEq, Try.results62]
  refine ⟨fun h => ?_, fun h => ?_⟩
  · have hlt : i < xs.length := by simpa using h
    have hlen := encVp_len xs i hi
    refine ⟨⟨by omega, by omega⟩, by decide, ?_⟩
    simp only [Int.toNat_natCast]
    refine safe_loop (ι := {p : Nat × Bool × Nat × Nat × Nat // p.1 ≤ 8}) (fun p => ⟨[(0, vI a cap xs), (3, .osl 0 p.1.2.1 p.1.2.2.1 p.1.2.2.2.1 (encVp xs i ++ be8 (xs.getD i 0) p.1.1).length p.1.2.2.2.2), (5, I (xs.getD i 0)), (6, I (7 - (p.1.1 : Int))), (11, vI a cap xs), (12, I xs.length), (13, I i)],
        [.row p.1.2.1 p.1.2.2.1 5 p.1.2.2.2.1 1 (encVp xs i ++ be8 (xs.getD i 0) p.1.1).length p.1.2.2.2.2 (rowsV encB (encVp xs i ++ be8 (xs.getD i 0) p.1.1))]⟩)
      (fun p => 8 - p.1.1) ⟨(0, nl, b, off, cp), Nat.zero_le _⟩ (Sub.front (X := []) (by simp [envSub, look, be8]) (by simp [be8])) ?_
    rintro ⟨⟨j, nl2, b2, off2, cp2⟩, hj⟩
    simp only at hj
    refine go_ok _ 100 _ _ ?_
    simp only [go_sem, Nat.reduceBEq, Nat.zero_add]
    refine ⟨fun h2 => ?_, fun h2 => ?_⟩
    · have hj8 : j < 8 := by simp at h2; omega
      have hjl := be8_len (xs.getD i 0) j
      have hyl : (encVp xs i ++ be8 (xs.getD i 0) j).length ≤ 10000 := by simp only [List.length_append, hlen, hjl]; omega
      refine ⟨by simp only [inI64]; omega, by omega, fun b1 => ?_⟩
      refine (stp_app2 (c := 0) (x := .osl 1 false b1 0 1 1) (N := (encVp xs i ++ be8 (xs.getD i 0) (j + 1)).length) (f2 := rowsV encB (encVp xs i ++ be8 (xs.getD i 0) (j + 1))) (gx := litF 1 [.val (.int .u8 (IntKind.u8.wrap (shrI .i64 (xs.getD i 0) (8 * (7 - (j : Int))))))]) rfl rfl rfl rfl ⟨rfl, rfl, rfl, rfl, by decide⟩ (fun i j hi hj => ?_) (by omega)
        (by simp [be8_len]; omega) (fun i' j' hi' hj' => ?_) fun nl' b' off' cap' => ?_).safe trivial
      · obtain rfl : i = 0 := by omega
        obtain rfl : j = 0 := by omega
        simp [litF, one, Value.oneCell']
      · rw [be8_succ, ← List.append_assoc]
        exact app_byte (ys := encVp xs i ++ be8 (xs.getD i 0) j) (b := by8 (shrI .i64 (xs.getD i 0) (8 * (7 - (j : Int))))) (by rw [by8_val]) i' j' (by simp [be8_len] at hi' ⊢; omega) hj'
      refine ⟨trivial, go_ok _ 100 _ _ ?_⟩
      simp only [go_sem, Nat.reduceBEq]
      refine ⟨by simp only [inI64]; omega, ?_⟩
      refine safe_lend ⟨(j + 1, nl', b', off', cap'), by simp only; omega⟩ (by simp only; omega) (Sub.front (X := [_]) ?_ rfl)
      simp only [envSub, look, go_sem, Nat.reduceBEq, and_true, Option.some.injEq]
      congr 2
      omega
    · have hj8 : j = 8 := by simp at h2; omega
      subst hj8
      refine ⟨by simp only [inI64]; omega, ?_⟩
      refine safe_lend ⟨(i + 1, nl2, b2, off2, cp2), hlt⟩ (by simp only; omega) (Sub.front (X := []) (by simp [envSub, look, encVp_succ xs i hlt]) (by simp [encVp_succ xs i hlt]))
  · have hi' : i = xs.length := by simp at h; omega
    subst hi'
    have : encVp xs xs.length = encV xs := by simp [encVp, encV]
    rw [this]
    exact ⟨nl, b, off, cp, [], rfl, rfl⟩
end Go.SX

/- slices.Grow, slices.Concat. -/
namespace Go.SX
open Go.Proofs
set_option maxRecDepth 1000000
variable {E : Env}

theorem info_int : ∃ i z, Try.prog.info? 3 = some i ∧ i.zero = some z ∧ i.bytes = 8 ∧ i.size = 1 ∧ z.cells.size = 1 := by
  have h : ((Try.prog.info? 3).map fun i => (i.bytes, i.size, i.zero.map fun z => z.cells.size)) = some (8, 1, some 1) := by kernel_rfl
  rw [Option.map_eq_some_iff] at h
  obtain ⟨i, h1, h2⟩ := h
  injection h2 with h3 h4
  injection h4 with h4 h5
  rw [Option.map_eq_some_iff] at h5
  obtain ⟨z, h6, h7⟩ := h5
  exact ⟨i, z, h1, h6, h3, h4, h7⟩
set_option maxHeartbeats 2000000 in
theorem c89 (n : Nat) (h0 : 0 < n) (h1 : n ≤ 10000) : Spec Try.prog E 89 [nilS, I n] [] (fun v hp => ∃ b cap f, v = .osl 0 false b 0 0 cap ∧ hp = [.row false b 3 0 1 0 cap f]) := by
  refine spec_of (keep := k89) (args' := [nilS, I n]) Try.func89 rfl Try.ntmps89 s89_ok (by simp) ⟨rfl, fun _ h => h⟩ (fun _ _ h => h) (go_ok _ 100 _ _ ?_)
  simp only [go_sem, s89, k89, nilS, Nat.reduceBEq, Nat.zero_add]
  rw [show (n : Int) - (((0 : Nat) : Int) - ((0 : Nat) : Int)) = n by omega]
  refine ⟨fun h => absurd (of_decide_eq_true h) (by omega), fun _ => ⟨by simp only [inI64]; omega, by simp only [inI64]; omega, fun _ => ?_, fun h => absurd (of_decide_eq_false h) (by omega)⟩⟩
  refine ⟨by and_intros <;> first | omega | decide | (intro h; rfl), ?_⟩
  refine Safe.sub (st' := ⟨[(21, I n), (20, nilS), (0, nilS)], []⟩) ?_ ?_
  · exact Sub.front (X := []) ⟨rfl, rfl, rfl, trivial⟩ rfl
  obtain ⟨i, z, h2, h3, h4, h5, h6⟩ := info_int
  refine Stp.safeE (stp_appmk (m := n) (kd := .i64) (kk := .i64) (e := 3) (xo := .t 20) (yo := .t 21) (sx := nilS) rfl rfl (by kernel_rfl) (by kernel_rfl) h2 h3 (by rw [h6, h5]) h0 (by rw [h4]; decide) (by rw [h5]; decide) (by rw [h4]; omega) rfl rfl rfl fun b nc f => ?_) rfl
  refine ⟨trivial, go_ok _ 100 _ _ ?_⟩
  simp only [go_sem, nilS, h5, List.nil_append, Nat.reduceBEq, Nat.zero_add, Try.results89]
  refine ⟨by and_intros <;> first | omega | decide | (intro h; rfl), b, nc, f, ?_, rfl⟩
  simp
def encVI (s : Sl Int) : List SV := [vI s.a s.cap s.xs]
@[simp, go_sem] theorem rowsVI (L : List (Sl Int)) (i : Nat) : rowsV encVI L i 0 = vI (L.getD i default).a (L.getD i default).cap (L.getD i default).xs := rfl
/-- lists in a row -/
def catL (L : List (Sl Int)) : List Int := L.flatMap fun s => s.xs
theorem catL_succ {L : List (Sl Int)} {i : Nat} (h : i < L.length) : catL (L.take (i + 1)) = catL (L.take i) ++ (L.getD i default).xs := by
  unfold catL
  rw [List.take_add_one, List.getElem?_eq_getElem h, List.flatMap_append, List.getD_eq_getElem?_getD, List.getElem?_eq_getElem h]
  simp
theorem catL_le {L : List (Sl Int)} (hs : ∀ s ∈ L, s.xs.length ≤ 1000) : ∀ i, (catL (L.take i)).length ≤ 1000 * i
  | 0 => by simp [catL]
  | i + 1 => by
    by_cases h : i < L.length
    · rw [catL_succ h, List.length_append]
      have h1 := catL_le hs i
      have h2 := hs (L.getD i default) (by rw [List.getD_eq_getElem?_getD, List.getElem?_eq_getElem h]; exact List.getElem_mem h)
      omega
    · have h1 := catL_le hs i
      rw [List.take_of_length_le (by omega)] at h1 ⊢
      omega
structure W81 (L : List (Sl Int)) where
  i : Nat
  hi : i ≤ L.length
  w : Rw
set_option maxHeartbeats 4000000 in
theorem c81 (a : Option Addr) (cap : Nat) (L : List (Sl Int)) (hl : L.length ≤ 10) (hs : ∀ s ∈ L, s.xs.length ≤ 1000) (h0 : 0 < (catL L).length) :
    Spec Try.prog E 81 [.view a L.length cap 1 (rowsV encVI L)] [] (fun v hp => ∃ nl b off cap', v = .osl 0 nl b off (catL L).length cap' ∧ hp = [.row nl b 3 off 1 (catL L).length cap' (rowsV encI (catL L))]) := by
  have hle := catL_le hs
  have hall : catL L = catL (L.take L.length) := by rw [List.take_length]
  have hL := hle L.length
  rw [← hall] at hL
  refine Spec.leave (Post := fun v hp => ∃ nl b off cap' X, v = .osl 0 nl b off (catL L).length cap' ∧ hp = .row nl b 3 off 1 (catL L).length cap' (rowsV encI (catL L)) :: X) ?_ (fun v hp ⟨nl, b, off, cap', X, h1, h2⟩ => ⟨[.row nl b 3 off 1 (catL L).length cap' (rowsV encI (catL L))], X, by rw [h2]; rfl, nl, b, off, cap', h1, rfl⟩)
  refine spec_of (keep := k81) (args' := [.view a L.length cap 1 (rowsV encVI L)]) Try.func81 rfl Try.ntmps81 s81_ok (by simp) ⟨rfl, fun _ h => h⟩ (fun _ _ h => h) (go_ok _ 100 _ _ ?_)
  simp only [go_sem, s81, k81, Nat.reduceBEq]
  refine safe_loop (ι := W81 L) (fun w => ⟨[(0, .view a L.length cap 1 (rowsV encVI L)), (3, I (catL (L.take w.i)).length), (9, .view a L.length cap 1 (rowsV encVI L)), (10, I L.length), (11, I w.i)], []⟩) (fun w => L.length - w.i)
    ⟨0, Nat.zero_le _, nilR⟩ (Sub.front (X := []) (by simp [envSub, look, catL]) rfl) ?_
  rintro ⟨i, hi, _⟩
  refine go_ok _ 12 _ _ ?_
  simp only [go_sem, Nat.reduceBEq, Int.toNat_natCast]
  refine ⟨fun hc => ?_, fun hc => ?_⟩
  · have hlt : i < L.length := by have := of_decide_eq_true hc; omega
    have hsu := catL_succ hlt
    have h1 := hle i
    have h2 := hs (L.getD i default) (by rw [List.getD_eq_getElem?_getD, List.getElem?_eq_getElem hlt]; exact List.getElem_mem hlt)
    have hd : decide (((catL (L.take i)).length : Int) + ((L.getD i default).xs.length : Int) < 0) = false := decide_eq_false (by omega)
    refine ⟨⟨by omega, by omega⟩, ?_⟩
    refine go_ok _ 40 _ _ ?_
    simp only [go_sem, hd, Nat.reduceBEq]
    refine ⟨by decide, by simp only [inI64]; omega, by simp only [inI64]; omega, ?_⟩
    refine safe_lend (⟨i + 1, hlt, nilR⟩ : W81 L) (by simp only; omega) (Sub.front (X := []) ?_ rfl)
    simp only [hsu, List.length_append]
    exact ⟨rfl, by simp [look], rfl, rfl, rfl, trivial⟩
  · have hil : i = L.length := by have := of_decide_eq_false hc; omega
    subst hil
    rw [← hall]
    refine go_ok _ 40 _ _ ?_
    simp only [go_sem]
    refine (stp_call [] (args := [nilS, I (catL L).length]) rfl rfl rfl ⟨_, Try.func89, rfl, rfl⟩ (c89 (catL L).length h0 (by omega)) rfl (fun _ h => h) rfl (fun _ _ h => h) ?_).safe trivial
    rintro v hp ⟨b1, cap1, f1, rfl, rfl⟩
    refine ⟨trivial, go_ok _ 40 _ _ ?_⟩
    simp only [go_sem, Nat.reduceBEq]
    refine safe_loop (ι := W81 L) (fun w => ⟨[(6, w.w.sv 0 (catL (L.take w.i)).length), (25, .view a L.length cap 1 (rowsV encVI L)), (26, I L.length), (27, I w.i)], [w.w.ch 3 1 encI (catL (L.take w.i))]⟩) (fun w => L.length - w.i)
      ⟨0, Nat.zero_le _, ⟨false, b1, 0, cap1⟩⟩ ?_ ?_
    · refine ⟨fun t s ht => ⟨s, envSub_ok (by simp [envSub, look, catL, Rw.sv]) t s ht, rfl, fun _ h => h⟩, fun ro H hh => ⟨H, [], by simp, ?_⟩⟩
      refine hsat_set (hp := [.row false b1 3 0 1 0 cap1 f1]) 0 (fun H hh => row_congr (fun i j hi hj => ?_) hh) hh
      exact absurd hi (Nat.not_lt_zero _)
    rintro ⟨i, hi, w⟩
    refine go_ok _ 12 _ _ ?_
    simp only [go_sem, Nat.reduceBEq, Int.toNat_natCast]
    refine ⟨fun hc => ?_, fun hc => ?_⟩
    · have hlt : i < L.length := by have := of_decide_eq_true hc; omega
      have hsu := catL_succ hlt
      have h1 := hle i
      have h2 := hs (L.getD i default) (by rw [List.getD_eq_getElem?_getD, List.getElem?_eq_getElem hlt]; exact List.getElem_mem hlt)
      refine ⟨⟨by omega, by omega⟩, ?_⟩
      refine go_ok _ 40 _ _ ?_
      simp only [go_sem, Nat.reduceBEq]
      refine ⟨by decide, ?_⟩
      refine (stp_app2 (c := 0) (b := w.b) (off := w.off) (nl := w.nl) (n := (catL (L.take i)).length) (cap := w.cap) (gx := rowsV encI (L.getD i default).xs) (m := (L.getD i default).xs.length) (f := rowsV encI (catL (L.take i))) (f2 := rowsV encI (catL (L.take i) ++ (L.getD i default).xs)) (N := (catL (L.take i) ++ (L.getD i default).xs).length) rfl rfl rfl rfl rfl (onesF_rows fun x => ⟨rfl, by simp [encI, ones, one, Value.oneCell']⟩) (by omega) (by rw [List.length_append]) (fun a j ha hj => by rw [← appF_rows]) fun nl3 b3 off3 cap3 => ?_).safe trivial
      refine ⟨trivial, go_ok _ 40 _ _ ?_⟩
      simp only [go_sem, Nat.reduceBEq]
      refine ⟨by simp only [inI64]; omega, ?_⟩
      refine safe_lend (⟨i + 1, hlt, ⟨nl3, b3, off3, cap3⟩⟩ : W81 L) (by simp only; omega) (Sub.front (X := []) ?_ ?_)
      · simp only [hsu]
        exact ⟨rfl, rfl, rfl, rfl, trivial⟩
      · simp only [hsu]
        rfl
    · have hil : i = L.length := by have := of_decide_eq_false hc; omega
      subst hil
      rw [← hall]
      refine go_ok _ 40 _ _ ?_
      simp only [go_sem, Nat.reduceBEq, Try.results81]
      exact ⟨_, _, _, _, [], rfl, rfl⟩
end Go.SX

/- Raft: how many of two lists are in one alone. -/
namespace Go.SX
open Go.Proofs
set_option maxRecDepth 1000000
variable {E : Env}

def inOne (xs ys : List Int) (v : Int) : Bool := !xs.contains v || !ys.contains v
theorem differ_eq (xs ys : List Int) : Rf.Nd.differ xs ys = ((xs ++ ys).filter (inOne xs ys)).length := rfl
theorem filt_succ (p : Int → Bool) {zs : List Int} {i : Nat} (h : i < zs.length) : ((zs.take (i + 1)).filter p).length = ((zs.take i).filter p).length + (if p (zs.getD i 0) then 1 else 0) := by
  rw [List.take_add_one, List.getElem?_eq_getElem h, List.filter_append, List.length_append, List.getD_eq_getElem?_getD, List.getElem?_eq_getElem h]
  simp only [Option.toList_some, Option.getD_some]
  by_cases h2 : p zs[i] = true <;> simp [h2]
structure W60 (zs : List Int) where
  i : Nat
  hi : i ≤ zs.length
set_option maxHeartbeats 4000000 in
theorem c60 (a : Option Addr) (cap : Nat) (xs : List Int) (a2 : Option Addr) (cap2 : Nat) (ys : List Int) (hx : xs.length ≤ 1000) (hy : ys.length ≤ 1000) (h0 : 0 < (xs ++ ys).length) :
    Spec Try.prog E 60 [vI a cap xs, vI a2 cap2 ys] [] (fun v hp => v = I (Rf.Nd.differ xs ys) ∧ hp = []) := by
  refine Spec.leave (Post := fun v hp => v = I (Rf.Nd.differ xs ys)) ?_ (fun v hp h => ⟨[], hp, rfl, h, rfl⟩)
  refine spec_of (keep := k60) (args' := [vI a cap xs, vI a2 cap2 ys]) Try.func60 rfl Try.ntmps60 s60_ok (by simp) ⟨rfl, fun _ h => h⟩ (fun _ _ h => h) (go_ok _ 100 _ _ ?_)
  simp only [go_sem, s60, k60, Nat.reduceBEq, Nat.zero_add]
  intro b1
  refine safe_frz2 (hp := []) (f' := rowsV encVI [⟨a, cap, xs⟩, ⟨a2, cap2, ys⟩]) (fun i j hi hj => ?_) ?_
  · obtain rfl : j = 0 := by omega
    have : i = 0 ∨ i = 1 := by omega
    rcases this with rfl | rfl <;> rfl
  refine go_ok _ 100 _ _ ?_
  simp only [go_sem, frz, if_false]
  have hcat : catL [⟨a, cap, xs⟩, ⟨a2, cap2, ys⟩] = xs ++ ys := by simp [catL]
  refine (stp_call [] (args := [.view (some ⟨b1, 0, none⟩) 2 2 1 (rowsV encVI [⟨a, cap, xs⟩, ⟨a2, cap2, ys⟩])]) rfl rfl rfl ⟨_, Try.func81, rfl, rfl⟩ (c81 (some ⟨b1, 0, none⟩) 2 [⟨a, cap, xs⟩, ⟨a2, cap2, ys⟩] (show 2 ≤ 10 by decide) (fun s hs => by
    simp only [List.mem_cons, List.not_mem_nil, or_false] at hs
    rcases hs with rfl | rfl
    · exact hx
    · exact hy) (by rw [hcat]; exact h0)) rfl (fun _ h => h) rfl (fun _ _ h => h) ?_).safe trivial
  rw [hcat]
  generalize hz : xs ++ ys = zs at *
  rintro v hp ⟨nl, b2, off, cp, rfl, rfl⟩
  refine ⟨trivial, go_ok _ 100 _ _ ?_⟩
  simp only [go_sem, Nat.reduceBEq]
  have hzl : zs.length ≤ 2000 := by rw [← hz, List.length_append]; omega
  refine safe_loop (ι := W60 zs) (fun w => ⟨[(0, vI a cap xs), (1, vI a2 cap2 ys), (5, I ((zs.take w.i).filter (inOne xs ys)).length), (11, .osl 0 nl b2 off zs.length cp), (12, I zs.length), (13, I w.i)], [.row nl b2 3 off 1 zs.length cp (rowsV encI zs)]⟩) (fun w => zs.length - w.i)
    ⟨0, Nat.zero_le _⟩ (Sub.front (X := []) (by simp [envSub, look]) rfl) ?_
  rintro ⟨i, hi⟩
  refine go_ok _ 12 _ _ ?_
  simp only [go_sem, Nat.reduceBEq, Int.toNat_natCast]
  refine ⟨fun hc => ?_, fun hc => ?_⟩
  · have hlt : i < zs.length := by have := of_decide_eq_true hc; omega
    have hsu := filt_succ (inOne xs ys) hlt
    have hfl := List.length_filter_le (inOne xs ys) (zs.take i)
    rw [List.length_take] at hfl
    generalize hv : zs.getD i 0 = v at hsu
    have hin : inOne xs ys v = (!decide (v ∈ xs) || !decide (v ∈ ys)) := by simp [inOne]
    rw [hin] at hsu
    refine ⟨⟨by omega, by omega, Nat.le_refl _⟩, ?_⟩
    refine go_ok _ 40 _ _ ?_
    simp only [go_sem, hv, Nat.reduceBEq]
    refine ⟨⟨by omega, by decide⟩, ?_⟩
    refine (stp_call [] (args := [vI a cap xs, I v]) rfl rfl rfl ⟨_, Try.func54, rfl, rfl⟩ (c54 a cap xs v (by omega)) rfl (fun _ h => h) rfl (fun _ _ h => h) ?_).safe trivial
    rintro r hp ⟨rfl, rfl⟩
    rcases d1 : decide (v ∈ xs) with _ | _
    · rw [d1] at hsu
      simp only [Bool.not_false, Bool.true_or, if_true] at hsu
      refine ⟨trivial, go_ok _ 40 _ _ ?_⟩
      simp only [go_sem, Nat.reduceBEq]
      exact ⟨⟨fun h => absurd h (by decide), ⟨by simp only [inI64]; omega, by simp only [inI64]; omega, safe_lend (⟨i + 1, hlt⟩ : W60 zs) (by simp only; omega) (Sub.front (X := []) (by simp [envSub, look, hsu]) rfl)⟩, fun h => absurd h (by decide)⟩, rfl⟩
    · rw [d1] at hsu
      simp only [Bool.not_true, Bool.false_or] at hsu
      refine ⟨trivial, go_ok _ 40 _ _ ?_⟩
      simp only [go_sem, Nat.reduceBEq]
      refine ⟨?_, fun h => absurd h (by decide), rfl⟩
      refine Stp.safeOn ?_ trivial
      refine stp_call [] (args := [vI a2 cap2 ys, I v]) rfl rfl rfl ⟨_, Try.func54, rfl, rfl⟩ (c54 a2 cap2 ys v (by omega)) rfl (fun _ h => unc_oks h) (by simp [callIdx]) (fun _ _ h => h) ?_
      rintro r hp ⟨rfl, rfl⟩
      rcases d2 : decide (v ∈ ys) with _ | _
      · rw [d2] at hsu
        simp only [Bool.not_false, if_true] at hsu
        refine ⟨trivial, go_ok _ 40 _ _ ?_⟩
        simp only [go_sem, Nat.reduceBEq]
        exact ⟨⟨by simp only [inI64]; omega, by simp only [inI64]; omega, safe_lend (⟨i + 1, hlt⟩ : W60 zs) (by simp only; omega) (Sub.front (X := []) (by simp [envSub, look, hsu]) rfl)⟩, fun h => absurd h (by decide)⟩
      · rw [d2] at hsu
        simp only [Bool.not_true, Bool.false_eq_true, if_false, Nat.add_zero] at hsu
        refine ⟨trivial, go_ok _ 40 _ _ ?_⟩
        simp only [go_sem, Nat.reduceBEq]
        exact ⟨by simp only [inI64]; omega, safe_lend (⟨i + 1, hlt⟩ : W60 zs) (by simp only; omega) (Sub.front (X := []) (by simp [envSub, look, hsu]) rfl)⟩
  · have hil : i = zs.length := by have := of_decide_eq_false hc; omega
    subst hil
    refine go_ok _ 40 _ _ ?_
    simp only [go_sem, Nat.reduceBEq, Try.results60]
    rw [differ_eq, hz, List.take_length]
end Go.SX

/- Raft, plainly: voters are changed. -/
namespace Go.SX.Rf
set_option maxRecDepth 100000

/-- a number's bytes -/
def beK : Nat → Nat → List UInt8
  | 0, _ => []
  | k + 1, n => beK k (n / 256) ++ [UInt8.ofNat (n % 256)]
theorem beN_app (l : List UInt8) (x : UInt8) : beN (l ++ [x]) = beN l * 256 + x.toNat := by simp [beN]
theorem beN_beK : ∀ k n, beN (beK k n) = n % 256 ^ k
  | 0, n => by rw [Nat.pow_zero, Nat.mod_one]; rfl
  | k + 1, n => by
    have e : (UInt8.ofNat (n % 256)).toNat = n % 256 := by rw [UInt8.toNat_ofNat']; omega
    rw [beK, beN_app, beN_beK k, e, Nat.pow_succ, Nat.mul_comm (256 ^ k) 256, Nat.mod_mul]
    omega
theorem be8_beK (n : Nat) : be8 (n : Int) = beK 8 n := by
  have e : be8 (n : Int) = [UInt8.ofNat (((n : Int) / 2 ^ 56) % 256).toNat, UInt8.ofNat (((n : Int) / 2 ^ 48) % 256).toNat, UInt8.ofNat (((n : Int) / 2 ^ 40) % 256).toNat, UInt8.ofNat (((n : Int) / 2 ^ 32) % 256).toNat, UInt8.ofNat (((n : Int) / 2 ^ 24) % 256).toNat, UInt8.ofNat (((n : Int) / 2 ^ 16) % 256).toNat, UInt8.ofNat (((n : Int) / 2 ^ 8) % 256).toNat, UInt8.ofNat (((n : Int) / 2 ^ 0) % 256).toNat] := rfl
  have q : ∀ k : Nat, (((n : Int) / 2 ^ k) % 256).toNat = n / 2 ^ k % 256 := fun k => rfl
  rw [e]
  simp only [q, beK, Nat.div_div_eq_div_mul, Nat.reduceMul, Nat.reducePow, Nat.div_one, List.nil_append, List.cons_append]
theorem beN_be8 {v : Int} (h0 : 0 ≤ v) (h1 : v < 2 ^ 63) : (beN (be8 v) : Int) = v := by
  obtain ⟨n, rfl⟩ : ∃ n : Nat, v = n := ⟨v.toNat, by omega⟩
  rw [be8_beK, beN_beK, Nat.mod_eq_of_lt]
  have : n < 2 ^ 63 := by omega
  exact Nat.lt_trans this (by decide)
theorem be8_len (v : Int) : (be8 v).length = 8 := by simp [be8]
theorem flat_len : ∀ l : List Int, (l.flatMap be8).length = 8 * l.length
  | [] => rfl
  | v :: r => by rw [List.flatMap_cons, List.length_append, be8_len, flat_len r, List.length_cons]; omega
theorem ints8_flat : ∀ l : List Int, (∀ v ∈ l, 0 ≤ v ∧ v < 2 ^ 63) → ints8 l.length (l.flatMap be8) = l
  | [], _ => rfl
  | v :: r, h => by
    have h1 := h v (by simp)
    have e1 : (be8 v ++ r.flatMap be8).take 8 = be8 v := by rw [List.take_append_of_le_length (by rw [be8_len]; exact Nat.le_refl _), List.take_of_length_le (by rw [be8_len]; exact Nat.le_refl _)]
    have e2 : (be8 v ++ r.flatMap be8).drop 8 = r.flatMap be8 := by
      have := List.drop_left (l₁ := be8 v) (l₂ := r.flatMap be8)
      rw [be8_len] at this
      exact this
    rw [List.flatMap_cons, List.length_cons, ints8, e1, e2, beN_be8 h1.1 h1.2, ints8_flat r fun x hx => h x (List.mem_cons_of_mem _ hx)]
    have h2 := beN_be8 h1.1 h1.2
    rw [if_pos (by omega)]
theorem readV_written {l : List Int} (h : areVoters l = true) : readV (written l) = (l, true) := by
  obtain ⟨h1, h2, h3, h4⟩ := areVoters_facts h
  have e : (UInt8.ofNat l.length).toNat = l.length := by rw [UInt8.toNat_ofNat']; omega
  unfold written readV
  dsimp only
  rw [e, flat_len, if_pos rfl, ints8_flat l fun v hv => ?_, h]
  have := h2 v hv
  simp only [isId, Bool.and_eq_true, decide_eq_true_eq] at this
  omega
theorem flat_drop : ∀ (c : Nat) (l : List Int), (l.flatMap be8).drop (8 * c) = (l.drop c).flatMap be8
  | 0, _ => rfl
  | c + 1, [] => by simp
  | c + 1, v :: r => by
    have := List.drop_left (l₁ := be8 v) (l₂ := r.flatMap be8)
    rw [be8_len] at this
    rw [List.flatMap_cons, show 8 * (c + 1) = 8 + 8 * c by omega, ← List.drop_drop, this, flat_drop c r, List.drop_succ_cons]
theorem okB_written {l : List Int} (h : areVoters l = true) : okB (written l) := by
  obtain ⟨h1, h2, h3, h4⟩ := areVoters_facts h
  refine ⟨?_, fun c => ?_⟩
  · unfold written
    rw [List.length_cons, flat_len]
    omega
  · have e : (written l).drop (1 + 8 * c) = (l.drop c).flatMap be8 := by
      unfold written
      rw [Nat.add_comm, List.drop_succ_cons, flat_drop]
    rw [e]
    rcases hd : l.drop c with _ | ⟨v, r⟩
    · exact (by decide : beN ([] : List UInt8) < 2 ^ 63)
    · have e1 : (be8 v ++ r.flatMap be8).take 8 = be8 v := by rw [List.take_append_of_le_length (by rw [be8_len]; exact Nat.le_refl _), List.take_of_length_le (by rw [be8_len]; exact Nat.le_refl _)]
      have hm : v ∈ l := List.mem_of_mem_drop (i := c) (by rw [hd]; exact List.mem_cons_self ..)
      have := h2 v hm
      simp only [isId, Bool.and_eq_true, decide_eq_true_eq] at this
      have q := beN_be8 this.1 (by omega : v < 2 ^ 63)
      rw [List.flatMap_cons, e1]
      omega
/-- what a leader knows after the voters were changed -/
def Nd.newP (n n1 : Nd) (v : Int) : Int × Pe := (v, match (n.peers.getD []).find? fun (p : Int × Pe) => p.1 == v with | some p => p.2 | none => (⟨n.last + 1, 0, 0⟩ : Pe))
/-- a leader whose voters were changed knows of all of them -/
theorem inv_known {n : Nd} {k j : Nat} (h : n.inv k j) (hr : n.role = 2) {vs : List Int} (hv : areVoters vs = true) : ({ n.pushed 2 (written vs) with peers := some ((n.pushed 2 (written vs)).others.map (Nd.newP n (n.pushed 2 (written vs)))) } : Nd).inv (k + 1) j := by
  have hf := fit_pushed h.toFit (kd := 2) (okB_written hv) (fun _ => by rw [readV_written hv])
  obtain ⟨l0, k1, k2, k3, k4⟩ := h.kn hr
  have hlast := pushed_last n 2 (written vs)
  have h0 := h.i0
  have hl0 : 0 ≤ n.last := by unfold Nd.last; omega
  refine ⟨{ hf with }, .inr (.inr hr), fun _ => ⟨_, rfl, ?_, fun q hq => ?_, fun v hv => ?_⟩⟩
  · rw [List.map_map]
    have : ((fun x : Int × Pe => x.1) ∘ Nd.newP n (n.pushed 2 (written vs))) = id := rfl
    rw [this, List.map_id]
    exact hf.others.1
  · obtain ⟨v, _, rfl⟩ := List.mem_map.1 hq
    have e : ({ n.pushed 2 (written vs) with peers := some ((n.pushed 2 (written vs)).others.map (Nd.newP n (n.pushed 2 (written vs)))) } : Nd).last = n.last + 1 := hlast
    rw [e]
    unfold Nd.newP
    dsimp only
    split
    · rename_i p hp
      have hm := List.mem_of_find?_eq_some hp
      rw [k1] at hm
      exact (k3 p hm).mono (by omega)
    · exact ⟨show 1 ≤ n.last + 1 by omega, show n.last + 1 ≤ n.last + 1 + 1 by omega, Int.le_refl 0, show (0 : Int) ≤ n.last + 1 by omega⟩
  · rw [List.map_map]
    exact List.mem_map.2 ⟨v, hv, rfl⟩
theorem inv_change {n : Nd} {k j : Nat} (h : n.inv k j) (vs : List Int) : (n.change vs).2.inv (k + 1) (j + 14) := by
  unfold Nd.change
  split
  · exact h.mono (by omega) (by omega)
  · rename_i hr
    split
    · exact h.mono (by omega) (by omega)
    · rename_i hv
      split
      · exact h.mono (by omega) (by omega)
      · have hr : n.role = 2 := Decidable.byContradiction hr
        have hv : areVoters vs = true := by
          rcases hh : areVoters vs with _ | _
          · exact absurd (.inl hh) hv
          · rfl
        dsimp only
        rw [put_pushed]
        exact inv_look (inv_all (inv_known h hr hv) hr)
end Go.SX.Rf

/- Raft: voters written, by the plain model. -/
namespace Go.SX
open Go.Proofs
set_option maxRecDepth 1000000

theorem be8_rf (v : Int) : Rf.be8 v = be8 v 8 := by
  unfold Rf.be8 be8
  refine List.map_congr_left fun m hm => ?_
  have hm8 : m < 8 := List.mem_range.1 hm
  have e1 : (8 * (7 - (m : Int))).toNat = 8 * (7 - m) := by omega
  have e2 : min (8 * (7 - m)) 64 = 8 * (7 - m) := by omega
  have e3 : shrI .i64 v (8 * (7 - (m : Int))) = v / 2 ^ (8 * (7 - m)) := by
    unfold shrI
    rw [e1]
    show v.fdiv (2 ^ min (8 * (7 - m)) 64) = _
    rw [e2, Int.fdiv_eq_ediv_of_nonneg _ (Int.le_of_lt (Int.pow_pos (by decide)))]
  rw [by8, e3]
theorem written_rf {l : List Int} (h : l.length ≤ 255) : Rf.written l = encV l := by
  have e1 : UInt8.ofNat l.length = by8 (l.length : Int) := by
    unfold by8
    congr 1
    omega
  have e2 : (Rf.be8 : Int → List UInt8) = fun x => be8 x 8 := funext be8_rf
  unfold Rf.written encV
  rw [e1, e2]
end Go.SX
