/- Joined texts: T54 T55 PW T56. -/
import Derived.Test.YtpbbpmhahkeekaaSxTJ11
import Derived.Test.YtpbbpmhahkeekaaSxTJ9
/- Raft: a new group. -/
namespace Go.SX
open Go.Proofs
set_option maxRecDepth 1000000
variable {E : Env}

/-- nothing saved yet -/
def sv0 : SvL := ⟨0, -1, 0, 0, 0, ⟨none, 0, []⟩, ⟨none, 0, []⟩, ⟨none, 0, []⟩⟩
def dn0 : DnL := ⟨nilR, []⟩
def g0 (N : Nat) : GL := ⟨nilR, [], nilR, [], nilR, [], nilR, [], nilR, [], nilR, [], N, true⟩
/-- a row with one more, seen alike -/
theorem row_app {α : Type} [Inhabited α] {enc : α → List SV} {xs : List α} {y : α} {cs : List SV} {sz : Nat} (hcs : ∀ j, j < sz → ((enc y).getD j default).den = (cs.getD j default).den ∧ ∀ ro, (cs.getD j default).ok ro → ((enc y).getD j default).ok ro) {nl : Bool} {b : Nat} {t : TypeId} {off cap : Nat} :
    ∀ ro H, (Chunk.row nl b t off sz (xs.length + 1) cap (appF (rowsV enc xs) xs.length (litF sz cs))).sat ro H → (Chunk.row nl b t off sz (xs.length + 1) cap (rowsV enc (xs ++ [y]))).sat ro H := by
  intro ro H hh
  refine row_see (fun i j hi hj => ?_) hh
  rw [← app_one (enc := enc) (ys := xs) (y := y) (sz := sz) i j hi hj]
  unfold appF
  cases h : Nat.blt i xs.length with
  | true => exact ⟨rfl, fun _ h => h⟩
  | false =>
    have h' : ¬ i < xs.length := by rw [← Nat.blt_eq, h]; decide
    simp only [cond_false, litF, show i - xs.length = 0 by omega, Nat.zero_mul, Nat.zero_add]
    exact hcs j hj
theorem Sees.bagNil {A X : List Chunk} {x : Chunk} (hx : ∀ ro, x.sat ro []) : Sees (sepC A :: X) (sepC (A ++ [x]) :: X) := Sees.trans (Sees.same (Sees.new hx (Sees.refl X))) Sees.bagEnd
theorem emp_sat (ro : RO) : Chunk.emp.sat ro [] := rfl
structure W23 (N : Nat) where
  i : Nat
  hi : i ≤ N
  b : Nat
  g : GL
  N' : g.N = N
  ok : g.ok = true
  net : g.net = []
  al : g.al = []
  ld : g.ld = []
  Rl : g.R.length = i
  S : g.S = List.replicate i sv0
  Dl : g.D.length = i
  full : ∀ a, a < i → ∃ nb n, g.R[a]? = some (some (nb, n))
  R : g.R.map RN.pl = (List.range i).map fun (a : Nat) => Rf.Nd.new a (upTo N) ⟨0, -1, 0⟩ ⟨0, 0, []⟩ [] []
  D : (g.D.map fun d => d.xs.map Ent.pl) = (List.range i).map fun _ => []
theorem sv0_fit (K : Nat) : sv0.pl.fit K := ⟨Int.le_refl _, Int.natCast_nonneg K, by decide, Int.le_refl _, Int.natCast_nonneg K, Int.le_refl _, Int.natCast_nonneg K, Int.le_refl _, Int.natCast_nonneg K, fun h => absurd h (by decide), by decide, by decide, rfl, fun e he => by cases he⟩
theorem map_const (N : Nat) {α : Type} (x : α) : (List.range N).map (fun _ => x) = List.replicate N x := by
  rw [List.map_const', List.length_range]
theorem new_inv {N : Nat} (h1 : 1 ≤ N) (h7 : N ≤ 7) : (Rf.Gr.new N).inv 0 0 0 := by
  have hl : ∀ {α : Type} (f : Nat → α), ((List.range N).map f).length = N := fun f => by rw [List.length_map, List.length_range]
  refine ⟨h1, h7, hl _, hl _, hl _, fun i hi => ?_, fun i hi => ?_, fun m hm => absurd hm (by simp [Rf.Gr.new]), Nat.le_refl 0, fun i hi => ?_, Nat.le_refl 0, Nat.zero_le 5000⟩
  · have e : (Rf.Gr.new N).R.getD i default = Rf.Nd.new i (upTo N) ⟨0, -1, 0⟩ ⟨0, 0, []⟩ [] [] := by
      show ((List.range N).map _).getD i default = _
      rw [List.getD_eq_getElem?_getD, List.getElem?_map, List.getElem?_range (show i < N from hi)]
      rfl
    rw [e]
    exact Rf.inv_new (sv0_fit 0) i (upTo_voters h1 h7)
  · have e : (Rf.Gr.new N).S.getD i default = sv0.pl := by
      show ((List.range N).map _).getD i default = _
      rw [List.getD_eq_getElem?_getD, List.getElem?_map, List.getElem?_range (show i < N from hi)]
      rfl
    rw [e]
    exact ⟨Int.le_refl _, Int.le_refl _, fun i hi => absurd hi (Nat.not_lt_zero i), fun e he => absurd he (by simp [sv0, SvL.pl]), by decide, by decide⟩
  · have e : (Rf.Gr.new N).done.getD i [] = [] := by
      show ((List.range N).map _).getD i [] = _
      rw [List.getD_eq_getElem?_getD, List.getElem?_map, List.getElem?_range (show i < N from hi)]
      rfl
    rw [e]
    exact Nat.le_refl 0
theorem set_last {α : Type} {A : List α} {i : Nat} {x y : α} (h : A.length = i) : (A ++ [x]).set i y = A ++ [y] := by
  subst h
  simp
set_option maxHeartbeats 8000000 in
theorem c23p (N : Nat) (h1 : 1 ≤ N) (h7 : N ≤ 7) :
    Spec Try.prog E 23 [I N] [] (fun v hp => ∃ (b : Nat) (g : GL), v = .ptr 0 b 0 ∧ g.pl = Rf.Gr.new N ∧ g.good N 0 0 0 ∧ g.ok = true ∧ hp = gO b g) := by
  refine Spec.see2 ?_
  generalize hP : SeeP _ = P
  refine spec_of (keep := k23) (args' := [I N]) Try.func23 rfl Try.ntmps23 s23_ok (by simp) ⟨rfl, fun _ h => h⟩ (fun _ _ h => h) (go_ok _ 100 _ _ ?_)
  simp only [go_sem, s23, k23, Nat.reduceBEq, Nat.zero_add]
  intro b
  refine safe_loop (ι := W23 N) (fun w => ⟨[(0, I N), (3, .ptr 0 w.b 0), (4, I w.i)], gO w.b w.g⟩) (fun w => N - w.i)
    ⟨0, Nat.zero_le _, b, g0 N, rfl, rfl, rfl, rfl, rfl, rfl, rfl, rfl, fun a ha => absurd ha (by omega), rfl, rfl⟩ ?_ ?_
  · refine ⟨fun t s ht => ⟨s, envSub_ok (by simp [envSub, look]) t s ht, rfl, fun _ h => h⟩, ?_⟩
    refine Sees.cons (fun ro H hh => ⟨H, [], by simp, cells_imp (cs := [nilS, nilS, nilS, nilS, nilS, nilS, I N, Bl true]) rfl (fun hk => ?_) hh⟩) (Sees.new (nil_ch 24 1 encR) (Sees.new (nil_ch 108 8 encS) (Sees.new (nil_ch 54 15 encM) (Sees.new (nil_ch 36 1 encD) (Sees.new (nil_ch 43 4 encE) (Sees.new (nil_ch 3 1 encI) (Sees.new sep_nil (Sees.new sep_nil (Sees.refl [])))))))))
    simp only [GL.cs, g0, Rw.sv, SV.oks, SV.ok, and_true]
  rintro ⟨i, hi, b, g, hN, hok, hnet, hal, hld, hRl, hS, hDl, hfull, hR, hD⟩
  refine go_ok _ 10 _ _ ?_
  simp only [go_sem, List.cons_append, List.nil_append, Nat.reduceBEq]
  refine ⟨fun hlc => ?_, fun hlc => ?_⟩
  · have hlt : i < N := by have := of_decide_eq_true hlc; omega
    refine go_ok _ 20 _ _ ?_
    simp only [go_sem, List.cons_append, List.nil_append, Nat.reduceBEq, Nat.reduceAdd, Nat.zero_add]
    intro b1
    have hSl : g.S.length = i := by rw [hS]; exact List.length_replicate ..
    refine (stp_app2 (c := 2) (b := g.sw.b) (off := g.sw.off) (nl := g.sw.nl) (n := g.S.length) (cap := g.sw.cap) (x := .osl 9 false b1 0 1 1) (gx := litF 8 [I 0, I (-1), I 0, I 0, I 0, nilS, nilS, nilS]) (m := 1) (f := rowsV encS g.S) (f2 := appF (rowsV encS g.S) g.S.length (litF 8 [I 0, I (-1), I 0, I 0, I 0, nilS, nilS, nilS])) (N := g.S.length + 1) rfl rfl rfl rfl ⟨rfl, rfl, rfl, rfl, by decide⟩ (fun a j ha hj => ?_) (by omega) rfl (fun a j ha hj => rfl) fun nl2 b2 off2 cap2 => ?_).safe trivial
    · obtain rfl : a = 0 := by omega
      have : j = 0 ∨ j = 1 ∨ j = 2 ∨ j = 3 ∨ j = 4 ∨ j = 5 ∨ j = 6 ∨ j = 7 := by omega
      rcases this with rfl | rfl | rfl | rfl | rfl | rfl | rfl | rfl <;> simp [litF, one, Value.oneCell', nilS]
    refine ⟨by simp only [recheck, go_sem], go_ok _ 20 _ _ ?_⟩
    simp only [go_sem, List.cons_append, List.nil_append, Nat.reduceBEq, Nat.reduceAdd, Nat.zero_add]
    intro b3
    refine (stp_app2 (c := 4) (b := g.dw.b) (off := g.dw.off) (nl := g.dw.nl) (n := g.D.length) (cap := g.dw.cap) (x := .osl 10 false b3 0 1 1) (gx := litF 1 [nilS]) (m := 1) (f := rowsV encD g.D) (f2 := appF (rowsV encD g.D) g.D.length (litF 1 [nilS])) (N := g.D.length + 1) rfl rfl rfl rfl ⟨rfl, rfl, rfl, rfl, by decide⟩ (fun a j ha hj => ?_) (by omega) rfl (fun a j ha hj => rfl) fun nl4 b4 off4 cap4 => ?_).safe trivial
    · obtain rfl : a = 0 := by omega
      obtain rfl : j = 0 := by omega
      simp [litF, one, nilS]
    refine ⟨by simp only [recheck, go_sem], go_ok _ 20 _ _ ?_⟩
    simp only [go_sem, List.cons_append, List.nil_append, Nat.reduceBEq, Nat.reduceAdd, Nat.zero_add]
    intro b5
    refine (stp_app2 (c := 1) (b := g.rw.b) (off := g.rw.off) (nl := g.rw.nl) (n := g.R.length) (cap := g.rw.cap) (x := .osl 11 false b5 0 1 1) (gx := litF 1 [.val (.pointer none)]) (m := 1) (f := rowsV encR g.R) (f2 := appF (rowsV encR g.R) g.R.length (litF 1 [.val (.pointer none)])) (N := g.R.length + 1) rfl rfl rfl rfl ⟨rfl, rfl, rfl, rfl, by decide⟩ (fun a j ha hj => ?_) (by omega) rfl (fun a j ha hj => rfl) fun nl6 b6 off6 cap6 => ?_).safe trivial
    · obtain rfl : a = 0 := by omega
      obtain rfl : j = 0 := by omega
      simp [litF, one, Value.oneCell']
    refine ⟨by simp only [recheck, go_sem], go_ok _ 9 _ _ ?_⟩
    simp only [go_sem, List.nil_append, Nat.reduceBEq, Nat.zero_add]
    have hsub : Sees [.cells b 63 [.osl 1 nl6 b6 off6 (g.R.length + 1) cap6, .osl 2 nl2 b2 off2 (g.S.length + 1) cap2, g.nw.sv 3 g.net.length, .osl 4 nl4 b4 off4 (g.D.length + 1) cap4, g.aw.sv 5 g.al.length, g.lw.sv 6 g.ld.length, I g.N, Bl g.ok],
        .row nl6 b6 24 off6 1 (g.R.length + 1) cap6 (appF (rowsV encR g.R) g.R.length (litF 1 [.val (.pointer none)])), .row nl2 b2 108 off2 8 (g.S.length + 1) cap2 (appF (rowsV encS g.S) g.S.length (litF 8 [I 0, I (-1), I 0, I 0, I 0, nilS, nilS, nilS])),
        g.nw.ch 54 15 encM g.net, .row nl4 b4 36 off4 1 (g.D.length + 1) cap4 (appF (rowsV encD g.D) g.D.length (litF 1 [nilS])), g.aw.ch 43 4 encE g.al, g.lw.ch 3 1 encI g.ld, sepC (g.R.map RN.ch), sepC (g.D.map DnL.ch)]
        (gO b { g with rw := ⟨nl6, b6, off6, cap6⟩, R := g.R ++ [none], sw := ⟨nl2, b2, off2, cap2⟩, S := g.S ++ [sv0], dw := ⟨nl4, b4, off4, cap4⟩, D := g.D ++ [dn0] }) := by
      simp only [gO, GL.cs, Rw.ch, Rw.sv, List.length_append, List.length_singleton, List.map_append, List.map_cons, List.map_nil]
      refine Sees.same (Sees.cons (fun ro H hh => ⟨H, [], by simp, row_app (fun j hj => ?_) ro H hh⟩) (Sees.cons (fun ro H hh => ⟨H, [], by simp, row_app (fun j hj => ?_) ro H hh⟩) (Sees.same (Sees.cons (fun ro H hh => ⟨H, [], by simp, row_app (fun j hj => ?_) ro H hh⟩) (Sees.same (Sees.same (Sees.trans (Sees.bagNil emp_sat) (Sees.same (Sees.bagNil (nil_ch 43 4 encE))))))))))
      · obtain rfl : j = 0 := by omega
        exact ⟨rfl, fun _ h => h⟩
      · have : j = 0 ∨ j = 1 ∨ j = 2 ∨ j = 3 ∨ j = 4 ∨ j = 5 ∨ j = 6 ∨ j = 7 := by omega
        rcases this with rfl | rfl | rfl | rfl | rfl | rfl | rfl | rfl
        · exact ⟨rfl, fun _ h => h⟩
        · exact ⟨rfl, fun _ h => h⟩
        · exact ⟨rfl, fun _ h => h⟩
        · exact ⟨rfl, fun _ h => h⟩
        · exact ⟨rfl, fun _ h => h⟩
        · exact ⟨rfl, fun ro _ => nilOk ro 1 _⟩
        · exact ⟨rfl, fun ro _ => nilOk ro 1 _⟩
        · exact ⟨rfl, fun ro _ => nilOk ro 4 _⟩
      · obtain rfl : j = 0 := by omega
        exact ⟨rfl, fun ro _ => by simp [encD, Rw.sv, SV.ok]⟩
    refine Safe.sub (st' := ⟨[(43, I i), (42, .ptr 0 b 0), (0, I N), (3, .ptr 0 b 0), (4, I i)], gO b { g with rw := ⟨nl6, b6, off6, cap6⟩, R := g.R ++ [none], sw := ⟨nl2, b2, off2, cap2⟩, S := g.S ++ [sv0], dw := ⟨nl4, b4, off4, cap4⟩, D := g.D ++ [dn0] }⟩) ⟨fun t s ht => ⟨s, ht, rfl, fun _ h => h⟩, Sees.trans (Sees.left (a := [_, _, _, _, _, _, _, _, _]) (X := [_, _, _])) hsub⟩ ?_
    generalize hG1 : ({ g with rw := ⟨nl6, b6, off6, cap6⟩, R := g.R ++ [none], sw := ⟨nl2, b2, off2, cap2⟩, S := g.S ++ [sv0], dw := ⟨nl4, b4, off4, cap4⟩, D := g.D ++ [dn0] } : GL) = G1
    have e1 : G1.R = g.R ++ [none] := by rw [← hG1]
    have e2 : G1.S = List.replicate (i + 1) sv0 := by rw [← hG1, List.replicate_succ', ← hS]
    have e3 : G1.D = g.D ++ [dn0] := by rw [← hG1]
    have e4 : G1.N = N := by rw [← hG1]; exact hN
    have e5 : G1.ok = true := by rw [← hG1]; exact hok
    have e6 : G1.net = [] := by rw [← hG1]; exact hnet
    have e7 : G1.al = [] := by rw [← hG1]; exact hal
    have e8 : G1.ld = [] := by rw [← hG1]; exact hld
    have e9 : G1.S.getD i default = sv0 := by
      rw [e2, List.getD_eq_getElem?_getD, List.getElem?_replicate, if_pos (by omega)]
      rfl
    refine (stp_call [0, 1, 2, 3, 4, 5, 6, 7, 8] (args := [.ptr 0 b 0, I i]) rfl rfl rfl ⟨_, Try.func58, rfl, rfl⟩ (c58p b G1 i N 0 e4 h1 h7 hlt (by rw [e1, List.length_append, List.length_singleton]; omega) (by rw [e2, List.length_replicate]; omega) (by rw [e3, List.length_append, List.length_singleton]; omega) (by rw [e9]; exact sv0_fit 0) (by decide) (by rw [e9, e7]; decide) (by rw [e7]; decide)) rfl (fun _ h => h) rfl (fun _ _ h => h) ?_).safe trivial
    rintro v hp ⟨G2, k1, k2, ⟨nb, n, dd, k3⟩, rfl⟩
    refine ⟨trivial, go_ok _ 9 _ _ ?_⟩
    simp only [go_sem, List.cons_append, List.nil_append, Nat.reduceBEq]
    refine ⟨by simp only [inI64]; omega, ?_⟩
    have hvo : G1.pl.voters = upTo N := by
      show (List.range G1.N.toNat).map _ = _
      rw [e4, Int.toNat_natCast]; rfl
    have hs0 : G1.pl.S.getD i default = sv0.pl := by rw [getS_pl G1 (by rw [e2, List.length_replicate]; omega), e9]
    have r1 : G2.R.map RN.pl = (List.range (i + 1)).map fun (a : Nat) => Rf.Nd.new a (upTo N) ⟨0, -1, 0⟩ ⟨0, 0, []⟩ [] [] := by
      have q := congrArg Rf.Gr.R k1
      have q2 : (G1.pl.back i).R = G1.pl.R.set i (Rf.Nd.new i G1.pl.voters (G1.pl.S.getD i default).h (G1.pl.S.getD i default).m (G1.pl.S.getD i default).d (G1.pl.S.getD i default).l) := rfl
      have q3 : G1.pl.R = g.R.map RN.pl ++ [RN.pl none] := by show G1.R.map RN.pl = _; rw [e1, List.map_append]; rfl
      rw [q2, hs0, hvo, q3, set_last (by rw [List.length_map]; exact hRl), hR] at q
      rw [List.range_succ, List.map_append]
      exact q
    have r2 : (G2.D.map fun d => d.xs.map Ent.pl) = (List.range (i + 1)).map fun _ => [] := by
      have q := congrArg Rf.Gr.done k1
      have q2 : (G1.pl.back i).done = G1.pl.done.set i (if 0 < (G1.pl.S.getD i default).m.ix then G1.pl.all.take (G1.pl.S.getD i default).m.ix.toNat else []) := rfl
      have q3 : G1.pl.done = (g.D.map fun d => d.xs.map Ent.pl) ++ [[]] := by show (G1.D.map fun d => d.xs.map Ent.pl) = _; rw [e3, List.map_append]; rfl
      rw [q2, hs0, q3, if_neg (by decide), set_last (by rw [List.length_map]; exact hDl), hD] at q
      rw [List.range_succ, List.map_append]
      exact q
    refine safe_lend (⟨i + 1, hlt, b, G2, by rw [k3]; exact e4, k2.trans e5, by rw [k3]; exact e6, by rw [k3]; exact e7, by rw [k3]; exact e8, ?_, by rw [k3]; exact e2, ?_, ?_, r1, r2⟩ : W23 N) (by simp only; omega) (Sub.front (X := []) (by simp [envSub, look]) rfl)
    · have q := congrArg List.length r1
      rw [List.length_map, List.length_map, List.length_range] at q
      exact q
    · have q := congrArg List.length r2
      rw [List.length_map, List.length_map, List.length_range] at q
      exact q
    · intro a ha
      rw [k3]
      dsimp only
      rw [e1]
      by_cases hai : a = i
      · subst hai
        exact ⟨nb, n, List.getElem?_set_self (by rw [List.length_append, List.length_singleton]; omega)⟩
      · rw [List.getElem?_set_ne (Ne.symm hai), List.getElem?_append_left (by omega)]
        exact hfull a (by omega)
  · have hcl : i = N := by have := of_decide_eq_false hlc; omega
    subst hcl
    refine go_ok _ 20 _ _ ?_
    simp only [go_sem, List.nil_append, Nat.reduceBEq, Try.results23]
    have hpl : g.pl = Rf.Gr.new i := by
      have e1 : g.S.map SvL.pl = (List.range i).map fun _ => (⟨⟨0, -1, 0⟩, ⟨0, 0, []⟩, [], []⟩ : Rf.Sv) := by
        rw [hS, map_const, List.map_replicate]
        rfl
      unfold GL.pl
      rw [hR, e1, hD, hnet, hal, hld, hN]
      rfl
    rw [← hP]
    exact ⟨_, _, rfl, fun _ h => h, Sees.refl _, b, g, rfl, hpl, ⟨by rw [hpl]; exact new_inv h1 h7, hN, hfull⟩, hok, rfl⟩
end Go.SX

/- Contracts of the raft laws: the chapter's example. -/
namespace Go.SX
open Go.Proofs
set_option maxRecDepth 1000000
variable {E : Env}

theorem newOk {ro : RO} {id t v c : Int} {x y1 y2 y3 : SV} (h : SV.oks ro [I id, x, .agg [I t, I v, I c], .agg [I 0, I 0, y1], y2, y3]) : SV.oks ro [I id, x, .agg [I t, I v, I c], .agg [I 0, I 0, vI none 0 []], vB none 0 [], vE none 0 []] := by
  simp only [SV.oks] at h ⊢
  exact ⟨h.1, h.2.1, h.2.2.1, by simp only [SV.ok, SV.oks]; exact ⟨trivial, trivial, nilOk _ _ _, trivial⟩, nilOk _ _ _, nilOk _ _ _, trivial⟩
def kn : Nat → Rf.Nd
  | 0 => Rf.Nd.new 3 [3] ⟨0, -1, 0⟩ ⟨0, 0, []⟩ [] []
  | c + 1 => (kn c).tick 0
theorem kn_res : ((kn 10).propose [120]).1 = (2, 1, 0) ∧ ((kn 10).propose [120]).2.role = 2 ∧ ((kn 10).propose [120]).2.hd.cm = 2 := by decide +kernel
theorem kn_inv : ∀ c, (kn c).inv (3 * c) (21 * c)
  | 0 => Rf.inv_new (sv0_fit 0) 3 (vs := [3]) (by decide)
  | c + 1 => Rf.inv_tick (kn_inv c) 0
theorem okB1 (x : UInt8) : Rf.okB [x] := ⟨by rw [List.length_singleton]; decide, fun c => by
  rw [List.drop_of_length_le (by rw [List.length_singleton]; omega)]
  exact (by decide : Rf.beN ([] : List UInt8) < 2 ^ 63)⟩
structure W12 where
  c : Nat
  hc : c ≤ 10
  b : Nat
  n : NL
  eq : n.nd = kn c
set_option maxHeartbeats 4000000 in
theorem c12p : Spec Try.prog E 12 [] [] (fun v _ => v = Bl true) := by
  refine spec_of (keep := k12) (args' := []) Try.func12 rfl Try.ntmps12 s12_ok (by simp) ⟨rfl, fun _ h => h⟩ (fun _ _ h => h) (go_ok _ 7 _ _ ?_)
  simp only [go_sem, s12, k12, Nat.reduceBEq, Nat.zero_add]
  intro b1
  refine safe_frz2 (hp := []) (f' := rowsV encI [3]) (fun i j hi hj => ?_) ?_
  · obtain rfl : i = 0 := by omega
    obtain rfl : j = 0 := by omega
    rfl
  refine go_ok _ 100 _ _ ?_
  simp only [go_sem, frz, Nat.zero_add, if_false]
  refine (stp_call [] (args := [I 3, vI (some ⟨b1, 0, none⟩) 1 [3], .agg [I 0, I (-1), I 0], .agg [I 0, I 0, vI none 0 []], vB none 0 [], vE none 0 []]) rfl rfl rfl ⟨_, Try.func13, rfl, rfl⟩
    (c13p 0 0 3 (some ⟨b1, 0, none⟩) 1 [3] sv0.pl none 0 none 0 none 0 [] rfl (sv0_fit 0) (by decide) (by decide) (by decide)) rfl (fun _ h => newOk h) rfl (fun _ _ h => h) ?_).safe trivial
  rintro v hp ⟨b, n, rfl, hn, rfl⟩
  refine ⟨trivial, go_ok _ 100 _ _ ?_⟩
  simp only [go_sem, List.cons_append, List.nil_append, Nat.reduceBEq, Try.results12]
  refine ⟨fun h => absurd h (by decide), fun _ => ?_⟩
  refine safe_loop (ι := W12) (fun w => ⟨[(0, Bl false), (1, .ptr 0 w.b 0), (3, I w.c)], nO w.b w.n⟩) (fun w => 10 - w.c) ⟨0, Nat.zero_le _, b, n, hn⟩
    (Sub.front (X := []) (by simp [envSub, look]) rfl) ?_
  rintro ⟨c, hc, b, n, hn⟩
  have hinv := kn_inv c
  rw [← hn] at hinv
  refine go_ok _ 100 _ _ ?_
  simp only [go_sem, List.cons_append, List.nil_append, Nat.reduceBEq, Nat.reduceAdd, Nat.zero_add]
  refine ⟨fun h => ?_, fun h => ?_⟩
  · have hlt : c < 10 := by have := of_decide_eq_true h; omega
    refine (stp_call [0, 1, 2, 3, 4, 5, 6] (args := [.ptr 0 b 0, I 0]) rfl rfl rfl ⟨_, Try.func15, rfl, rfl⟩ (c15p b n 0 hinv (by omega) (by omega)) rfl (fun _ h => h) rfl (fun _ _ h => h) ?_).safe trivial
    rintro v hp ⟨n', hn', rfl⟩
    refine ⟨trivial, go_ok _ 100 _ _ ?_⟩
    simp only [go_sem, List.cons_append, List.nil_append, Nat.reduceBEq]
    refine ⟨by simp only [inI64]; omega, ?_⟩
    exact safe_lend (⟨c + 1, hlt, b, n', by rw [hn', hn]; rfl⟩ : W12) (by simp only; omega) (Sub.front (X := []) (by simp [envSub, look]) rfl)
  · have h10 : c = 10 := by have := of_decide_eq_false h; omega
    subst h10
    intro b2
    obtain ⟨r1, r2, r3⟩ := kn_res
    refine Stp.safeE (stp_conv (xo := .t 28) (e := 5) (c := 7) (b := b2) (off := 0) (n := 1) (cap := 1) (off' := 0) (sz := 1) (n' := 1) (cap' := 1) (T := 5) (f := litF 1 [.val (.int .u8 120)]) rfl (by kernel_rfl) (by kernel_rfl) rfl rfl trivial ?_) rfl
    refine safe_frz2 (hp := nO b n) (f' := rowsV encB [120]) (fun i j hi hj => ?_) ?_
    · obtain rfl : i = 0 := by omega
      obtain rfl : j = 0 := by omega
      rfl
    refine go_ok _ 2 _ _ ?_
    simp only [go_sem, frz, if_false]
    refine (stp_call [0, 1, 2, 3, 4, 5, 6] (args := [.ptr 0 b 0, vB (some ⟨b2, 0, none⟩) 1 [120]]) rfl rfl rfl ⟨_, Try.func17, rfl, rfl⟩
      (c17p b n (some ⟨b2, 0, none⟩) 1 [120] hinv (fun _ => okB1 _) (by decide) (by decide) (by decide)) rfl (fun _ h => h) rfl (fun _ _ h => h) ?_).safe trivial
    rintro v hp ⟨rfl, n2, hn2, rfl⟩
    rw [hn, r1]
    rw [hn] at hn2
    refine ⟨trivial, go_ok _ 100 _ _ ?_⟩
    simp only [go_sem, List.cons_append, List.nil_append, Nat.reduceBEq]
    refine (stp_call [0, 1, 2, 3, 4, 5, 6] (args := [.ptr 0 b 0]) rfl rfl rfl ⟨_, Try.func14, rfl, rfl⟩ (c14n b n2) rfl (fun _ h => h) rfl (fun _ _ h => h) ?_).safe trivial
    rintro v hp ⟨rfl, rfl⟩
    rw [hn2, r2]
    refine ⟨trivial, go_ok _ 100 _ _ ?_⟩
    simp only [go_sem, List.cons_append, List.nil_append, Nat.reduceBEq, reduceCtorEq]
    refine ⟨?_, rfl⟩
    refine Stp.safeOn ?_ trivial
    refine stp_call [0, 1, 2, 3, 4, 5, 6] (args := [.ptr 0 b 0]) rfl rfl rfl ⟨_, Try.func19, rfl, rfl⟩ (c19n b n2) rfl (fun _ h => unc_oks h) (by simp [callIdx]) (fun _ _ h => h) ?_
    rintro v hp ⟨rfl, rfl⟩
    rw [hn2, r3]
    refine ⟨trivial, go_ok _ 100 _ _ ?_⟩
    simp only [go_sem, List.cons_append, List.nil_append, Nat.reduceBEq, reduceCtorEq, Try.results12]
end Go.SX

/- Raft, plainly: most of the others away. -/
namespace Go.SX.Rf
set_option maxRecDepth 100000

def tick0 : Nat → Nd → Nd
  | 0, n => n
  | c + 1, n => tick0 c (n.tick 0)
/-- many are told it: which of them wait -/
def prop : Nat → Nat → Nd → Int → Int → Option (Nd × Int)
  | 0, _, n, _, last => some (n, last)
  | c + 1, k, n, was, last =>
    if ((n.propose [UInt8.ofNat ((k : Int) % 256).toNat]).1.2.2 = 0) ≠ (last - was < 64) ∨ ((n.propose [UInt8.ofNat ((k : Int) % 256).toNat]).1.2.2 ≠ 0 ∧ (n.propose [UInt8.ofNat ((k : Int) % 256).toNat]).1.2.2 ≠ 14) then none
    else if (n.propose [UInt8.ofNat ((k : Int) % 256).toNat]).1.2.2 = 0 then (if (n.propose [UInt8.ofNat ((k : Int) % 256).toNat]).1.1 = last + 1 then prop c (k + 1) (n.propose [UInt8.ofNat ((k : Int) % 256).toNat]).2 was (last + 1) else none)
    else prop c (k + 1) (n.propose [UInt8.ofNat ((k : Int) % 256).toNat]).2 was last
def after (n : Nd) (was last : Int) : Bool :=
  let r := n.read 4
  let o := (tick0 30 r.2).ready
  decide (r.1 = 0) && (decide (o.2.hd.cm = was) && (decide (o.1.rs = []) && decide ((o.1.es.length : Int) = last - was)))
def waits (n : Nd) (many : Nat) : Bool :=
  match prop many 0 n n.hd.cm n.hd.cm with
  | none => false
  | some (m, last) => after m n.hd.cm last
theorem ev3 : ((Gr.quietsC 40 (Gr.new 3)).map fun g => decide ((g.R.getD 0 default).role = 2) && (List.range 90).all fun k => waits (g.R.getD 0 default) k) = some true := by decide +kernel
theorem ev4 : ((Gr.quietsC 40 (Gr.new 4)).map fun g => decide ((g.R.getD 0 default).role = 2) && (List.range 90).all fun k => waits (g.R.getD 0 default) k) = some true := by decide +kernel
theorem ev5 : ((Gr.quietsC 40 (Gr.new 5)).map fun g => decide ((g.R.getD 0 default).role = 2) && (List.range 90).all fun k => waits (g.R.getD 0 default) k) = some true := by decide +kernel
end Go.SX.Rf

/- Raft, the law: with most of the others away nothing is committed. -/
namespace Go.SX
open Go.Proofs
set_option maxRecDepth 1000000
variable {E : Env}

theorem ev {N : Nat} (h3 : 3 ≤ N) (h5 : N ≤ 5) : ∃ g, Rf.Gr.quietsC 40 (Rf.Gr.new N) = some g ∧ (g.R.getD 0 default).role = 2 ∧ ∀ m, m < 90 → Rf.waits (g.R.getD 0 default) m = true := by
  have key : ∀ N, ((Rf.Gr.quietsC 40 (Rf.Gr.new N)).map fun g => decide ((g.R.getD 0 default).role = 2) && (List.range 90).all fun k => Rf.waits (g.R.getD 0 default) k) = some true → ∃ g, Rf.Gr.quietsC 40 (Rf.Gr.new N) = some g ∧ (g.R.getD 0 default).role = 2 ∧ ∀ m, m < 90 → Rf.waits (g.R.getD 0 default) m = true := by
    intro N h
    rw [Option.map_eq_some_iff] at h
    obtain ⟨g, h1, h2⟩ := h
    rw [Bool.and_eq_true] at h2
    exact ⟨g, h1, of_decide_eq_true h2.1, fun m hm => List.all_eq_true.1 h2.2 m (List.mem_range.2 hm)⟩
  have : N = 3 ∨ N = 4 ∨ N = 5 := by omega
  rcases this with rfl | rfl | rfl
  · exact key 3 Rf.ev3
  · exact key 4 Rf.ev4
  · exact key 5 Rf.ev5
/-- quiet rounds so far -/
structure W5a (N : Nat) where
  c : Nat
  hc : c ≤ 40
  b : Nat
  g : GL
  gd : g.good N (2100 * c) 0 70000
  eq : Rf.Gr.quietsC 40 (Rf.Gr.new N) = Rf.Gr.quietsC (40 - c) g.pl
/-- a node of a group -/
structure At0 (g : GL) (nb : Nat) (n : NL) (K j : Nat) : Prop where
  R : g.R[0]? = some (some (nb, n))
  inv : n.nd.inv K j
theorem At0.row {g : GL} {nb : Nat} {n : NL} {K j : Nat} (h : At0 g nb n K j) : rowsV encR g.R 0 0 = .ptr 0 nb 0 := encR_at h.R
theorem At0.len {g : GL} {nb : Nat} {n : NL} {K j : Nat} (h : At0 g nb n K j) : 0 < g.R.length := (List.getElem?_eq_some_iff.1 h.R).1
theorem At0.set {g : GL} {nb : Nat} {n n' : NL} {K j K' j' : Nat} (h : At0 g nb n K j) (hi : n'.nd.inv K' j') : At0 (g.setR 0 nb n') nb n' K' j' := ⟨List.getElem?_set_self h.len, hi⟩
structure W5b (n0 : Rf.Nd) (m K : Nat) where
  k : Nat
  hk : k ≤ m
  g : GL
  nb : Nat
  n : NL
  at0 : At0 g nb n (K + k) (14 * k)
  last : Int
  hl : n0.hd.cm ≤ last ∧ last ≤ n0.hd.cm + k
  eq : Rf.prop m 0 n0 n0.hd.cm n0.hd.cm = Rf.prop (m - k) k n.nd n0.hd.cm last
structure W5c (n1 : Rf.Nd) (K J : Nat) where
  k : Nat
  hk : k ≤ 30
  g : GL
  nb : Nat
  n : NL
  at0 : At0 g nb n (K + 3 * k) (J + 21 * k)
  eq : Rf.tick0 30 n1 = Rf.tick0 (30 - k) n.nd
set_option maxHeartbeats 16000000 in
theorem c5p (x y : Int) : Spec Try.prog E 5 [I x, I y] [] (fun v _ => v = Bl true) := by
  obtain ⟨N, hN, hN3, hN5⟩ : ∃ N : Nat, 3 + x % 3 = N ∧ 3 ≤ N ∧ N ≤ 5 := ⟨(3 + x % 3).toNat, by omega, by omega, by omega⟩
  obtain ⟨m, hm, hm9⟩ : ∃ m : Nat, y % 90 = m ∧ m < 90 := ⟨(y % 90).toNat, by omega, by omega⟩
  obtain ⟨ge, he1, he2, he3⟩ := ev hN3 hN5
  have hw := he3 m hm9
  refine spec_of (keep := k5) (args' := [I x, I y]) Try.func5 rfl Try.ntmps5 s5_ok (by simp) ⟨rfl, fun _ h => h⟩ (fun _ _ h => h) (go_ok _ 20 _ _ ?_)
  simp only [go_sem, s5, k5, Nat.reduceBEq, Nat.zero_add]
  refine (stp_call [] rfl rfl rfl ⟨_, Try.func12, rfl, rfl⟩ (c12p.leave (Post' := fun v hp => v = Bl true ∧ hp = []) fun _ hp h => ⟨[], hp, rfl, h, rfl⟩) rfl (fun _ h => h) rfl (fun _ _ h => h) ?_).safe trivial
  rintro v hp ⟨rfl, rfl⟩
  refine ⟨trivial, go_ok _ 20 _ _ ?_⟩
  simp only [go_sem, Nat.reduceBEq, Try.results5]
  refine (stp_call [] (args := [I x, I 3]) rfl rfl rfl ⟨_, Try.func21, rfl, rfl⟩ (c21 x 3 (by decide) (by decide)) rfl (fun _ h => h) rfl (fun _ _ h => h) ?_).safe trivial
  rintro v hp ⟨rfl, rfl⟩
  refine ⟨trivial, go_ok _ 1 _ _ ?_⟩
  simp only [go_sem, Nat.reduceBEq]
  refine ⟨by simp only [inI64]; omega, ?_⟩
  rw [hN]
  refine (stp_call [] (args := [I N]) rfl rfl rfl ⟨_, Try.func23, rfl, rfl⟩ (c23p N (by omega) (by omega)) rfl (fun _ h => h) rfl (fun _ _ h => h) ?_).safe trivial
  rintro v hp ⟨b, g, rfl, hpl, gd, gok, rfl⟩
  refine ⟨trivial, go_ok _ 20 _ _ ?_⟩
  simp only [go_sem, Nat.reduceBEq]
  refine safe_loop (ι := W5a N) (fun w => ⟨[(1, I y), (5, .ptr 0 w.b 0), (6, I w.c)], gO w.b w.g⟩) (fun w => 40 - w.c)
    ⟨0, Nat.zero_le _, b, g, ⟨gd.inv.mono (Nat.zero_le _) (Nat.le_refl _) (by decide), gd.N', gd.full⟩, by rw [hpl]⟩ (Sub.front (X := []) (by simp [envSub, look]) rfl) ?_
  rintro ⟨c, hc, b, g, gd, heq⟩
  refine go_ok _ 10 _ _ ?_
  simp only [go_sem, List.cons_append, List.nil_append, Nat.reduceBEq]
  refine ⟨fun hlc => ?_, fun hlc => ?_⟩
  · have hlt : c < 40 := by have := of_decide_eq_true hlc; omega
    refine go_ok _ 5 _ _ ?_
    simp only [go_sem, Nat.reduceBEq]
    have hst : Rf.Gr.quietsC (40 - c) g.pl = g.pl.quietC.bind (Rf.Gr.quietsC (40 - (c + 1))) := by rw [show 40 - c = (40 - (c + 1)) + 1 by omega]; rfl
    refine (stp_call [0, 1, 2, 3, 4, 5, 6, 7, 8] (args := [.ptr 0 b 0]) rfl rfl rfl ⟨_, Try.func24, rfl, rfl⟩ (c24p b g (by omega) (by omega) gd) rfl (fun _ h => h) rfl (fun _ _ h => h) ?_).safe trivial
    rintro v hp (hnone | ⟨rfl, G, k1, k2, k3, rfl⟩)
    · rw [heq, hst, hnone] at he1
      cases he1
    · refine ⟨trivial, go_ok _ 10 _ _ ?_⟩
      simp only [go_sem, List.cons_append, List.nil_append, Nat.reduceBEq, Try.results5]
      refine ⟨by simp only [inI64]; omega, ?_⟩
      exact safe_lend (⟨c + 1, hlt, b, G, ⟨k3.inv.mono (by omega) (Nat.le_refl _) (Nat.le_refl _), k3.N', k3.full⟩, by rw [heq, hst, k1]; rfl⟩ : W5a N) (by simp only; omega) (Sub.front (X := []) (by simp [envSub, look]) rfl)
  · have hcl : c = 40 := by have := of_decide_eq_false hlc; omega
    subst hcl
    rw [heq] at he1
    simp only [Nat.sub_self, Rf.Gr.quietsC, Option.some.injEq] at he1
    subst he1
    obtain ⟨nb, n, hR, hRi, hnd, hn⟩ := gd.node (show 0 < N by omega)
    rw [hnd] at he2 hw
    have hcm1 : n.nd.hd.cm ≤ 2100 * 40 := Int.le_trans hn.c1 hn.i1
    have hcm0 := hn.c0
    have hGN := gd.N'
    have hRl := gd.Rl
    refine go_ok _ 10 _ _ ?_
    simp only [go_sem, List.nil_append, Nat.reduceBEq]
    refine safe_loop (ι := Unit) (fun _ => ⟨[(1, I y), (5, .ptr 0 b 0), (7, I 0)], gO b g⟩) (fun _ => 0)
      () (Sub.front (X := []) (by simp [envSub, look]) rfl) ?_
    rintro ⟨⟩
    refine go_ok _ 12 _ _ ?_
    simp only [go_sem, List.cons_append, List.nil_append, Nat.reduceBEq, Nat.zero_add]
    refine ⟨fun _ => ?_, fun h => absurd (of_decide_eq_false h) (by omega)⟩
    refine go_ok _ 12 _ _ ?_
    simp only [go_sem, hRi, Int.toNat_zero, Nat.reduceBEq, Nat.zero_add]
    refine ⟨⟨by omega, by omega, Nat.le_refl _⟩, ⟨by omega, by decide⟩, ?_⟩
    refine (stp_call [0, 1, 2, 3, 4, 5, 6, 7, 8] (args := [.ptr 0 nb 0]) rfl rfl rfl ⟨_, Try.func14, rfl, rfl⟩ (Spec.node ((c14n nb n).post (Post' := fun v hp => ∃ N : NL, (v = I n.nd.role ∧ N = n) ∧ hp = nO nb N) fun v hp ⟨h1, h2⟩ => ⟨n, ⟨h1, rfl⟩, h2⟩) b g hR) rfl (fun _ h => h) rfl (fun _ _ h => h) ?_).safe trivial
    rintro v hp ⟨n', ⟨rfl, hn'⟩, rfl⟩
    rw [hn', setR_same hR, he2]
    refine ⟨trivial, go_ok _ 9 _ _ ?_⟩
    simp only [go_sem, List.cons_append, List.nil_append, Nat.reduceBEq, Nat.zero_add]
    refine ⟨fun h => absurd h (by decide), fun _ => ?_⟩
    refine go_ok _ 12 _ _ ?_
    simp only [go_sem, hRi, Int.toNat_zero, Nat.reduceBEq]
    refine ⟨⟨by omega, by omega, Nat.le_refl _⟩, ⟨by omega, by decide⟩, ?_⟩
    refine (stp_call [0, 1, 2, 3, 4, 5, 6, 7, 8] (args := [.ptr 0 nb 0]) rfl rfl rfl ⟨_, Try.func19, rfl, rfl⟩ (Spec.node ((c19n nb n).post (Post' := fun v hp => ∃ N : NL, (v = .agg [I n.nd.hd.tm, I n.nd.hd.vote, I n.nd.hd.cm] ∧ N = n) ∧ hp = nO nb N) fun v hp ⟨h1, h2⟩ => ⟨n, ⟨h1, rfl⟩, h2⟩) b g hR) rfl (fun _ h => h) rfl (fun _ _ h => h) ?_).safe trivial
    rintro v hp ⟨n', ⟨rfl, hn'⟩, rfl⟩
    rw [hn', setR_same hR]
    refine ⟨trivial, go_ok _ 20 _ _ ?_⟩
    simp only [go_sem, List.cons_append, List.nil_append, Nat.reduceBEq]
    obtain ⟨mf, lf, hpr, haf⟩ : ∃ mf lf, Rf.prop m 0 n.nd n.nd.hd.cm n.nd.hd.cm = some (mf, lf) ∧ Rf.after mf n.nd.hd.cm lf = true := by
      unfold Rf.waits at hw
      rcases hp : Rf.prop m 0 n.nd n.nd.hd.cm n.nd.hd.cm with _ | ⟨mf, lf⟩
      · rw [hp] at hw; cases hw
      · rw [hp] at hw; exact ⟨mf, lf, rfl, hw⟩
    generalize hwas : n.nd.hd.cm = was at *
    refine safe_loop (ι := W5b n.nd m (2100 * 40)) (fun w => ⟨[(1, I y), (5, .ptr 0 b 0), (7, I 0), (8, I was), (9, I w.last), (10, I w.k)], gO b w.g⟩) (fun w => m - w.k)
      ⟨0, Nat.zero_le _, g, nb, n, ⟨hR, hn⟩, was, ⟨by omega, by omega⟩, by rw [hwas]; rfl⟩ (Sub.front (X := []) (by simp [envSub, look]) rfl) ?_
    rintro ⟨k, hk, g1, nb1, n1, at1, last, hlast, heq1⟩
    rw [hwas] at hlast heq1
    have hR1 := at1.row
    have hl1 := at1.len
    refine go_ok _ 12 _ _ ?_
    simp only [go_sem, Nat.reduceBEq]
    refine (stp_call [] (args := [I y, I 90]) rfl rfl rfl ⟨_, Try.func21, rfl, rfl⟩ (c21 y 90 (by decide) (by decide)) rfl (fun _ h => h) rfl (fun _ _ h => h) ?_).safe trivial
    rintro v hp ⟨rfl, rfl⟩
    rw [hm]
    refine ⟨trivial, go_ok _ 3 _ _ ?_⟩
    simp only [go_sem, List.cons_append, List.nil_append, Nat.reduceBEq]
    refine ⟨fun hkm => ?_, fun hkm => ?_⟩
    · have hlt : k < m := by have := of_decide_eq_true hkm; omega
      refine go_ok _ 20 _ _ ?_
      simp only [go_sem, hR1, Int.toNat_zero, List.cons_append, List.nil_append, Nat.reduceBEq, Nat.reduceAdd, Nat.zero_add]
      refine ⟨⟨by omega, by omega, Nat.le_refl _⟩, ⟨by omega, by decide⟩, fun b2 => ?_⟩
      refine safe_frzA (c := 9) (rowsV encB [by8 (k : Int)]) rfl (fun i j hi hj => ?_) (by simp [frzOk, frzOk1]) ?_
      · obtain rfl : i = 0 := by omega
        obtain rfl : j = 0 := by omega
        simp only [litF, rowsB, List.getD_cons_zero, Nat.zero_mul, Nat.add_zero, by8_val]
      simp only [go_sem, Nat.reduceBEq]
      have hpk : Rf.prop (m - k) k n1.nd was last = (if ((n1.nd.propose [by8 (k : Int)]).1.2.2 = 0) ≠ (last - was < 64) ∨ ((n1.nd.propose [by8 (k : Int)]).1.2.2 ≠ 0 ∧ (n1.nd.propose [by8 (k : Int)]).1.2.2 ≠ 14) then none
        else if (n1.nd.propose [by8 (k : Int)]).1.2.2 = 0 then (if (n1.nd.propose [by8 (k : Int)]).1.1 = last + 1 then Rf.prop (m - (k + 1)) (k + 1) (n1.nd.propose [by8 (k : Int)]).2 was (last + 1) else none)
        else Rf.prop (m - (k + 1)) (k + 1) (n1.nd.propose [by8 (k : Int)]).2 was last) := by
        rw [show m - k = (m - (k + 1)) + 1 by omega, Rf.prop]
        rfl
      rw [heq1] at hpr
      have hin := Rf.inv_propose at1.inv (okB1 (by8 (k : Int)))
      refine (stp_call [0, 1, 2, 3, 4, 5, 6, 7, 8] (args := [.ptr 0 nb1 0, vB (some ⟨b2, 0, none⟩) 1 [by8 (k : Int)]]) rfl rfl rfl ⟨_, Try.func17, rfl, rfl⟩ (Spec.node ((c17p nb1 n1 (some ⟨b2, 0, none⟩) 1 [by8 (k : Int)] at1.inv (fun _ => okB1 _) (by rw [List.length_singleton]; decide) (by omega) (by omega)).post (Post' := fun v hp => ∃ N : NL, (v = .tup [I (n1.nd.propose [by8 (k : Int)]).1.1, I (n1.nd.propose [by8 (k : Int)]).1.2.1, I (n1.nd.propose [by8 (k : Int)]).1.2.2] ∧ N.nd = (n1.nd.propose [by8 (k : Int)]).2) ∧ hp = nO nb1 N) fun v hp ⟨h1, N, h2, h3⟩ => ⟨N, ⟨h1, h2⟩, h3⟩) b g1 at1.R) rfl (fun _ h => h) rfl (fun _ _ h => h) ?_).safe trivial
      rintro v hp ⟨n2, ⟨rfl, hn2⟩, rfl⟩
      rw [hpk] at hpr
      rw [hpk] at heq1
      rw [← hn2] at hin hpr heq1
      have at2 := at1.set hin
      generalize (n1.nd.propose [by8 (k : Int)]).1 = r at *
      obtain ⟨ra, rb, re⟩ := r
      dsimp only at hpr heq1 ⊢
      generalize g1.setR 0 nb1 n2 = g2 at *
      refine ⟨trivial, go_ok _ 10 _ _ ?_⟩
      simp only [go_sem, List.cons_append, List.nil_append, Nat.reduceBEq]
      have hsub : inI64 (last - was) := by simp only [inI64]; omega
      have hinc : inI64 (last + 1) := by simp only [inI64]; omega
      have hinc2 : inI64 ((k : Int) + 1) := by simp only [inI64]; omega
      by_cases hc0 : ((re = 0) ≠ (last - was < 64)) ∨ (re ≠ 0 ∧ re ≠ 14)
      · rw [if_pos hc0] at hpr
        cases hpr
      rw [if_neg hc0] at hpr heq1
      rcases d1 : decide (re = 0) with _ | _
      · have e1 : ¬ re = 0 := of_decide_eq_false d1
        have e2 : ¬ last - was < 64 := fun h => hc0 (.inl (by simp [e1, h]))
        have e3 : re = 14 := Decidable.byContradiction fun h => hc0 (.inr ⟨e1, h⟩)
        have d2 : decide (last - was < 64) = false := decide_eq_false e2
        have d3 : decide (re ≠ 0) = true := decide_eq_true e1
        have d4 : decide (re ≠ 14) = false := by simp [e3]
        rw [if_neg e1] at hpr heq1
        refine go_ok _ 40 _ _ ?_
        simp only [go_sem, d1, d2, d3, d4, List.cons_append, List.nil_append, Nat.reduceBEq, Try.results5]
        exact ⟨hsub, hinc2, safe_lend (⟨k + 1, hlt, g2, nb1, n2, at2, last, ⟨by rw [hwas]; omega, by rw [hwas]; omega⟩, by rw [hwas]; exact heq1⟩ : W5b n.nd m (2100 * 40)) (by simp only; omega) (Sub.front (X := [.emp]) (by simp [envSub, look]) rfl)⟩
      · have e1 : re = 0 := of_decide_eq_true d1
        have e2 : last - was < 64 := Decidable.byContradiction fun h => hc0 (.inl (by simp [e1, h]))
        have d2 : decide (last - was < 64) = true := decide_eq_true e2
        have d3 : decide (re ≠ 0) = false := by simp [e1]
        rw [if_pos e1] at hpr heq1
        have e4 : ra = last + 1 := Decidable.byContradiction fun h => by rw [if_neg h] at hpr; cases hpr
        rw [if_pos e4] at hpr heq1
        have d4 : decide (ra ≠ last + 1) = false := by simp [e4]
        refine go_ok _ 60 _ _ ?_
        simp only [go_sem, d1, d2, d3, d4, List.cons_append, List.nil_append, Nat.reduceBEq, Try.results5]
        refine ⟨hsub, ⟨hinc, hinc2, ?_⟩, fun h => absurd h (by decide)⟩
        exact safe_lend (⟨k + 1, hlt, g2, nb1, n2, at2, last + 1, ⟨by rw [hwas]; omega, by rw [hwas]; omega⟩, by rw [hwas]; exact heq1⟩ : W5b n.nd m (2100 * 40)) (by simp only; omega) (Sub.front (X := [.emp]) (by simp [envSub, look]) rfl)
    · have hkm' : k = m := by have := of_decide_eq_false hkm; omega
      subst hkm'
      rw [heq1, Nat.sub_self, Rf.prop] at hpr
      injection hpr with hpr
      injection hpr with hp1 hp2
      subst hp1 hp2
      clear heq1
      refine go_ok _ 14 _ _ ?_
      simp only [go_sem, hR1, Int.toNat_zero, Nat.reduceBEq, Nat.zero_add]
      refine ⟨⟨by omega, by omega, Nat.le_refl _⟩, ⟨by omega, by decide⟩, ?_⟩
      unfold Rf.after at haf
      simp only [Bool.and_eq_true, decide_eq_true_eq] at haf
      obtain ⟨f1, f2, f3, f4⟩ := haf
      have hin := Rf.inv_read at1.inv 4
      refine (stp_call [0, 1, 2, 3, 4, 5, 6, 7, 8] (args := [.ptr 0 nb1 0, I 4]) rfl rfl rfl ⟨_, Try.func18, rfl, rfl⟩ (Spec.node ((c18p nb1 n1 4 at1.inv (by omega) (by omega)).post (Post' := fun v hp => ∃ N : NL, (v = I (n1.nd.read 4).1 ∧ N.nd = (n1.nd.read 4).2) ∧ hp = nO nb1 N) fun v hp ⟨h1, N, h2, h3⟩ => ⟨N, ⟨h1, h2⟩, h3⟩) b g1 at1.R) rfl (fun _ h => h) rfl (fun _ _ h => h) ?_).safe trivial
      rintro v hp ⟨n2, ⟨rfl, hn2⟩, rfl⟩
      rw [f1]
      rw [← hn2] at hin f2 f3 f4
      have at2 := at1.set hin
      generalize g1.setR 0 nb1 n2 = g2 at *
      refine ⟨trivial, go_ok _ 20 _ _ ?_⟩
      simp only [go_sem, List.cons_append, List.nil_append, Nat.reduceBEq, Try.results5]
      refine ⟨fun h => absurd h (by decide), fun _ => ?_⟩
      refine safe_loop (ι := W5c n2.nd (2100 * 40 + k + 1) (14 * k + 7)) (fun w => ⟨[(5, .ptr 0 b 0), (7, I 0), (8, I was), (9, I last), (14, I w.k)], gO b w.g⟩) (fun w => 30 - w.k)
        ⟨0, by decide, g2, nb1, n2, at2, rfl⟩ (Sub.front (X := []) (by simp [envSub, look]) rfl) ?_
      rintro ⟨d, hd, g3, nb3, n3, at3, heq3⟩
      have hR3 := at3.row
      have hl3 := at3.len
      refine go_ok _ 12 _ _ ?_
      simp only [go_sem, List.cons_append, List.nil_append, Nat.reduceBEq]
      refine ⟨fun hdm => ?_, fun hdm => ?_⟩
      · have hdlt : d < 30 := by have := of_decide_eq_true hdm; omega
        refine go_ok _ 14 _ _ ?_
        simp only [go_sem, hR3, Int.toNat_zero, Nat.reduceBEq, Nat.zero_add]
        refine ⟨⟨by omega, by omega, Nat.le_refl _⟩, ⟨by omega, by decide⟩, ?_⟩
        have hti := Rf.inv_tick at3.inv 0
        refine (stp_call [0, 1, 2, 3, 4, 5, 6, 7, 8] (args := [.ptr 0 nb3 0, I 0]) rfl rfl rfl ⟨_, Try.func15, rfl, rfl⟩ (Spec.node ((c15p nb3 n3 0 at3.inv (by omega) (by omega)).post (Post' := fun v hp => ∃ N : NL, N.nd = n3.nd.tick 0 ∧ hp = nO nb3 N) fun v hp h => h) b g3 at3.R) rfl (fun _ h => h) rfl (fun _ _ h => h) ?_).safe trivial
        rintro v hp ⟨n4, hn4, rfl⟩
        rw [← hn4] at hti
        have at4 := at3.set hti
        refine ⟨trivial, go_ok _ 10 _ _ ?_⟩
        simp only [go_sem, List.cons_append, List.nil_append, Nat.reduceBEq]
        refine ⟨by simp only [inI64]; omega, ?_⟩
        exact safe_lend (⟨d + 1, hdlt, g3.setR 0 nb3 n4, nb3, n4, at4, by rw [heq3, show 30 - d = (30 - (d + 1)) + 1 by omega, Rf.tick0, hn4]⟩ : W5c n2.nd (2100 * 40 + k + 1) (14 * k + 7)) (by simp only; omega) (Sub.front (X := []) (by simp [envSub, look]) rfl)
      · have hd30 : d = 30 := by have := of_decide_eq_false hdm; omega
        subst hd30
        rw [heq3, Nat.sub_self, Rf.tick0] at f2 f3 f4
        refine go_ok _ 12 _ _ ?_
        simp only [go_sem, hR3, Int.toNat_zero, Nat.reduceBEq, Nat.zero_add]
        refine ⟨⟨by omega, by omega, Nat.le_refl _⟩, ⟨by omega, by decide⟩, ?_⟩
        refine (stp_call [0, 1, 2, 3, 4, 5, 6, 7, 8] (args := [.ptr 0 nb3 0]) rfl rfl rfl ⟨_, Try.func16, rfl, rfl⟩ (Spec.node ((c16p nb3 n3 at3.inv (by omega) (by omega)).post (Post' := fun v hp => ∃ N : NL, (∃ r : RdL, v = .agg (encRd r) ∧ r.pl = n3.nd.ready.1 ∧ N.nd = n3.nd.ready.2) ∧ hp = nO nb3 N) fun v hp ⟨r, N, h1, h2, h3, h4⟩ => ⟨N, ⟨r, h1, h2, h3⟩, h4⟩) b g3 at3.R) rfl (fun _ h => h) rfl (fun _ _ h => h) ?_).safe trivial
        rintro v hp ⟨n4, ⟨r, rfl, hr, hn4⟩, rfl⟩
        rw [← hr] at f3 f4
        rw [← hn4] at f2
        have hri := Rf.inv_ready at3.inv
        rw [← hn4] at hri
        have at4 := at3.set hri
        have hR4 := at4.row
        have hl4 := at4.len
        have q3 : r.rs.xs.length = 0 := by have : r.rs.xs = [] := f3; rw [this]; rfl
        have q4 : (r.es.xs.length : Int) = last - was := by
          have e : r.pl.es.length = r.es.xs.length := List.length_map ..
          rw [e] at f4
          exact f4
        generalize g3.setR 0 nb3 n4 = g5 at *
        refine ⟨trivial, go_ok _ 20 _ _ ?_⟩
        simp only [go_sem, hR4, Int.toNat_zero, List.cons_append, List.nil_append, Nat.reduceBEq, Nat.reduceAdd, Nat.zero_add]
        intro b6
        refine ⟨⟨by omega, by omega, Nat.le_refl _⟩, ⟨by omega, by decide⟩, ?_⟩
        refine (stp_call [0, 1, 2, 3, 4, 5, 6, 7, 8] (args := [.ptr 0 nb3 0]) rfl rfl rfl ⟨_, Try.func19, rfl, rfl⟩ (Spec.node ((c19n nb3 n4).post (Post' := fun v hp => ∃ N : NL, (v = .agg [I n4.nd.hd.tm, I n4.nd.hd.vote, I n4.nd.hd.cm] ∧ N = n4) ∧ hp = nO nb3 N) fun v hp ⟨h1, h2⟩ => ⟨n4, ⟨h1, rfl⟩, h2⟩) b g5 at4.R) rfl (fun _ h => h) rfl (fun _ _ h => h) ?_).safe trivial
        rintro v hp ⟨n5, ⟨rfl, hn5⟩, rfl⟩
        rw [hn5, setR_same at4.R, f2]
        have d1 : decide (was = was) = true := decide_eq_true rfl
        have d2 : decide (((r.rs.xs.length : Nat) : Int) = 0) = true := decide_eq_true (by omega)
        have d3 : decide (((r.es.xs.length : Nat) : Int) = last - was) = true := decide_eq_true q4
        refine ⟨trivial, go_ok _ 60 _ _ ?_⟩
        simp only [go_sem, d2, d3, List.cons_append, List.nil_append, Nat.reduceBEq, Nat.zero_add, Try.results5]
        simp only [inI64]
        omega
end Go.SX
