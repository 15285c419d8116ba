/- Joined texts: T54 T55 T67 PV PS T64. -/
import Derived.Test.YtpbbpmhahkeekaaSxTJ11
import Derived.Test.YtpbbpmhahkeekaaSxTJ9
/- Raft: a new group. -/
namespace Go.SX
open Go.Proofs
set_option maxRecDepth 1000000
variable {E : Env}

/-- nothing saved yet -/
def sv0 : SvL := ⟨0, -1, 0, 0, 0, ⟨none, 0, []⟩, ⟨none, 0, []⟩, ⟨none, 0, []⟩⟩
def dn0 : DnL := ⟨nilR, []⟩
def g0 (N : Nat) : GL := ⟨nilR, [], nilR, [], nilR, [], nilR, [], nilR, [], nilR, [], N, true⟩
/-- a row with one more, seen alike -/
theorem row_app {α : Type} [Inhabited α] {enc : α → List SV} {xs : List α} {y : α} {cs : List SV} {sz : Nat} (hcs : ∀ j, j < sz → ((enc y).getD j default).den = (cs.getD j default).den ∧ ∀ ro, (cs.getD j default).ok ro → ((enc y).getD j default).ok ro) {nl : Bool} {b : Nat} {t : TypeId} {off cap : Nat} :
    ∀ ro H, (Chunk.row nl b t off sz (xs.length + 1) cap (appF (rowsV enc xs) xs.length (litF sz cs))).sat ro H → (Chunk.row nl b t off sz (xs.length + 1) cap (rowsV enc (xs ++ [y]))).sat ro H := by
  intro ro H hh
  refine row_see (fun i j hi hj => ?_) hh
  rw [← app_one (enc := enc) (ys := xs) (y := y) (sz := sz) i j hi hj]
  unfold appF
  cases h : Nat.blt i xs.length with
  | true => exact ⟨rfl, fun _ h => h⟩
  | false =>
    have h' : ¬ i < xs.length := by rw [← Nat.blt_eq, h]; decide
    simp only [cond_false, litF, show i - xs.length = 0 by omega, Nat.zero_mul, Nat.zero_add]
    exact hcs j hj
theorem Sees.bagNil {A X : List Chunk} {x : Chunk} (hx : ∀ ro, x.sat ro []) : Sees (sepC A :: X) (sepC (A ++ [x]) :: X) := Sees.trans (Sees.same (Sees.new hx (Sees.refl X))) Sees.bagEnd
theorem emp_sat (ro : RO) : Chunk.emp.sat ro [] := rfl
structure W23 (N : Nat) where
  i : Nat
  hi : i ≤ N
  b : Nat
  g : GL
  N' : g.N = N
  ok : g.ok = true
  net : g.net = []
  al : g.al = []
  ld : g.ld = []
  Rl : g.R.length = i
  S : g.S = List.replicate i sv0
  Dl : g.D.length = i
  full : ∀ a, a < i → ∃ nb n, g.R[a]? = some (some (nb, n))
  R : g.R.map RN.pl = (List.range i).map fun (a : Nat) => Rf.Nd.new a (upTo N) ⟨0, -1, 0⟩ ⟨0, 0, []⟩ [] []
  D : (g.D.map fun d => d.xs.map Ent.pl) = (List.range i).map fun _ => []
theorem sv0_fit (K : Nat) : sv0.pl.fit K := ⟨Int.le_refl _, Int.natCast_nonneg K, by decide, Int.le_refl _, Int.natCast_nonneg K, Int.le_refl _, Int.natCast_nonneg K, Int.le_refl _, Int.natCast_nonneg K, fun h => absurd h (by decide), by decide, by decide, rfl, fun e he => by cases he⟩
theorem map_const (N : Nat) {α : Type} (x : α) : (List.range N).map (fun _ => x) = List.replicate N x := by
  rw [List.map_const', List.length_range]
theorem new_inv {N : Nat} (h1 : 1 ≤ N) (h7 : N ≤ 7) : (Rf.Gr.new N).inv 0 0 0 := by
  have hl : ∀ {α : Type} (f : Nat → α), ((List.range N).map f).length = N := fun f => by rw [List.length_map, List.length_range]
  refine ⟨h1, h7, hl _, hl _, hl _, fun i hi => ?_, fun i hi => ?_, fun m hm => absurd hm (by simp [Rf.Gr.new]), Nat.le_refl 0, fun i hi => ?_, Nat.le_refl 0, Nat.zero_le 5000⟩
  · have e : (Rf.Gr.new N).R.getD i default = Rf.Nd.new i (upTo N) ⟨0, -1, 0⟩ ⟨0, 0, []⟩ [] [] := by
      show ((List.range N).map _).getD i default = _
      rw [List.getD_eq_getElem?_getD, List.getElem?_map, List.getElem?_range (show i < N from hi)]
      rfl
    rw [e]
    exact Rf.inv_new (sv0_fit 0) i (upTo_voters h1 h7)
  · have e : (Rf.Gr.new N).S.getD i default = sv0.pl := by
      show ((List.range N).map _).getD i default = _
      rw [List.getD_eq_getElem?_getD, List.getElem?_map, List.getElem?_range (show i < N from hi)]
      rfl
    rw [e]
    exact ⟨Int.le_refl _, Int.le_refl _, fun i hi => absurd hi (Nat.not_lt_zero i), fun e he => absurd he (by simp [sv0, SvL.pl]), by decide, by decide⟩
  · have e : (Rf.Gr.new N).done.getD i [] = [] := by
      show ((List.range N).map _).getD i [] = _
      rw [List.getD_eq_getElem?_getD, List.getElem?_map, List.getElem?_range (show i < N from hi)]
      rfl
    rw [e]
    exact Nat.le_refl 0
theorem set_last {α : Type} {A : List α} {i : Nat} {x y : α} (h : A.length = i) : (A ++ [x]).set i y = A ++ [y] := by
  subst h
  simp
set_option maxHeartbeats 8000000 in
theorem c23p (N : Nat) (h1 : 1 ≤ N) (h7 : N ≤ 7) :
    Spec Try.prog E 23 [I N] [] (fun v hp => ∃ (b : Nat) (g : GL), v = .ptr 0 b 0 ∧ g.pl = Rf.Gr.new N ∧ g.good N 0 0 0 ∧ g.ok = true ∧ hp = gO b g) := by
  refine Spec.see2 ?_
  generalize hP : SeeP _ = P
  refine spec_of (keep := k23) (args' := [I N]) Try.func23 rfl Try.ntmps23 s23_ok (by simp) ⟨rfl, fun _ h => h⟩ (fun _ _ h => h) (go_ok _ 100 _ _ ?_)
  simp only [go_sem, s23, k23, Nat.reduceBEq, Nat.zero_add]
  intro b
  refine safe_loop (ι := W23 N) (fun w => ⟨[(0, I N), (3, .ptr 0 w.b 0), (4, I w.i)], gO w.b w.g⟩) (fun w => N - w.i)
    ⟨0, Nat.zero_le _, b, g0 N, rfl, rfl, rfl, rfl, rfl, rfl, rfl, rfl, fun a ha => absurd ha (by omega), rfl, rfl⟩ ?_ ?_
  · refine ⟨fun t s ht => ⟨s, envSub_ok (by simp [envSub, look]) t s ht, rfl, fun _ h => h⟩, ?_⟩
    refine Sees.cons (fun ro H hh => ⟨H, [], by simp, cells_imp (cs := [nilS, nilS, nilS, nilS, nilS, nilS, I N, Bl true]) rfl (fun hk => ?_) hh⟩) (Sees.new (nil_ch 24 1 encR) (Sees.new (nil_ch 108 8 encS) (Sees.new (nil_ch 54 15 encM) (Sees.new (nil_ch 36 1 encD) (Sees.new (nil_ch 43 4 encE) (Sees.new (nil_ch 3 1 encI) (Sees.new sep_nil (Sees.new sep_nil (Sees.refl [])))))))))
    simp only [GL.cs, g0, Rw.sv, SV.oks, SV.ok, and_true]
  rintro ⟨i, hi, b, g, hN, hok, hnet, hal, hld, hRl, hS, hDl, hfull, hR, hD⟩
  refine go_ok _ 10 _ _ ?_
  simp only [go_sem, List.cons_append, List.nil_append, Nat.reduceBEq]
  refine ⟨fun hlc => ?_, fun hlc => ?_⟩
  · have hlt : i < N := by have := of_decide_eq_true hlc; omega
    refine go_ok _ 20 _ _ ?_
    simp only [go_sem, List.cons_append, List.nil_append, Nat.reduceBEq, Nat.reduceAdd, Nat.zero_add]
    intro b1
    have hSl : g.S.length = i := by rw [hS]; exact List.length_replicate ..
    refine (stp_app2 (c := 2) (b := g.sw.b) (off := g.sw.off) (nl := g.sw.nl) (n := g.S.length) (cap := g.sw.cap) (x := .osl 9 false b1 0 1 1) (gx := litF 8 [I 0, I (-1), I 0, I 0, I 0, nilS, nilS, nilS]) (m := 1) (f := rowsV encS g.S) (f2 := appF (rowsV encS g.S) g.S.length (litF 8 [I 0, I (-1), I 0, I 0, I 0, nilS, nilS, nilS])) (N := g.S.length + 1) rfl rfl rfl rfl ⟨rfl, rfl, rfl, rfl, by decide⟩ (fun a j ha hj => ?_) (by omega) rfl (fun a j ha hj => rfl) fun nl2 b2 off2 cap2 => ?_).safe trivial
    · obtain rfl : a = 0 := by omega
      have : j = 0 ∨ j = 1 ∨ j = 2 ∨ j = 3 ∨ j = 4 ∨ j = 5 ∨ j = 6 ∨ j = 7 := by omega
      rcases this with rfl | rfl | rfl | rfl | rfl | rfl | rfl | rfl <;> simp [litF, one, Value.oneCell', nilS]
    refine ⟨by simp only [recheck, go_sem], go_ok _ 20 _ _ ?_⟩
    simp only [go_sem, List.cons_append, List.nil_append, Nat.reduceBEq, Nat.reduceAdd, Nat.zero_add]
    intro b3
    refine (stp_app2 (c := 4) (b := g.dw.b) (off := g.dw.off) (nl := g.dw.nl) (n := g.D.length) (cap := g.dw.cap) (x := .osl 10 false b3 0 1 1) (gx := litF 1 [nilS]) (m := 1) (f := rowsV encD g.D) (f2 := appF (rowsV encD g.D) g.D.length (litF 1 [nilS])) (N := g.D.length + 1) rfl rfl rfl rfl ⟨rfl, rfl, rfl, rfl, by decide⟩ (fun a j ha hj => ?_) (by omega) rfl (fun a j ha hj => rfl) fun nl4 b4 off4 cap4 => ?_).safe trivial
    · obtain rfl : a = 0 := by omega
      obtain rfl : j = 0 := by omega
      simp [litF, one, nilS]
    refine ⟨by simp only [recheck, go_sem], go_ok _ 20 _ _ ?_⟩
    simp only [go_sem, List.cons_append, List.nil_append, Nat.reduceBEq, Nat.reduceAdd, Nat.zero_add]
    intro b5
    refine (stp_app2 (c := 1) (b := g.rw.b) (off := g.rw.off) (nl := g.rw.nl) (n := g.R.length) (cap := g.rw.cap) (x := .osl 11 false b5 0 1 1) (gx := litF 1 [.val (.pointer none)]) (m := 1) (f := rowsV encR g.R) (f2 := appF (rowsV encR g.R) g.R.length (litF 1 [.val (.pointer none)])) (N := g.R.length + 1) rfl rfl rfl rfl ⟨rfl, rfl, rfl, rfl, by decide⟩ (fun a j ha hj => ?_) (by omega) rfl (fun a j ha hj => rfl) fun nl6 b6 off6 cap6 => ?_).safe trivial
    · obtain rfl : a = 0 := by omega
      obtain rfl : j = 0 := by omega
      simp [litF, one, Value.oneCell']
    refine ⟨by simp only [recheck, go_sem], go_ok _ 9 _ _ ?_⟩
    simp only [go_sem, List.nil_append, Nat.reduceBEq, Nat.zero_add]
    have hsub : Sees [.cells b 63 [.osl 1 nl6 b6 off6 (g.R.length + 1) cap6, .osl 2 nl2 b2 off2 (g.S.length + 1) cap2, g.nw.sv 3 g.net.length, .osl 4 nl4 b4 off4 (g.D.length + 1) cap4, g.aw.sv 5 g.al.length, g.lw.sv 6 g.ld.length, I g.N, Bl g.ok],
        .row nl6 b6 24 off6 1 (g.R.length + 1) cap6 (appF (rowsV encR g.R) g.R.length (litF 1 [.val (.pointer none)])), .row nl2 b2 108 off2 8 (g.S.length + 1) cap2 (appF (rowsV encS g.S) g.S.length (litF 8 [I 0, I (-1), I 0, I 0, I 0, nilS, nilS, nilS])),
        g.nw.ch 54 15 encM g.net, .row nl4 b4 36 off4 1 (g.D.length + 1) cap4 (appF (rowsV encD g.D) g.D.length (litF 1 [nilS])), g.aw.ch 43 4 encE g.al, g.lw.ch 3 1 encI g.ld, sepC (g.R.map RN.ch), sepC (g.D.map DnL.ch)]
        (gO b { g with rw := ⟨nl6, b6, off6, cap6⟩, R := g.R ++ [none], sw := ⟨nl2, b2, off2, cap2⟩, S := g.S ++ [sv0], dw := ⟨nl4, b4, off4, cap4⟩, D := g.D ++ [dn0] }) := by
      simp only [gO, GL.cs, Rw.ch, Rw.sv, List.length_append, List.length_singleton, List.map_append, List.map_cons, List.map_nil]
      refine Sees.same (Sees.cons (fun ro H hh => ⟨H, [], by simp, row_app (fun j hj => ?_) ro H hh⟩) (Sees.cons (fun ro H hh => ⟨H, [], by simp, row_app (fun j hj => ?_) ro H hh⟩) (Sees.same (Sees.cons (fun ro H hh => ⟨H, [], by simp, row_app (fun j hj => ?_) ro H hh⟩) (Sees.same (Sees.same (Sees.trans (Sees.bagNil emp_sat) (Sees.same (Sees.bagNil (nil_ch 43 4 encE))))))))))
      · obtain rfl : j = 0 := by omega
        exact ⟨rfl, fun _ h => h⟩
      · have : j = 0 ∨ j = 1 ∨ j = 2 ∨ j = 3 ∨ j = 4 ∨ j = 5 ∨ j = 6 ∨ j = 7 := by omega
        rcases this with rfl | rfl | rfl | rfl | rfl | rfl | rfl | rfl
        · exact ⟨rfl, fun _ h => h⟩
        · exact ⟨rfl, fun _ h => h⟩
        · exact ⟨rfl, fun _ h => h⟩
        · exact ⟨rfl, fun _ h => h⟩
        · exact ⟨rfl, fun _ h => h⟩
        · exact ⟨rfl, fun ro _ => nilOk ro 1 _⟩
        · exact ⟨rfl, fun ro _ => nilOk ro 1 _⟩
        · exact ⟨rfl, fun ro _ => nilOk ro 4 _⟩
      · obtain rfl : j = 0 := by omega
        exact ⟨rfl, fun ro _ => by simp [encD, Rw.sv, SV.ok]⟩
    refine Safe.sub (st' := ⟨[(43, I i), (42, .ptr 0 b 0), (0, I N), (3, .ptr 0 b 0), (4, I i)], gO b { g with rw := ⟨nl6, b6, off6, cap6⟩, R := g.R ++ [none], sw := ⟨nl2, b2, off2, cap2⟩, S := g.S ++ [sv0], dw := ⟨nl4, b4, off4, cap4⟩, D := g.D ++ [dn0] }⟩) ⟨fun t s ht => ⟨s, ht, rfl, fun _ h => h⟩, Sees.trans (Sees.left (a := [_, _, _, _, _, _, _, _, _]) (X := [_, _, _])) hsub⟩ ?_
    generalize hG1 : ({ g with rw := ⟨nl6, b6, off6, cap6⟩, R := g.R ++ [none], sw := ⟨nl2, b2, off2, cap2⟩, S := g.S ++ [sv0], dw := ⟨nl4, b4, off4, cap4⟩, D := g.D ++ [dn0] } : GL) = G1
    have e1 : G1.R = g.R ++ [none] := by rw [← hG1]
    have e2 : G1.S = List.replicate (i + 1) sv0 := by rw [← hG1, List.replicate_succ', ← hS]
    have e3 : G1.D = g.D ++ [dn0] := by rw [← hG1]
    have e4 : G1.N = N := by rw [← hG1]; exact hN
    have e5 : G1.ok = true := by rw [← hG1]; exact hok
    have e6 : G1.net = [] := by rw [← hG1]; exact hnet
    have e7 : G1.al = [] := by rw [← hG1]; exact hal
    have e8 : G1.ld = [] := by rw [← hG1]; exact hld
    have e9 : G1.S.getD i default = sv0 := by
      rw [e2, List.getD_eq_getElem?_getD, List.getElem?_replicate, if_pos (by omega)]
      rfl
    refine (stp_call [0, 1, 2, 3, 4, 5, 6, 7, 8] (args := [.ptr 0 b 0, I i]) rfl rfl rfl ⟨_, Try.func58, rfl, rfl⟩ (c58p b G1 i N 0 e4 h1 h7 hlt (by rw [e1, List.length_append, List.length_singleton]; omega) (by rw [e2, List.length_replicate]; omega) (by rw [e3, List.length_append, List.length_singleton]; omega) (by rw [e9]; exact sv0_fit 0) (by decide) (by rw [e9, e7]; decide) (by rw [e7]; decide)) rfl (fun _ h => h) rfl (fun _ _ h => h) ?_).safe trivial
    rintro v hp ⟨G2, k1, k2, ⟨nb, n, dd, k3⟩, rfl⟩
    refine ⟨trivial, go_ok _ 9 _ _ ?_⟩
    simp only [go_sem, List.cons_append, List.nil_append, Nat.reduceBEq]
    refine ⟨by simp only [inI64]; omega, ?_⟩
    have hvo : G1.pl.voters = upTo N := by
      show (List.range G1.N.toNat).map _ = _
      rw [e4, Int.toNat_natCast]; rfl
    have hs0 : G1.pl.S.getD i default = sv0.pl := by rw [getS_pl G1 (by rw [e2, List.length_replicate]; omega), e9]
    have r1 : G2.R.map RN.pl = (List.range (i + 1)).map fun (a : Nat) => Rf.Nd.new a (upTo N) ⟨0, -1, 0⟩ ⟨0, 0, []⟩ [] [] := by
      have q := congrArg Rf.Gr.R k1
      have q2 : (G1.pl.back i).R = G1.pl.R.set i (Rf.Nd.new i G1.pl.voters (G1.pl.S.getD i default).h (G1.pl.S.getD i default).m (G1.pl.S.getD i default).d (G1.pl.S.getD i default).l) := rfl
      have q3 : G1.pl.R = g.R.map RN.pl ++ [RN.pl none] := by show G1.R.map RN.pl = _; rw [e1, List.map_append]; rfl
      rw [q2, hs0, hvo, q3, set_last (by rw [List.length_map]; exact hRl), hR] at q
      rw [List.range_succ, List.map_append]
      exact q
    have r2 : (G2.D.map fun d => d.xs.map Ent.pl) = (List.range (i + 1)).map fun _ => [] := by
      have q := congrArg Rf.Gr.done k1
      have q2 : (G1.pl.back i).done = G1.pl.done.set i (if 0 < (G1.pl.S.getD i default).m.ix then G1.pl.all.take (G1.pl.S.getD i default).m.ix.toNat else []) := rfl
      have q3 : G1.pl.done = (g.D.map fun d => d.xs.map Ent.pl) ++ [[]] := by show (G1.D.map fun d => d.xs.map Ent.pl) = _; rw [e3, List.map_append]; rfl
      rw [q2, hs0, q3, if_neg (by decide), set_last (by rw [List.length_map]; exact hDl), hD] at q
      rw [List.range_succ, List.map_append]
      exact q
    refine safe_lend (⟨i + 1, hlt, b, G2, by rw [k3]; exact e4, k2.trans e5, by rw [k3]; exact e6, by rw [k3]; exact e7, by rw [k3]; exact e8, ?_, by rw [k3]; exact e2, ?_, ?_, r1, r2⟩ : W23 N) (by simp only; omega) (Sub.front (X := []) (by simp [envSub, look]) rfl)
    · have q := congrArg List.length r1
      rw [List.length_map, List.length_map, List.length_range] at q
      exact q
    · have q := congrArg List.length r2
      rw [List.length_map, List.length_map, List.length_range] at q
      exact q
    · intro a ha
      rw [k3]
      dsimp only
      rw [e1]
      by_cases hai : a = i
      · subst hai
        exact ⟨nb, n, List.getElem?_set_self (by rw [List.length_append, List.length_singleton]; omega)⟩
      · rw [List.getElem?_set_ne (Ne.symm hai), List.getElem?_append_left (by omega)]
        exact hfull a (by omega)
  · have hcl : i = N := by have := of_decide_eq_false hlc; omega
    subst hcl
    refine go_ok _ 20 _ _ ?_
    simp only [go_sem, List.nil_append, Nat.reduceBEq, Try.results23]
    have hpl : g.pl = Rf.Gr.new i := by
      have e1 : g.S.map SvL.pl = (List.range i).map fun _ => (⟨⟨0, -1, 0⟩, ⟨0, 0, []⟩, [], []⟩ : Rf.Sv) := by
        rw [hS, map_const, List.map_replicate]
        rfl
      unfold GL.pl
      rw [hR, e1, hD, hnet, hal, hld, hN]
      rfl
    rw [← hP]
    exact ⟨_, _, rfl, fun _ h => h, Sees.refl _, b, g, rfl, hpl, ⟨by rw [hpl]; exact new_inv h1 h7, hN, hfull⟩, hok, rfl⟩
end Go.SX

/- Contracts of the raft laws: the chapter's example. -/
namespace Go.SX
open Go.Proofs
set_option maxRecDepth 1000000
variable {E : Env}

theorem newOk {ro : RO} {id t v c : Int} {x y1 y2 y3 : SV} (h : SV.oks ro [I id, x, .agg [I t, I v, I c], .agg [I 0, I 0, y1], y2, y3]) : SV.oks ro [I id, x, .agg [I t, I v, I c], .agg [I 0, I 0, vI none 0 []], vB none 0 [], vE none 0 []] := by
  simp only [SV.oks] at h ⊢
  exact ⟨h.1, h.2.1, h.2.2.1, by simp only [SV.ok, SV.oks]; exact ⟨trivial, trivial, nilOk _ _ _, trivial⟩, nilOk _ _ _, nilOk _ _ _, trivial⟩
def kn : Nat → Rf.Nd
  | 0 => Rf.Nd.new 3 [3] ⟨0, -1, 0⟩ ⟨0, 0, []⟩ [] []
  | c + 1 => (kn c).tick 0
theorem kn_res : ((kn 10).propose [120]).1 = (2, 1, 0) ∧ ((kn 10).propose [120]).2.role = 2 ∧ ((kn 10).propose [120]).2.hd.cm = 2 := by decide +kernel
theorem kn_inv : ∀ c, (kn c).inv (3 * c) (21 * c)
  | 0 => Rf.inv_new (sv0_fit 0) 3 (vs := [3]) (by decide)
  | c + 1 => Rf.inv_tick (kn_inv c) 0
theorem okB1 (x : UInt8) : Rf.okB [x] := ⟨by rw [List.length_singleton]; decide, fun c => by
  rw [List.drop_of_length_le (by rw [List.length_singleton]; omega)]
  exact (by decide : Rf.beN ([] : List UInt8) < 2 ^ 63)⟩
structure W12 where
  c : Nat
  hc : c ≤ 10
  b : Nat
  n : NL
  eq : n.nd = kn c
set_option maxHeartbeats 4000000 in
theorem c12p : Spec Try.prog E 12 [] [] (fun v _ => v = Bl true) := by
  refine spec_of (keep := k12) (args' := []) Try.func12 rfl Try.ntmps12 s12_ok (by simp) ⟨rfl, fun _ h => h⟩ (fun _ _ h => h) (go_ok _ 7 _ _ ?_)
  simp only [go_sem, s12, k12, Nat.reduceBEq, Nat.zero_add]
  intro b1
  refine safe_frz2 (hp := []) (f' := rowsV encI [3]) (fun i j hi hj => ?_) ?_
  · obtain rfl : i = 0 := by omega
    obtain rfl : j = 0 := by omega
    rfl
  refine go_ok _ 100 _ _ ?_
  simp only [go_sem, frz, Nat.zero_add, if_false]
  refine (stp_call [] (args := [I 3, vI (some ⟨b1, 0, none⟩) 1 [3], .agg [I 0, I (-1), I 0], .agg [I 0, I 0, vI none 0 []], vB none 0 [], vE none 0 []]) rfl rfl rfl ⟨_, Try.func13, rfl, rfl⟩
    (c13p 0 0 3 (some ⟨b1, 0, none⟩) 1 [3] sv0.pl none 0 none 0 none 0 [] rfl (sv0_fit 0) (by decide) (by decide) (by decide)) rfl (fun _ h => newOk h) rfl (fun _ _ h => h) ?_).safe trivial
  rintro v hp ⟨b, n, rfl, hn, rfl⟩
  refine ⟨trivial, go_ok _ 100 _ _ ?_⟩
  simp only [go_sem, List.cons_append, List.nil_append, Nat.reduceBEq, Try.results12]
  refine ⟨fun h => absurd h (by decide), fun _ => ?_⟩
  refine safe_loop (ι := W12) (fun w => ⟨[(0, Bl false), (1, .ptr 0 w.b 0), (3, I w.c)], nO w.b w.n⟩) (fun w => 10 - w.c) ⟨0, Nat.zero_le _, b, n, hn⟩
    (Sub.front (X := []) (by simp [envSub, look]) rfl) ?_
  rintro ⟨c, hc, b, n, hn⟩
  have hinv := kn_inv c
  rw [← hn] at hinv
  refine go_ok _ 100 _ _ ?_
  simp only [go_sem, List.cons_append, List.nil_append, Nat.reduceBEq, Nat.reduceAdd, Nat.zero_add]
  refine ⟨fun h => ?_, fun h => ?_⟩
  · have hlt : c < 10 := by have := of_decide_eq_true h; omega
    refine (stp_call [0, 1, 2, 3, 4, 5, 6] (args := [.ptr 0 b 0, I 0]) rfl rfl rfl ⟨_, Try.func15, rfl, rfl⟩ (c15p b n 0 hinv (by omega) (by omega)) rfl (fun _ h => h) rfl (fun _ _ h => h) ?_).safe trivial
    rintro v hp ⟨n', hn', rfl⟩
    refine ⟨trivial, go_ok _ 100 _ _ ?_⟩
    simp only [go_sem, List.cons_append, List.nil_append, Nat.reduceBEq]
    refine ⟨by simp only [inI64]; omega, ?_⟩
    exact safe_lend (⟨c + 1, hlt, b, n', by rw [hn', hn]; rfl⟩ : W12) (by simp only; omega) (Sub.front (X := []) (by simp [envSub, look]) rfl)
  · have h10 : c = 10 := by have := of_decide_eq_false h; omega
    subst h10
    intro b2
    obtain ⟨r1, r2, r3⟩ := kn_res
    refine Stp.safeE (stp_conv (xo := .t 28) (e := 5) (c := 7) (b := b2) (off := 0) (n := 1) (cap := 1) (off' := 0) (sz := 1) (n' := 1) (cap' := 1) (T := 5) (f := litF 1 [.val (.int .u8 120)]) rfl (by kernel_rfl) (by kernel_rfl) rfl rfl trivial ?_) rfl
    refine safe_frz2 (hp := nO b n) (f' := rowsV encB [120]) (fun i j hi hj => ?_) ?_
    · obtain rfl : i = 0 := by omega
      obtain rfl : j = 0 := by omega
      rfl
    refine go_ok _ 2 _ _ ?_
    simp only [go_sem, frz, if_false]
    refine (stp_call [0, 1, 2, 3, 4, 5, 6] (args := [.ptr 0 b 0, vB (some ⟨b2, 0, none⟩) 1 [120]]) rfl rfl rfl ⟨_, Try.func17, rfl, rfl⟩
      (c17p b n (some ⟨b2, 0, none⟩) 1 [120] hinv (fun _ => okB1 _) (by decide) (by decide) (by decide)) rfl (fun _ h => h) rfl (fun _ _ h => h) ?_).safe trivial
    rintro v hp ⟨rfl, n2, hn2, rfl⟩
    rw [hn, r1]
    rw [hn] at hn2
    refine ⟨trivial, go_ok _ 100 _ _ ?_⟩
    simp only [go_sem, List.cons_append, List.nil_append, Nat.reduceBEq]
    refine (stp_call [0, 1, 2, 3, 4, 5, 6] (args := [.ptr 0 b 0]) rfl rfl rfl ⟨_, Try.func14, rfl, rfl⟩ (c14n b n2) rfl (fun _ h => h) rfl (fun _ _ h => h) ?_).safe trivial
    rintro v hp ⟨rfl, rfl⟩
    rw [hn2, r2]
    refine ⟨trivial, go_ok _ 100 _ _ ?_⟩
    simp only [go_sem, List.cons_append, List.nil_append, Nat.reduceBEq, reduceCtorEq]
    refine ⟨?_, rfl⟩
    refine Stp.safeOn ?_ trivial
    refine stp_call [0, 1, 2, 3, 4, 5, 6] (args := [.ptr 0 b 0]) rfl rfl rfl ⟨_, Try.func19, rfl, rfl⟩ (c19n b n2) rfl (fun _ h => unc_oks h) (by simp [callIdx]) (fun _ _ h => h) ?_
    rintro v hp ⟨rfl, rfl⟩
    rw [hn2, r3]
    refine ⟨trivial, go_ok _ 100 _ _ ?_⟩
    simp only [go_sem, List.cons_append, List.nil_append, Nat.reduceBEq, reduceCtorEq, Try.results12]
end Go.SX

/- Raft: who votes, as a row that nobody writes. -/
namespace Go.SX
open Go.Proofs
set_option maxRecDepth 1000000
variable {E : Env}

/-- who votes, as a row of a node -/
theorem c26n (b : Nat) (n : NL) {k j : Nat} (h : n.nd.fit k j) (hk : k ≤ 2 ^ 30) : Spec Try.prog E 26 [.ptr 0 b 0] (nO b n) (fun v hp => ∃ N : NL, ((∃ a cap, v = vI a cap n.nd.voters) ∧ N = n) ∧ hp = nO b N) := by
  have hg := fit_good h hk
  refine Spec.leave (Post := fun v hp => ∃ a cap, v = vI a cap n.nd.voters ∧ hp = nO b n ++ [.emp]) ?_ (fun v hp ⟨a, cap, h1, h2⟩ => ⟨nO b n, [.emp], h2, n, ⟨⟨a, cap, h1⟩, rfl⟩, rfl⟩)
  refine spec_of (keep := k26) (args' := [.ptr 0 b 0]) Try.func26 rfl Try.ntmps26 s26_ok (by simp) ⟨rfl, fun _ h => h⟩ (fun _ _ h => h) (go_ok _ 100 _ _ ?_)
  simp only [go_sem, s26, k26, Nat.reduceBEq, Nat.zero_add]
  refine (stp_call [0] (args := [.ptr 0 b 0]) rfl rfl rfl ⟨_, Try.func40, rfl, rfl⟩ (c40 b n.rs hg.sm) rfl (fun _ h => h) rfl (fun _ _ h => h) ?_).safe trivial
  rintro v hp ⟨rfl, rfl⟩
  refine ⟨by simp only [recheck, recheck1, go_sem, Nat.reduceBEq, Nat.zero_add], ?_⟩
  refine (stp_call [0] (args := [.ptr 0 b 0, I n.rs.last]) rfl rfl rfl ⟨_, Try.func64, rfl, rfl⟩ (c64 7 b n.rs n.o n.rs.last hg) rfl (fun _ h => h) rfl (fun _ _ h => h) ?_).safe trivial
  rintro v hp ⟨nl, b', off, cap', rfl, rfl⟩
  have hvs : n.nd.voters = n.rs.votersAt n.o n.rs.last := nd_voters hg
  refine ⟨trivial, go_ok _ 2 _ _ ?_⟩
  simp only [go_sem, List.cons_append, List.nil_append, Nat.reduceBEq]
  refine safe_frzA (c := 7) (rowsV encI (n.rs.votersAt n.o n.rs.last)) rfl (fun _ _ _ _ => rfl) (by simp [frzOk, frzOk1]) ?_
  refine go_ok _ 20 _ _ ?_
  simp only [go_sem, Nat.reduceBEq, Try.results26]
  exact ⟨_, _, by rw [hvs]⟩
end Go.SX

/- Raft, plainly: voters are changed. -/
namespace Go.SX.Rf
set_option maxRecDepth 100000

/-- a number's bytes -/
def beK : Nat → Nat → List UInt8
  | 0, _ => []
  | k + 1, n => beK k (n / 256) ++ [UInt8.ofNat (n % 256)]
theorem beN_app (l : List UInt8) (x : UInt8) : beN (l ++ [x]) = beN l * 256 + x.toNat := by simp [beN]
theorem beN_beK : ∀ k n, beN (beK k n) = n % 256 ^ k
  | 0, n => by rw [Nat.pow_zero, Nat.mod_one]; rfl
  | k + 1, n => by
    have e : (UInt8.ofNat (n % 256)).toNat = n % 256 := by rw [UInt8.toNat_ofNat']; omega
    rw [beK, beN_app, beN_beK k, e, Nat.pow_succ, Nat.mul_comm (256 ^ k) 256, Nat.mod_mul]
    omega
theorem be8_beK (n : Nat) : be8 (n : Int) = beK 8 n := by
  have e : be8 (n : Int) = [UInt8.ofNat (((n : Int) / 2 ^ 56) % 256).toNat, UInt8.ofNat (((n : Int) / 2 ^ 48) % 256).toNat, UInt8.ofNat (((n : Int) / 2 ^ 40) % 256).toNat, UInt8.ofNat (((n : Int) / 2 ^ 32) % 256).toNat, UInt8.ofNat (((n : Int) / 2 ^ 24) % 256).toNat, UInt8.ofNat (((n : Int) / 2 ^ 16) % 256).toNat, UInt8.ofNat (((n : Int) / 2 ^ 8) % 256).toNat, UInt8.ofNat (((n : Int) / 2 ^ 0) % 256).toNat] := rfl
  have q : ∀ k : Nat, (((n : Int) / 2 ^ k) % 256).toNat = n / 2 ^ k % 256 := fun k => rfl
  rw [e]
  simp only [q, beK, Nat.div_div_eq_div_mul, Nat.reduceMul, Nat.reducePow, Nat.div_one, List.nil_append, List.cons_append]
theorem beN_be8 {v : Int} (h0 : 0 ≤ v) (h1 : v < 2 ^ 63) : (beN (be8 v) : Int) = v := by
  obtain ⟨n, rfl⟩ : ∃ n : Nat, v = n := ⟨v.toNat, by omega⟩
  rw [be8_beK, beN_beK, Nat.mod_eq_of_lt]
  have : n < 2 ^ 63 := by omega
  exact Nat.lt_trans this (by decide)
theorem be8_len (v : Int) : (be8 v).length = 8 := by simp [be8]
theorem flat_len : ∀ l : List Int, (l.flatMap be8).length = 8 * l.length
  | [] => rfl
  | v :: r => by rw [List.flatMap_cons, List.length_append, be8_len, flat_len r, List.length_cons]; omega
theorem ints8_flat : ∀ l : List Int, (∀ v ∈ l, 0 ≤ v ∧ v < 2 ^ 63) → ints8 l.length (l.flatMap be8) = l
  | [], _ => rfl
  | v :: r, h => by
    have h1 := h v (by simp)
    have e1 : (be8 v ++ r.flatMap be8).take 8 = be8 v := by rw [List.take_append_of_le_length (by rw [be8_len]; exact Nat.le_refl _), List.take_of_length_le (by rw [be8_len]; exact Nat.le_refl _)]
    have e2 : (be8 v ++ r.flatMap be8).drop 8 = r.flatMap be8 := by
      have := List.drop_left (l₁ := be8 v) (l₂ := r.flatMap be8)
      rw [be8_len] at this
      exact this
    rw [List.flatMap_cons, List.length_cons, ints8, e1, e2, beN_be8 h1.1 h1.2, ints8_flat r fun x hx => h x (List.mem_cons_of_mem _ hx)]
    have h2 := beN_be8 h1.1 h1.2
    rw [if_pos (by omega)]
theorem readV_written {l : List Int} (h : areVoters l = true) : readV (written l) = (l, true) := by
  obtain ⟨h1, h2, h3, h4⟩ := areVoters_facts h
  have e : (UInt8.ofNat l.length).toNat = l.length := by rw [UInt8.toNat_ofNat']; omega
  unfold written readV
  dsimp only
  rw [e, flat_len, if_pos rfl, ints8_flat l fun v hv => ?_, h]
  have := h2 v hv
  simp only [isId, Bool.and_eq_true, decide_eq_true_eq] at this
  omega
theorem flat_drop : ∀ (c : Nat) (l : List Int), (l.flatMap be8).drop (8 * c) = (l.drop c).flatMap be8
  | 0, _ => rfl
  | c + 1, [] => by simp
  | c + 1, v :: r => by
    have := List.drop_left (l₁ := be8 v) (l₂ := r.flatMap be8)
    rw [be8_len] at this
    rw [List.flatMap_cons, show 8 * (c + 1) = 8 + 8 * c by omega, ← List.drop_drop, this, flat_drop c r, List.drop_succ_cons]
theorem okB_written {l : List Int} (h : areVoters l = true) : okB (written l) := by
  obtain ⟨h1, h2, h3, h4⟩ := areVoters_facts h
  refine ⟨?_, fun c => ?_⟩
  · unfold written
    rw [List.length_cons, flat_len]
    omega
  · have e : (written l).drop (1 + 8 * c) = (l.drop c).flatMap be8 := by
      unfold written
      rw [Nat.add_comm, List.drop_succ_cons, flat_drop]
    rw [e]
    rcases hd : l.drop c with _ | ⟨v, r⟩
    · exact (by decide : beN ([] : List UInt8) < 2 ^ 63)
    · have e1 : (be8 v ++ r.flatMap be8).take 8 = be8 v := by rw [List.take_append_of_le_length (by rw [be8_len]; exact Nat.le_refl _), List.take_of_length_le (by rw [be8_len]; exact Nat.le_refl _)]
      have hm : v ∈ l := List.mem_of_mem_drop (i := c) (by rw [hd]; exact List.mem_cons_self ..)
      have := h2 v hm
      simp only [isId, Bool.and_eq_true, decide_eq_true_eq] at this
      have q := beN_be8 this.1 (by omega : v < 2 ^ 63)
      rw [List.flatMap_cons, e1]
      omega
/-- what a leader knows after the voters were changed -/
def Nd.newP (n n1 : Nd) (v : Int) : Int × Pe := (v, match (n.peers.getD []).find? fun (p : Int × Pe) => p.1 == v with | some p => p.2 | none => (⟨n.last + 1, 0, 0⟩ : Pe))
/-- a leader whose voters were changed knows of all of them -/
theorem inv_known {n : Nd} {k j : Nat} (h : n.inv k j) (hr : n.role = 2) {vs : List Int} (hv : areVoters vs = true) : ({ n.pushed 2 (written vs) with peers := some ((n.pushed 2 (written vs)).others.map (Nd.newP n (n.pushed 2 (written vs)))) } : Nd).inv (k + 1) j := by
  have hf := fit_pushed h.toFit (kd := 2) (okB_written hv) (fun _ => by rw [readV_written hv])
  obtain ⟨l0, k1, k2, k3, k4⟩ := h.kn hr
  have hlast := pushed_last n 2 (written vs)
  have h0 := h.i0
  have hl0 : 0 ≤ n.last := by unfold Nd.last; omega
  refine ⟨{ hf with }, .inr (.inr hr), fun _ => ⟨_, rfl, ?_, fun q hq => ?_, fun v hv => ?_⟩⟩
  · rw [List.map_map]
    have : ((fun x : Int × Pe => x.1) ∘ Nd.newP n (n.pushed 2 (written vs))) = id := rfl
    rw [this, List.map_id]
    exact hf.others.1
  · obtain ⟨v, _, rfl⟩ := List.mem_map.1 hq
    have e : ({ n.pushed 2 (written vs) with peers := some ((n.pushed 2 (written vs)).others.map (Nd.newP n (n.pushed 2 (written vs)))) } : Nd).last = n.last + 1 := hlast
    rw [e]
    unfold Nd.newP
    dsimp only
    split
    · rename_i p hp
      have hm := List.mem_of_find?_eq_some hp
      rw [k1] at hm
      exact (k3 p hm).mono (by omega)
    · exact ⟨show 1 ≤ n.last + 1 by omega, show n.last + 1 ≤ n.last + 1 + 1 by omega, Int.le_refl 0, show (0 : Int) ≤ n.last + 1 by omega⟩
  · rw [List.map_map]
    exact List.mem_map.2 ⟨v, hv, rfl⟩
theorem inv_change {n : Nd} {k j : Nat} (h : n.inv k j) (vs : List Int) : (n.change vs).2.inv (k + 1) (j + 14) := by
  unfold Nd.change
  split
  · exact h.mono (by omega) (by omega)
  · rename_i hr
    split
    · exact h.mono (by omega) (by omega)
    · rename_i hv
      split
      · exact h.mono (by omega) (by omega)
      · have hr : n.role = 2 := Decidable.byContradiction hr
        have hv : areVoters vs = true := by
          rcases hh : areVoters vs with _ | _
          · exact absurd (.inl hh) hv
          · rfl
        dsimp only
        rw [put_pushed]
        exact inv_look (inv_all (inv_known h hr hv) hr)
end Go.SX.Rf

/- Raft, plainly: a log is made short; one is away. -/
namespace Go.SX.Rf
set_option maxRecDepth 100000

theorem fold_cases (u : Int) : ∀ es : List En, (∀ r, es.foldl (fun r e => bif decide (e.kd = 2) && decide (e.ix ≤ u) then e.ix else r) r = r) ∨ ∃ i, i < es.length ∧ ∀ r : Int, es.foldl (fun r e => bif decide (e.kd = 2) && decide (e.ix ≤ u) then e.ix else r) r = (es.getD i default).ix
  | [] => .inl fun _ => rfl
  | e :: l => by
    rcases fold_cases u l with h | ⟨i, hi, h⟩
    · rcases hc : (decide (e.kd = 2) && decide (e.ix ≤ u)) with _ | _
      · refine .inl fun r => ?_
        rw [List.foldl_cons, hc, h]; rfl
      · refine .inr ⟨0, by simp, fun r => ?_⟩
        rw [List.foldl_cons, hc, h]; rfl
    · exact .inr ⟨i + 1, by simpa using hi, fun r => by rw [List.foldl_cons, h]; rfl⟩
theorem fold_none (u : Int) : ∀ (es : List En) (r : Int), (∀ e ∈ es, u < e.ix) → es.foldl (fun r e => bif decide (e.kd = 2) && decide (e.ix ≤ u) then e.ix else r) r = r
  | [], _, _ => rfl
  | e :: l, r, h => by
    have h1 := h e (by simp)
    have : decide (e.ix ≤ u) = false := decide_eq_false (by omega)
    rw [List.foldl_cons, this, Bool.and_false]
    exact fold_none u l r fun e he => h e (List.mem_cons_of_mem _ he)
theorem fold_same (u v : Int) : ∀ (es : List En) (r : Int), (∀ e ∈ es, e.ix ≤ u ∧ e.ix ≤ v) → es.foldl (fun r e => bif decide (e.kd = 2) && decide (e.ix ≤ u) then e.ix else r) r = es.foldl (fun r e => bif decide (e.kd = 2) && decide (e.ix ≤ v) then e.ix else r) r
  | [], _, _ => rfl
  | e :: l, r, h => by
    have h1 := h e (by simp)
    have a : decide (e.ix ≤ u) = true := decide_eq_true h1.1
    have b : decide (e.ix ≤ v) = true := decide_eq_true h1.2
    rw [List.foldl_cons, List.foldl_cons, a, b]
    exact fold_same u v l _ fun e he => h e (List.mem_cons_of_mem _ he)
/-- who votes stays when a log is made short -/
theorem voters_cut {n : Nd} {k j : Nat} (h : n.fit k j) {ix : Int} (h0 : n.me.ix < ix) (h1 : ix ≤ n.last) (d : List UInt8) :
    (n.restart ⟨ix, n.term ix, n.votersAt ix⟩ d).last = n.last ∧ (n.restart ⟨ix, n.term ix, n.votersAt ix⟩ d).voters = n.voters := by
  have hi0 := h.i0
  have hlast : n.last = n.me.ix + n.log.length := rfl
  obtain ⟨c, hc⟩ : ∃ c : Nat, ix = n.me.ix + c := ⟨(ix - n.me.ix).toNat, by omega⟩
  have hcl : c ≤ n.log.length := by omega
  have hlog : (n.restart ⟨ix, n.term ix, n.votersAt ix⟩ d).log = n.log.drop c := by
    show (if ix ≤ n.last ∧ n.me.ix < ix ∧ n.term ix = n.term ix then n.log.drop (ix - n.me.ix).toNat else []) = _
    rw [if_pos ⟨h1, h0, rfl⟩, show (ix - n.me.ix).toNat = c by omega]
  have hl2 : (n.restart ⟨ix, n.term ix, n.votersAt ix⟩ d).last = n.last := by
    show ix + ((n.restart ⟨ix, n.term ix, n.votersAt ix⟩ d).log.length : Int) = _
    rw [hlog, List.length_drop]
    omega
  refine ⟨hl2, ?_⟩
  have hA : ∀ e ∈ n.log.take c, e.ix ≤ ix ∧ e.ix ≤ n.last := by
    intro e he
    obtain ⟨i, hi, rfl⟩ := List.getElem_of_mem he
    rw [List.length_take] at hi
    have q := h.ix i (by omega)
    rw [List.getD_eq_getElem?_getD, List.getElem?_eq_getElem (by omega)] at q
    rw [List.getElem_take]
    simp only [Option.getD_some] at q
    omega
  have hBi : ∀ i, i < n.log.length - c → ((n.log.drop c).getD i default) = n.log.getD (c + i) default ∧ ((n.log.drop c).getD i default).ix = ix + i + 1 := by
    intro i hi
    have e : ((n.log.drop c).getD i default) = n.log.getD (c + i) default := by
      rw [List.getD_eq_getElem?_getD, List.getD_eq_getElem?_getD, List.getElem?_drop]
    refine ⟨e, ?_⟩
    rw [e, h.ix _ (by omega)]
    omega
  have hB : ∀ e ∈ n.log.drop c, ix < e.ix := by
    intro e he
    obtain ⟨i, hi, rfl⟩ := List.getElem_of_mem he
    have hi' := hi
    rw [List.length_drop] at hi'
    have q := (hBi i hi').2
    rw [List.getD_eq_getElem?_getD, List.getElem?_eq_getElem hi] at q
    simp only [Option.getD_some] at q
    omega
  have hch : ∀ u, n.chg u = (n.log.drop c).foldl (fun r e => bif decide (e.kd = 2) && decide (e.ix ≤ u) then e.ix else r) ((n.log.take c).foldl (fun r e => bif decide (e.kd = 2) && decide (e.ix ≤ u) then e.ix else r) 0) := by
    intro u
    rw [← List.foldl_append, List.take_append_drop]
    rfl
  have hch2 : (n.restart ⟨ix, n.term ix, n.votersAt ix⟩ d).chg n.last = (n.log.drop c).foldl (fun r e => bif decide (e.kd = 2) && decide (e.ix ≤ n.last) then e.ix else r) 0 := by
    unfold Nd.chg
    rw [hlog]
  show (n.restart ⟨ix, n.term ix, n.votersAt ix⟩ d).votersAt (n.restart ⟨ix, n.term ix, n.votersAt ix⟩ d).last = n.votersAt n.last
  rw [hl2]
  rcases fold_cases n.last (n.log.drop c) with hN | ⟨i, hi, hS⟩
  · have e1 : (n.restart ⟨ix, n.term ix, n.votersAt ix⟩ d).chg n.last = 0 := by rw [hch2, hN]
    have e2 : n.chg n.last = n.chg ix := by
      rw [hch, hch, hN, fold_none ix _ _ hB]
      exact fold_same _ _ _ _ fun e he => ⟨(hA e he).2, (hA e he).1⟩
    have e3 : n.votersAt n.last = n.votersAt ix := by
      unfold Nd.votersAt
      rw [e2]
    rw [e3]
    show (if 0 < (n.restart ⟨ix, n.term ix, n.votersAt ix⟩ d).chg n.last then _ else if 0 < ix then n.votersAt ix else _) = _
    rw [e1, if_neg (by omega), if_pos (by omega)]
  · rw [List.length_drop] at hi
    obtain ⟨q1, q2⟩ := hBi i hi
    have e1 : (n.restart ⟨ix, n.term ix, n.votersAt ix⟩ d).chg n.last = ix + i + 1 := by rw [hch2, hS, q2]
    have e2 : n.chg n.last = ix + i + 1 := by rw [hch, hS, q2]
    show (if 0 < (n.restart ⟨ix, n.term ix, n.votersAt ix⟩ d).chg n.last then (readV ((n.restart ⟨ix, n.term ix, n.votersAt ix⟩ d).log.getD ((n.restart ⟨ix, n.term ix, n.votersAt ix⟩ d).chg n.last - ix - 1).toNat default).d).1 else _) = if 0 < n.chg n.last then (readV (n.log.getD (n.chg n.last - n.me.ix - 1).toNat default).d).1 else _
    rw [e1, e2, if_pos (by omega), if_pos (by omega), hlog, show (ix + i + 1 - ix - 1).toNat = i by omega, show (ix + i + 1 - n.me.ix - 1).toNat = c + i by omega, q1]
theorem inv_compact {n : Nd} {k j : Nat} (h : n.inv k j) (ix : Int) {d : List UInt8} (hd : d.length ≤ 2 ^ 23) : (n.compact ix d).2.inv k j := by
  unfold Nd.compact
  split
  · exact h
  · rename_i hq
    split
    · exact h
    · dsimp only
      have hi0 := h.i0; have ha1 := h.a1; have ha0 := h.a0; have hc0 := h.c0; have hc1 := h.c1
      have h0 : n.me.ix < ix := by omega
      have h1 : ix ≤ n.last := by omega
      obtain ⟨v1, v2⟩ := voters_cut h.toFit h0 h1 d
      have hv := h.toFit.votersAt ix
      have ht0 : 0 ≤ n.term ix ∧ n.term ix ≤ k := h.toFit.term ix
      obtain ⟨r1, r2, r3, r4⟩ := fit_restart h.toFit (m := ⟨ix, n.term ix, n.votersAt ix⟩) (d := d) (by dsimp only; omega) (.inr trivial) (by have := h.i1; dsimp only; omega) ht0.1 ht0.2 hv hd h.i1
      have hf : (n.restart ⟨ix, n.term ix, n.votersAt ix⟩ d).fit k j := { h.toFit with i0 := by show 0 ≤ ix; omega, i1 := r3, t0 := ht0.1, t1 := ht0.2, mv := fun _ => hv, ml := (areVoters_facts hv).2.2.2, dl := hd, ix := r1, en := r2, c0 := hc0, c1 := by rw [v1]; exact hc1, a0 := by show ix ≤ n.applied; omega, a1 := ha1 }
      refine ⟨hf, h.ro, fun hr => ?_⟩
      obtain ⟨l, k1, k2, k3, k4⟩ := h.kn hr
      have ho : (n.restart ⟨ix, n.term ix, n.votersAt ix⟩ d).others = n.others := by
        unfold Nd.others
        rw [v2]
        rfl
      rw [ho]
      refine ⟨l, k1, k2, ?_, k4⟩
      rw [v1]
      exact k3

/-- what is sent in one turn, but for one who is away -/
def Gr.turnM (aw : Nat) : List Ms → Gr → Option Gr
  | [], g => some g
  | m :: r, g => if m.to = aw ∨ m.to < 0 ∨ (g.N : Int) ≤ m.to then turnM aw r g else ((g.stepI m.to.toNat m).settleG m.to.toNat).bind (turnM aw r)
def Gr.turn (aw : Nat) (g : Gr) : Option Gr := if 1024 < g.net.length then none else Gr.turnM aw g.net { g with net := [] }
def Gr.turns (aw : Nat) : Nat → Gr → Option Gr
  | 0, g => some g
  | c + 1, g => (g.turn aw).bind (turns aw c)
/-- the first is told a byte -/
def Gr.byte (k : Nat) (g : Gr) : Gr := g.setN 0 ((g.R.getD 0 default).propose [UInt8.ofNat ((k : Int) % 256).toNat]).2
def Gr.told (aw : Nat) (k : Nat) (g : Gr) : Option Gr := ((g.byte k).settleG 0).bind (Gr.turns aw 3)
def Gr.tolds (aw : Nat) : Nat → Nat → Gr → Option Gr
  | 0, _, g => some g
  | c + 1, k, g => (g.told aw k).bind (tolds aw c (k + 1))
theorem turnM_inv {aw : Nat} : ∀ {l : List Ms} {g g' : Gr} {k J : Nat}, Gr.turnM aw l g = some g' → g.inv k 0 J → (∀ m ∈ l, m.fit k) → g'.inv (k + 2 * l.length) 0 (J + 63 * l.length) ∧ g'.N = g.N
  | [], g, g', k, J, h, hi, _ => by
    simp only [Gr.turnM, Option.some.injEq] at h
    subst h
    exact ⟨hi, rfl⟩
  | m :: r, g, g', k, J, h, hi, hl => by
    simp only [Gr.turnM] at h
    split at h
    · obtain ⟨q5, q6⟩ := turnM_inv h hi fun a ha => hl a (List.mem_cons_of_mem _ ha)
      exact ⟨q5.mono (by simp only [List.length_cons]; omega) (Nat.le_refl _) (by simp only [List.length_cons]; omega), q6⟩
    · rename_i hc
      rw [Option.bind_eq_some_iff] at h
      obtain ⟨g1, h1, h2⟩ := h
      have h3 : ¬ m.to < 0 := fun q => hc (.inr (.inl q))
      have h4 : ¬ (g.N : Int) ≤ m.to := fun q => hc (.inr (.inr q))
      have hin : m.to.toNat < g.N := by omega
      obtain ⟨q1, q2⟩ := setN_inv (k' := k + 2) hi hin (by omega) (inv_step (hi.nd _ hin) (hl m (by simp)))
      obtain ⟨q3, q4⟩ := settle_inv (g := g.setN m.to.toNat ((g.R.getD m.to.toNat default).step m)) q1 hin q2 h1
      obtain ⟨q5, q6⟩ := turnM_inv h2 q3 fun a ha => (hl a (List.mem_cons_of_mem _ ha)).mono (by omega)
      refine ⟨q5.mono ?_ (Nat.le_refl _) ?_, q6.trans q4⟩
      · simp only [List.length_cons]; omega
      · simp only [List.length_cons]; omega
theorem turn_inv {aw : Nat} {g g' : Gr} {k J : Nat} (h : g.turn aw = some g') (hi : g.inv k 0 J) : g'.inv (k + 2100) 0 70000 ∧ g'.N = g.N := by
  unfold Gr.turn at h
  split at h
  · cases h
  · rename_i hle
    obtain ⟨q3, q4⟩ := turnM_inv (J := 0) h ⟨hi.n1, hi.n7, hi.lR, hi.lS, hi.lD, hi.nd, hi.sv, (fun m hm => by cases hm), Nat.le_refl 0, hi.dn, hi.al, hi.ld⟩ fun m hm => hi.nm m hm
    exact ⟨q3.mono (by omega) (Nat.le_refl _) (by omega), q4⟩
/-- the first makes its log short, and saves so -/
def Gr.cutS (n : Nat) (g : Gr) : Option Gr :=
  if ((g.R.getD 0 default).compact n [UInt8.ofNat ((n : Int) % 256).toNat]).1 = 0 ∧ (g.S.getD 0 default).m.ix ≤ n ∧ n - (g.S.getD 0 default).m.ix ≤ ((g.S.getD 0 default).l.length : Int) then
    some { g with R := g.R.set 0 ((g.R.getD 0 default).compact n [UInt8.ofNat ((n : Int) % 256).toNat]).2, S := g.S.set 0 { g.S.getD 0 default with l := (g.S.getD 0 default).l.drop (n - (g.S.getD 0 default).m.ix).toNat, m := ((g.R.getD 0 default).compact n [UInt8.ofNat ((n : Int) % 256).toNat]).2.me, d := [UInt8.ofNat ((n : Int) % 256).toNat] } }
  else none
def Gr.cut (kp : Nat) (g : Gr) : Option Gr := if (g.done.getD 0 []).length ≤ kp then none else (g.cutS ((g.done.getD 0 []).length - kp)).bind fun g => g.settleG 0
theorem compact_me {n : Nd} {ix : Int} {d : List UInt8} (h : (n.compact ix d).1 = 0) : (n.compact ix d).2.me.ix = ix := by
  unfold Nd.compact at h ⊢
  split at h
  · cases h
  · split at h
    · cases h
    · rename_i h1 h2
      rw [if_neg h1, if_neg h2]
      rfl
theorem cutS_inv {g g' : Gr} {n k J : Nat} (h : g.cutS n = some g') (hi : g.inv k 0 J) : g'.inv k 0 J ∧ g'.N = g.N := by
  unfold Gr.cutS at h
  split at h
  · rename_i hc
    obtain ⟨h1, h2, h3⟩ := hc
    simp only [Option.some.injEq] at h
    subst h
    have hn1 := hi.n1
    have hq := inv_compact (hi.nd 0 hn1) n (d := [UInt8.ofNat ((n : Int) % 256).toNat]) (by simp)
    have hme := compact_me h1
    have hs := hi.sv 0 hn1
    generalize (g.R.getD 0 default).compact n [UInt8.ofNat ((n : Int) % 256).toNat] = r at *
    generalize hS : g.S.getD 0 default = S at *
    refine ⟨⟨hi.n1, hi.n7, by show (g.R.set _ _).length = _; rw [List.length_set]; exact hi.lR, by show (g.S.set _ _).length = _; rw [List.length_set]; exact hi.lS, hi.lD, fun a ha => ?_, fun a ha => ?_, hi.nm, hi.nl, hi.dn, hi.al, hi.ld⟩, rfl⟩
    · show ((g.R.set 0 r.2).getD a default).inv k 0
      rw [getD_set _ _ _ _ _ (by rw [hi.lR]; exact hn1)]
      split
      · exact hq
      · exact hi.nd a ha
    · show ((g.S.set 0 _).getD a default).okk k
      rw [getD_set _ _ _ _ _ (by rw [hi.lS]; exact hn1)]
      split
      · have s1 := hs.i1
        refine ⟨by show 0 ≤ r.2.me.ix; omega, ?_, fun i hi2 => ?_, fun e he => hs.en e (List.mem_of_mem_drop he), hq.toFit.ml, by simp⟩
        · show r.2.me.ix + ((S.l.drop (n - S.m.ix).toNat).length : Int) ≤ k
          rw [List.length_drop]
          omega
        · have hi3 : i < (S.l.drop (n - S.m.ix).toNat).length := hi2
          rw [List.length_drop] at hi3
          show ((S.l.drop (n - S.m.ix).toNat).getD i default).ix = r.2.me.ix + i + 1
          rw [List.getD_eq_getElem?_getD, List.getElem?_drop, ← List.getD_eq_getElem?_getD, hs.ix _ (by omega)]
          omega
      · exact hi.sv a ha
  · cases h
end Go.SX.Rf

/- Raft: a log is made short (Compact), what it begins at (Meta), whether voters may be (May). -/
namespace Go.SX
open Go.Proofs
set_option maxRecDepth 1000000
variable {E : Env}

set_option maxHeartbeats 4000000 in
theorem c65p (b : Nat) (n : NL) (ix : Int) (a : Option Addr) (cap : Nat) (d : List UInt8) {k j : Nat} (h : n.nd.fit k j) (hk : k ≤ 2 ^ 30) (hi0 : 0 ≤ ix) (hi1 : ix ≤ 2 ^ 30) (hd : d.length ≤ 2 ^ 23) :
    Spec Try.prog E 65 [.ptr 0 b 0, I ix, vB a cap d] (nO b n) (fun v hp => v = I (n.nd.compact ix d).1 ∧ ∃ n' : NL, n'.nd = (n.nd.compact ix d).2 ∧ hp = nO b n') := by
  refine Spec.see2 ?_
  generalize hP : SeeP _ = P
  have fin : ∀ (n' : NL) (r : Int × Rf.Nd) {hp : List Chunk}, n.nd.compact ix d = r → n'.nd = r.2 → Sees hp (nO b n') → P (I r.1) hp := by
    intro n' r hp h1 h2 h3
    rw [← hP]
    subst h1
    exact ⟨_, nO b n', rfl, fun _ h => h, h3, rfl, n', h2, rfl⟩
  have hg := fit_good h hk
  have hme : n.nd.me.ix = n.rs.mIx := rfl
  have hap : n.nd.applied = n.rs.applied := rfl
  have hi1' := h.i1
  have hi0' := h.i0
  have hlast : n.nd.last = n.nd.me.ix + n.nd.log.length := rfl
  refine spec_of (keep := k65) (args' := [.ptr 0 b 0, I ix, vB a cap d]) Try.func65 rfl Try.ntmps65 s65_ok (by simp) ⟨rfl, fun _ h => h⟩ (fun _ _ h => h) (go_ok _ 30 _ _ ?_)
  simp only [go_sem, s65, k65, List.cons_append, List.nil_append, Nat.reduceBEq, Nat.reduceAdd, Nat.zero_add]
  have hcm : ∀ r, (ix ≤ n.nd.me.ix ∨ n.nd.applied < ix → n.nd.compact ix d = r) → (decide (ix ≤ n.rs.mIx) || decide (n.rs.applied < ix)) = true → n.nd.compact ix d = r := by
    intro r h1 h2
    rw [Bool.or_eq_true, decide_eq_true_eq, decide_eq_true_eq] at h2
    exact h1 h2
  refine ⟨fun h => by rw [h]; rfl, fun hc => ?_, fun hc => ?_⟩
  · refine go_ok _ 10 _ _ ?_
    simp only [go_sem, List.nil_append, Nat.reduceBEq, Try.results65]
    exact fin n (1, n.nd) (hcm _ (fun hh => by unfold Rf.Nd.compact; rw [if_pos hh]) hc) rfl (Sees.refl _)
  have hnc : ¬ (ix ≤ n.nd.me.ix ∨ n.nd.applied < ix) := by
    rw [Bool.or_eq_false_iff] at hc
    exact fun hh => hh.elim (of_decide_eq_false hc.1) (of_decide_eq_false hc.2)
  refine go_ok _ 8 _ _ ?_
  have hdd : decide (8388608 < (d.length : Int)) = false := decide_eq_false (by omega)
  simp only [go_sem, hdd, List.cons_append, List.nil_append, Nat.reduceBEq]
  refine go_ok _ 20 _ _ ?_
  simp only [go_sem, Nat.reduceBEq, Nat.zero_add]
  refine (stp_call [0] (args := [.ptr 0 b 0, I ix]) rfl rfl rfl ⟨_, Try.func39, rfl, rfl⟩ (c39 b n.rs ix hg.sm (by omega) (by omega)) rfl (fun _ h => h) rfl (fun _ _ h => h) ?_).safe trivial
  rintro v hp ⟨rfl, rfl⟩
  refine ⟨by simp only [recheck, recheck1, go_sem, Nat.reduceBEq, Nat.zero_add], ?_⟩
  refine (stp_call [0] (args := [.ptr 0 b 0, I ix]) rfl rfl rfl ⟨_, Try.func64, rfl, rfl⟩ (c64 7 b n.rs n.o ix hg) rfl (fun _ h => h) rfl (fun _ _ h => h) ?_).safe trivial
  rintro v hp ⟨nl, b', off, cap', rfl, rfl⟩
  refine ⟨by simp only [recheck, recheck1, go_sem, Nat.reduceBEq, Nat.zero_add], ?_⟩
  have hvs : n.nd.votersAt ix = n.rs.votersAt n.o ix := nd_votersAt hg ix
  refine safe_frzA (c := 7) (rowsV encI (n.rs.votersAt n.o ix)) rfl (fun _ _ _ _ => rfl) (by simp [frzOk, frzOk1]) ?_
  refine go_ok _ 3 _ _ ?_
  simp only [go_sem, List.cons_append, List.nil_append, Nat.reduceBEq, Nat.zero_add]
  have hvl := hg.vlen ix
  have hcp : n.nd.compact ix d = (0, n.nd.restart ⟨ix, n.nd.term ix, n.nd.votersAt ix⟩ d) := by
    unfold Rf.Nd.compact
    rw [if_neg hnc, if_neg (by omega)]
  refine (stp_call [0, 1, 2, 3, 4, 5, 6] (args := [.ptr 0 b 0, .agg [I ix, I (n.rs.term ix), vI (if nl then none else some ⟨b', off, none⟩) cap' (n.rs.votersAt n.o ix)], vB a cap d]) rfl rfl rfl ⟨_, Try.func86, rfl, rfl⟩
    (c86p b n ix (n.rs.term ix) _ _ (n.rs.votersAt n.o ix) a cap d hg.sm hi0 (by omega) (by show n.rs.mIx ≤ 2 ^ 60; omega) (by omega) (by omega)) rfl (fun _ h => h) rfl (fun _ _ h => h) ?_).safe trivial
  rintro v hp ⟨a1, a2, a3, a4, a5, a6, rfl⟩
  have hnd : (n.restarted ix (n.rs.term ix) a1 a2 (n.rs.votersAt n.o ix) a3 a4 d a5 a6).nd = n.nd.restart ⟨ix, n.nd.term ix, n.nd.votersAt ix⟩ d := by
    rw [nd_restarted, hvs, nd_term]
  generalize n.restarted ix (n.rs.term ix) a1 a2 (n.rs.votersAt n.o ix) a3 a4 d a5 a6 = N at *
  refine ⟨trivial, go_ok _ 100 _ _ ?_⟩
  simp only [go_sem, List.cons_append, List.nil_append, Nat.reduceBEq, Try.results65]
  exact fin N _ hcp hnd (Sees.left (a := [_, _, _, _, _, _, _]) (X := [_]))
theorem c30n (b : Nat) (n : NL) {k j : Nat} (h : n.nd.fit k j) : Spec Try.prog E 30 [.ptr 0 b 0] (nO b n) (fun v hp => (∃ a cap, v = .agg [I n.nd.me.ix, I n.nd.me.tm, vI a cap n.nd.me.vs]) ∧ hp = nO b n) := by
  refine Spec.leave (Post := fun v hp => (∃ a cap, v = .agg [I n.nd.me.ix, I n.nd.me.tm, vI a cap n.nd.me.vs]) ∧ ∃ X, hp = nO b n ++ X) ?_ (fun v hp ⟨h1, X, h2⟩ => ⟨nO b n, X, h2, h1, rfl⟩)
  refine spec_of (keep := k30) (args' := [.ptr 0 b 0]) Try.func30 rfl Try.ntmps30 s30_ok (by simp) ⟨rfl, fun _ h => h⟩ (fun _ _ h => h) (go_ok _ 100 _ _ ?_)
  simp only [go_sem, s30, k30, Nat.reduceBEq, Nat.reduceAdd, Nat.zero_add]
  intro b1
  have hml : n.o.mv.length ≤ 7 := h.ml
  refine (stp_call [] (args := [.agg [I n.s.mIx, I n.s.mTm, vI n.o.ma n.o.mc n.o.mv]]) rfl rfl rfl ⟨_, Try.func35, rfl, rfl⟩ (c35 _ _ _ _ n.o.mv (by omega)) rfl (fun _ h => h) rfl (fun _ _ h => h) ?_).safe trivial
  rintro w hp ⟨rfl, a1, k1, rfl⟩
  refine ⟨by simp only [recheck, go_sem], go_ok _ 2 _ _ ?_⟩
  simp only [go_sem, List.cons_append, List.nil_append, Nat.reduceBEq, Nat.reduceAdd, Nat.zero_add]
  refine safe_retC (l := [.agg [I n.s.mIx, I n.s.mTm, vI a1 k1 n.o.mv]]) (vc := True) ?_ trivial ⟨⟨_, _, rfl⟩, [_], rfl⟩ rfl rfl
  simp only [retC, Try.results30, go_sem, Nat.reduceBEq, ag32]
theorem rising_at : ∀ {l : List Int}, Rf.rising l = true → ∀ i, i < l.length → 0 ≤ l.getD i 0 ∧ l.getD i 0 ≤ 1073741823 ∧ (0 < i → l.getD (i - 1) 0 < l.getD i 0)
  | [], _, i, hi => by simp at hi
  | [x], h, i, hi => by
    simp only [Rf.rising, Rf.isId, Bool.and_eq_true, decide_eq_true_eq] at h
    obtain rfl : i = 0 := by simpa using hi
    exact ⟨h.1, h.2, fun h => absurd h (by omega)⟩
  | x :: y :: r, h, i, hi => by
    simp only [Rf.rising, Rf.isId, Bool.and_eq_true, decide_eq_true_eq] at h
    rcases i with _ | i
    · exact ⟨h.1.1.1, h.1.1.2, fun h => absurd h (by omega)⟩
    · obtain ⟨q1, q2, q3⟩ := rising_at h.2 i (by simpa using hi)
      refine ⟨q1, q2, fun _ => ?_⟩
      rcases i with _ | i
      · exact h.1.2
      · exact q3 (by omega)
set_option maxHeartbeats 2000000 in
theorem c31n (a : Option Addr) (cap : Nat) (vs : List Int) (h : Rf.areVoters vs = true) : Spec Try.prog E 31 [vI a cap vs] [] (fun v hp => v = Bl true ∧ hp = []) := by
  simp only [Rf.areVoters, Bool.and_eq_true, decide_eq_true_eq] at h
  obtain ⟨hr, h1, h7⟩ := h
  refine spec_of (keep := k31) (args' := [vI a cap vs]) Try.func31 rfl Try.ntmps31 s31_ok (by simp) ⟨rfl, fun _ h => h⟩ (fun _ _ h => h) (go_ok _ 20 _ _ ?_)
  simp only [go_sem, s31, k31, Nat.reduceBEq]
  refine safe_loop (ι := {i : Nat // i ≤ vs.length}) (fun g => ⟨[(0, vI a cap vs), (3, I g.1)], []⟩) (fun g => vs.length - g.1)
    ⟨0, Nat.zero_le _⟩ (Sub.front (X := []) (by simp [envSub, look]) rfl) ?_
  rintro ⟨i, hi⟩
  refine go_ok _ 10 _ _ ?_
  simp only [go_sem, Nat.reduceBEq]
  refine ⟨fun hc => ?_, fun hc => ?_⟩
  · have hlt : i < vs.length := by have := of_decide_eq_true hc; omega
    obtain ⟨q1, q2, q3⟩ := rising_at hr i hlt
    have d1 : decide (vs.getD i 0 < 0) = false := decide_eq_false (by omega)
    have d2 : decide (1073741824 ≤ vs.getD i 0) = false := decide_eq_false (by omega)
    refine go_ok _ 60 _ _ ?_
    simp only [go_sem, d1, d2, Nat.reduceBEq, Int.toNat_natCast, Try.results31]
    have hq : ∀ {p : Prop}, p → decide (0 < (i : Int)) = true → p := fun h _ => h
    have hi0 : decide (0 < (i : Int)) = true → 0 < i := fun h => by have := of_decide_eq_true h; omega
    refine ⟨⟨by omega, by omega⟩, by decide, ⟨by omega, by omega⟩, by decide, fun h => ⟨by rw [h]; rfl, by omega, by omega⟩, fun h => ⟨h, by decide⟩, fun h => ⟨h, by simp only [inI64]; omega⟩, fun h => ⟨by rw [h]; rfl, by have := hi0 h; omega, by omega⟩, fun h => ⟨h, by decide⟩, fun h => by rw [h]; rfl, fun h => ?_, fun h => ⟨by simp only [inI64]; omega, ?_⟩⟩
    · rw [Bool.and_eq_true, decide_eq_true_eq, decide_eq_true_eq] at h
      have e : ((i : Int) - 1).toNat = i - 1 := by omega
      rw [e] at h
      have := q3 (by omega)
      omega
    · exact safe_lend (⟨i + 1, hlt⟩ : {i : Nat // i ≤ vs.length}) (by simp only; omega) (Sub.front (X := []) (by simp [envSub, look]) rfl)
  · have hii : i = vs.length := by have := of_decide_eq_false hc; omega
    subst hii
    refine go_ok _ 30 _ _ ?_
    simp only [go_sem, Nat.reduceBEq, Try.results31]
    rw [decide_eq_true (show (1 : Int) ≤ vs.length by omega), decide_eq_true (show (vs.length : Int) ≤ 7 by omega)]
    rfl
end Go.SX
