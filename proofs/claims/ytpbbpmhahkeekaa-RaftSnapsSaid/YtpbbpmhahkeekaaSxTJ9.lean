/- Joined texts: T43 PG T44. -/
import Derived.Test.YtpbbpmhahkeekaaSxTJ8
/- Raft: a node of a group begins from what it saved. -/
namespace Go.SX
open Go.Proofs
set_option maxRecDepth 1000000
variable {E : Env}

theorem upTo_voters {N : Nat} (h : 1 ≤ N) (h7 : N ≤ 7) : Rf.areVoters (upTo N) = true := by
  have : N = 1 ∨ N = 2 ∨ N = 3 ∨ N = 4 ∨ N = 5 ∨ N = 6 ∨ N = 7 := by omega
  rcases this with rfl | rfl | rfl | rfl | rfl | rfl | rfl <;> decide
theorem getS_pl (g : GL) {i : Nat} (h : i < g.S.length) : g.pl.S.getD i default = (g.S.getD i default).pl := by
  show (g.S.map SvL.pl).getD i default = _
  rw [List.getD_eq_getElem?_getD, List.getD_eq_getElem?_getD, List.getElem?_map, List.getElem?_eq_getElem h]
  rfl
theorem pl_set {α β : Type} (f : α → β) (l : List α) (i : Nat) (x : α) : (l.set i x).map f = (l.map f).set i (f x) := List.map_set ..
theorem row_set {α : Type} [Inhabited α] {enc : α → List SV} {xs : List α} {i sz : Nat} {y : α} {cs : List SV} (hi : i < xs.length) (hs : (enc y).length = sz) (hcs : cs.length = sz)
    (hd : ∀ j, j < sz → ((enc y).getD j default).den = (cs.getD j default).den ∧ ∀ ro, (cs.getD j default).ok ro → ((enc y).getD j default).ok ro) {ro : RO} {H : Hp} {nl : Bool} {b : Nat} {t : TypeId} {off cap : Nat}
    (h : (Chunk.row nl b t off sz xs.length cap (updF (rowsV enc xs) i 0 cs)).sat ro H) : (Chunk.row nl b t off sz xs.length cap (rowsV enc (xs.set i y))).sat ro H := by
  refine row_see (fun k j hk hj => ?_) h
  have e := updF_row (enc := enc) (xs := xs) (i := i) (sz := sz) (y := y) hi hs rfl k j hk hj
  rw [← e]
  by_cases hki : k = i
  · subst hki
    have e2 : (Nat.ble 0 j && Nat.blt j (0 + (enc y).length)) = true := by rw [Bool.and_eq_true, Nat.ble_eq, Nat.blt_eq]; omega
    have e3 : (Nat.ble 0 j && Nat.blt j (0 + cs.length)) = true := by rw [Bool.and_eq_true, Nat.ble_eq, Nat.blt_eq]; omega
    simp only [updF, beq_self_eq_true, e2, e3, Bool.and_self, cond_true, Nat.sub_zero]
    exact hd j hj
  · have e2 : (k == i) = false := by simpa using hki
    simp only [updF, e2, Bool.false_and, cond_false]
    exact ⟨trivial, fun _ h => h⟩
/-- one of a bag is dropped, another laid in its place -/
theorem Sees.swap {α : Type} (f : α → Chunk) (q : α) {hp : List Chunk} {c i : Nat} {L : List α} (hc : getC hp c = sepC (L.map f)) (hi : i < L.length) : Sees (hp ++ [f q]) (setC hp c (sepC ((L.set i q).map f))) := by
  have hlt : c < hp.length := getC_lt (by rw [hc]; simp [sepC])
  refine Sees.trans (Sees.app (Sees.out' f (c := c) (i := i) (L := L) hc (List.getElem?_eq_getElem hi)) (Sees.refl [f q])) ?_
  rw [List.append_assoc]
  refine Sees.trans (Sees.app (Sees.refl _) (Sees.skip (Sees.refl [f q]))) ?_
  refine Sees.trans (Sees.in' f q (c := c) (i := i) (L := L) (getC_set _ _ _ hlt) hi) ?_
  rw [setC_setC]
  exact Sees.refl _
theorem updF_twice {f : Nat → Nat → SV} {i j : Nat} {cs cs' : List SV} (h : cs.length = cs'.length) : updF (updF f i j cs) i j cs' = updF f i j cs' := by
  funext a c
  unfold updF
  rw [h]
  cases (a == i && (Nat.ble j c && Nat.blt c (j + cs'.length))) <;> rfl
theorem rowsE_take (xs : List Ent) {a q j : Nat} (h : a < q) : rowsV encE (xs.take q) a j = rowsV encE xs a j := by
  have e : (xs.take q).getD a default = xs.getD a default := by
    rw [List.getD_eq_getElem?_getD, List.getD_eq_getElem?_getD, List.getElem?_take_of_lt h]
  unfold rowsV
  rw [e]
theorem sees_back (b : Nat) (g : GL) {i nb : Nat} (n : NL) (d : DnL) {f1 f4 : Nat → Nat → SV} (hi : i < g.R.length) (hi' : i < g.D.length)
    (h1 : ∀ ro H, (Chunk.row g.rw.nl g.rw.b 24 g.rw.off 1 g.R.length g.rw.cap f1).sat ro H → (Chunk.row g.rw.nl g.rw.b 24 g.rw.off 1 g.R.length g.rw.cap (rowsV encR (g.R.set i (some (nb, n))))).sat ro H)
    (h4 : ∀ ro H, (Chunk.row g.dw.nl g.dw.b 36 g.dw.off 1 g.D.length g.dw.cap f4).sat ro H → (Chunk.row g.dw.nl g.dw.b 36 g.dw.off 1 g.D.length g.dw.cap (rowsV encD (g.D.set i d))).sat ro H) :
    Sees ([.cells b 63 g.cs, .row g.rw.nl g.rw.b 24 g.rw.off 1 g.R.length g.rw.cap f1, g.sw.ch 108 8 encS g.S, g.nw.ch 54 15 encM g.net, .row g.dw.nl g.dw.b 36 g.dw.off 1 g.D.length g.dw.cap f4, g.aw.ch 43 4 encE g.al, g.lw.ch 3 1 encI g.ld, sepC (g.R.map RN.ch), sepC (g.D.map DnL.ch)] ++ (nO nb n ++ [d.ch])) (gO b { g with R := g.R.set i (some (nb, n)), D := g.D.set i d }) := by
  refine Sees.trans (Sees.app (Sees.refl _) (Sees.app (Sees.bag (nO nb n)) (Sees.refl [d.ch]))) ?_
  rw [← List.append_assoc]
  refine Sees.trans (Sees.app (Sees.swap RN.ch (some (nb, n)) (c := 7) (i := i) (L := g.R) rfl hi) (Sees.refl _)) ?_
  refine Sees.trans (Sees.swap DnL.ch d (c := 8) (i := i) (L := g.D) rfl hi') ?_
  have e2 : (g.R.set i (some (nb, n))).length = g.R.length := List.length_set ..
  have e3 : (g.D.set i d).length = g.D.length := List.length_set ..
  simp only [gO, GL.cs, Rw.ch, e2, e3, setC]
  exact Sees.same (Sees.cons (fun ro H hh => ⟨H, [], by simp, h1 ro H hh⟩) (Sees.same (Sees.same (Sees.cons (fun ro H hh => ⟨H, [], by simp, h4 ro H hh⟩) (Sees.refl _)))))
set_option maxHeartbeats 4000000 in
theorem c58p (b : Nat) (g : GL) (i N k : Nat) (hN : g.N = N) (h1 : 1 ≤ N) (h7 : N ≤ 7) (hi : i < N) (hR : i < g.R.length) (hS : i < g.S.length) (hD : i < g.D.length) (hs : (g.S.getD i default).pl.fit k) (hk : k ≤ 2 ^ 30) (hm : (g.S.getD i default).mi ≤ g.al.length) (hal : g.al.length ≤ 2 ^ 30) :
    Spec Try.prog E 58 [.ptr 0 b 0, I i] (gO b g) (fun _ hp => ∃ g' : GL, g'.pl = g.pl.back i ∧ g'.ok = g.ok ∧ (∃ nb n d, g' = { g with R := g.R.set i (some (nb, n)), D := g.D.set i d }) ∧ hp = gO b g') := by
  refine Spec.see2 ?_
  generalize hP : SeeP _ = P
  have hvo : g.pl.voters = upTo N := by
    show (List.range g.N.toNat).map _ = _
    rw [hN, Int.toNat_natCast]; rfl
  have fin : ∀ (r : SV) (nb : Nat) (n : NL) (d : DnL) {X hp : List Chunk}, n.nd = Rf.Nd.new i (upTo N) (g.S.getD i default).pl.h (g.S.getD i default).pl.m (g.S.getD i default).pl.d (g.S.getD i default).pl.l →
      d.xs.map Ent.pl = (if 0 < (g.S.getD i default).mi then (g.al.map Ent.pl).take (g.S.getD i default).mi.toNat else []) → Sees hp (gO b { g with R := g.R.set i (some (nb, n)), D := g.D.set i d }) → P r hp := by
    intro r nb n d X hp hn hd hsee
    rw [← hP]
    refine ⟨r, _, rfl, fun _ h => h, hsee, { g with R := g.R.set i (some (nb, n)), D := g.D.set i d }, ?_, rfl, ⟨nb, n, d, rfl⟩, rfl⟩
    unfold Rf.Gr.back GL.pl
    dsimp only
    rw [pl_set, pl_set]
    have e1 : (g.S.map SvL.pl).getD i default = (g.S.getD i default).pl := getS_pl g (by omega)
    have e2 : RN.pl (some (nb, n)) = n.nd := rfl
    rw [e1, e2, hn, hd]
    have e3 : Rf.Gr.voters ⟨g.R.map RN.pl, g.S.map SvL.pl, g.net.map MsL.pl, g.D.map fun d => d.xs.map Ent.pl, g.al.map Ent.pl, g.ld, g.N.toNat⟩ = upTo N := hvo
    rw [e3]
    rfl
  have hmi0 : 0 ≤ (g.S.getD i default).mi := hs.i0
  generalize hsv : g.S.getD i default = sv at *
  refine spec_of (keep := k58) (args' := [.ptr 0 b 0, I i]) Try.func58 rfl Try.ntmps58 s58_ok (by simp) ⟨rfl, fun _ h => h⟩ (fun _ _ h => h) (go_ok _ 100 _ _ ?_)
  simp only [go_sem, s58, k58, Nat.reduceBEq, Nat.reduceAdd, Nat.zero_add, Int.toNat_natCast]
  simp only [hsv]
  refine ⟨⟨by omega, by omega, Nat.le_refl _⟩, ⟨by omega, by decide⟩, fun b1 => ?_⟩
  refine (stp_call [0] (args := [.ptr 0 b 0]) rfl rfl rfl ⟨_, Try.func80, rfl, rfl⟩ (c80 10 b g N hN (by omega)) rfl (fun _ h => h) rfl (fun _ _ h => h) ?_).safe trivial
  rintro v hp ⟨nl, b2, off, cap2, rfl, rfl⟩
  refine ⟨by simp only [recheck, recheck1, go_sem, Nat.reduceBEq, Nat.zero_add], ?_⟩
  refine safe_frzA (c := 10) (rowsV encI (upTo N)) rfl (fun _ _ _ _ => rfl) (by simp [frzOk, frzOk1]) ?_
  simp only [go_sem]
  refine (stp_call [] (args := [I i, vI (if nl then none else some ⟨b2, off, none⟩) cap2 (upTo N), .agg [I sv.hT, I sv.hV, I sv.hC], .agg [I sv.mi, I sv.mm, vI sv.mv.a sv.mv.cap sv.mv.xs], vB sv.d.a sv.d.cap sv.d.xs, vE sv.l.a sv.l.cap sv.l.xs]) rfl rfl rfl ⟨_, Try.func13, rfl, rfl⟩
    (c13p 11 k i _ cap2 (upTo N) sv.pl sv.mv.a sv.mv.cap sv.d.a sv.d.cap sv.l.a sv.l.cap sv.l.xs rfl hs (by simp only [Rf.isId, Bool.and_eq_true, decide_eq_true_eq]; omega) (upTo_voters h1 h7) hk) rfl (fun _ h => h) rfl (fun _ _ h => h) ?_).safe trivial
  rintro v hp ⟨nb, n, rfl, hn, rfl⟩
  have d0 : decide ((0 : Int) ≠ 0) = false := rfl
  refine ⟨trivial, safe_rowcap (c := 5) rfl fun hcap => go_ok _ 100 _ _ ?_⟩
  simp only [go_sem, d0, List.cons_append, List.nil_append, Nat.reduceBEq, Nat.reduceAdd, Nat.zero_add, Int.toNat_natCast]
  have hrow1 : ∀ ro H, (Chunk.row g.rw.nl g.rw.b 24 g.rw.off 1 g.R.length g.rw.cap (updF (rowsV encR g.R) i 0 [SV.ptr 11 nb 0])).sat ro H → (Chunk.row g.rw.nl g.rw.b 24 g.rw.off 1 g.R.length g.rw.cap (rowsV encR (g.R.set i (some (nb, n))))).sat ro H := by
    intro ro H hh
    refine row_set (enc := encR) (xs := g.R) (y := some (nb, n)) (cs := [SV.ptr 11 nb 0]) (sz := 1) (by omega) rfl rfl (fun j hj => ?_) hh
    obtain rfl : j = 0 := by omega
    exact ⟨rfl, fun _ _ => by simp [encR, SV.ok]⟩
  refine ⟨⟨by omega, by omega, Nat.le_refl _⟩, ⟨by omega, by decide⟩, ⟨by omega, by omega, Nat.le_refl _⟩, ⟨by omega, by decide⟩, fun hc => ?_, fun hc => ?_⟩
  · have hc' : 0 < sv.mi := of_decide_eq_true hc
    obtain ⟨q, hq⟩ : ∃ q : Nat, sv.mi = q := ⟨sv.mi.toNat, by omega⟩
    rw [hq] at hc' hm ⊢
    have hm' : q ≤ g.al.length := by omega
    simp only [Int.toNat_natCast, Int.toNat_zero, Nat.zero_mul, Nat.add_zero, Nat.sub_zero, ite_self]
    refine ⟨by and_intros <;> first | omega | (intro h; cases h), fun b3 => ⟨by and_intros <;> first | omega | (intro h; cases h), ?_⟩⟩
    refine (stp_app2 (c := 18) (b := b3) (off := 0) (nl := false) (n := 0) (cap := 0) (x := .osl 5 g.aw.nl g.aw.b g.aw.off q g.aw.cap) (gx := rowsV encE g.al) (m := q) (f := litF 4 []) (f2 := rowsV encE (g.al.take q)) (N := q) rfl rfl rfl rfl ?_ ?_ (by omega) (by omega) (fun a j ha hj => ?_) fun nl' b' off' cap' => ?_).safe trivial
    · exact ⟨rfl, rfl, rfl, rfl, hm'⟩
    · exact onesF_rows fun x => ⟨rfl, by simp [encE, ones, one, Value.oneCell']⟩
    · rw [rowsE_take g.al (show a < q by omega)]
      have e2 : appF (litF 4 []) 0 (rowsV encE g.al) a j = rowsV encE g.al a j := by rw [appF_zero]
      exact e2
    refine ⟨by simp only [recheck, recheck1, go_sem, Nat.reduceBEq, Nat.zero_add], go_ok _ 100 _ _ ?_⟩
    simp only [go_sem, Nat.reduceBEq, Nat.zero_add, Int.toNat_natCast, Try.results58]
    refine ⟨⟨by omega, by omega, Nat.le_refl _⟩, ⟨by omega, by decide⟩, ?_⟩
    have htl : (g.al.take q).length = q := by rw [List.length_take]; omega
    refine fin _ nb n ⟨⟨nl', b', off', cap'⟩, g.al.take q⟩ (X := []) hn (by rw [hq, if_pos hc', Int.toNat_natCast, List.map_take]) ?_
    refine Sees.trans ?_ (sees_back b g n ⟨⟨nl', b', off', cap'⟩, g.al.take q⟩ (f1 := updF (rowsV encR g.R) i 0 [SV.ptr 11 nb 0]) (f4 := updF (rowsV encD g.D) i 0 [SV.osl 18 nl' b' off' q cap']) (by omega) (by omega) hrow1 ?_)
    · rw [updF_twice (cs := [SV.view none 0 0 1 fun x x_1 => SV.val undef]) (cs' := [SV.osl 18 nl' b' off' q cap']) rfl]
      refine Sees.app (a := [_, _, _, _, _, _, _, _, _]) (b := [_, _, _, _, _, _, _, _, _]) (c := [_, _] ++ (nO nb n ++ [_])) (Sees.refl _) (Sees.trans Sees.dropL ?_)
      simp only [DnL.ch, Rw.ch, htl]
      exact Sees.refl _
    · intro ro H hh
      refine row_set (enc := encD) (xs := g.D) (y := ⟨⟨nl', b', off', cap'⟩, g.al.take q⟩) (cs := [SV.osl 18 nl' b' off' q cap']) (sz := 1) (by omega) rfl rfl (fun j hj => ?_) hh
      obtain rfl : j = 0 := by omega
      refine ⟨?_, fun _ _ => by simp [encD, Rw.sv, SV.ok]⟩
      simp only [encD, Rw.sv, htl, List.getD_cons_zero, SV.den]
  · have hc' : ¬ 0 < sv.mi := of_decide_eq_false hc
    refine fin _ nb n ⟨nilR, []⟩ (X := []) hn (by rw [if_neg hc']; rfl) ?_
    refine Sees.trans ?_ (sees_back b g n ⟨nilR, []⟩ (f1 := updF (rowsV encR g.R) i 0 [SV.ptr 11 nb 0]) (f4 := updF (rowsV encD g.D) i 0 [SV.view none 0 0 1 fun x x_1 => SV.val undef]) (by omega) (by omega) hrow1 ?_)
    · exact Sees.app (a := [_, _, _, _, _, _, _, _, _]) (b := [_, _, _, _, _, _, _, _, _]) (c := [_, _] ++ nO nb n) (Sees.refl _) (Sees.trans Sees.dropL (Sees.app (a := nO nb n) (c := []) (Sees.refl (nO nb n)) (Sees.new (nil_ch 43 4 encE) (Sees.refl []))))
    · intro ro H hh
      refine row_set (enc := encD) (xs := g.D) (y := ⟨nilR, []⟩) (cs := [SV.view none 0 0 1 fun x x_1 => SV.val undef]) (sz := 1) (by omega) rfl rfl (fun j hj => ?_) hh
      obtain rfl : j = 0 := by omega
      exact ⟨rfl, fun _ _ => by simp [encD, Rw.sv, SV.ok]⟩
end Go.SX

/- Raft, plainly: a group's numbers stay small. -/
namespace Go.SX.Rf

/-- what was saved, its numbers small -/
structure Sv.okk (s : Sv) (k : Nat) : Prop where
  i0 : 0 ≤ s.m.ix
  i1 : s.m.ix + s.l.length ≤ k
  ix : ∀ i, i < s.l.length → (s.l.getD i default).ix = s.m.ix + i + 1
  en : ∀ e ∈ s.l, e.fit k
  ml : s.m.vs.length ≤ 7
  dl : s.d.length ≤ 2 ^ 23
/-- what is told, its numbers small -/
structure Nd.Rd.fit (r : Nd.Rd) (k j : Nat) : Prop where
  sn : ∀ m d, r.snap = some (m, d) → 0 ≤ m.ix ∧ m.ix ≤ k ∧ m.vs.length ≤ 7 ∧ d.length ≤ 2 ^ 23
  es : ∀ e ∈ r.es, e.fit k ∧ 0 ≤ e.ix ∧ e.ix ≤ k
  cs : ∀ e ∈ r.cs, e.fit k ∧ 0 ≤ e.ix ∧ e.ix ≤ k
  ms : ∀ m ∈ r.ms, m.fit k
  ml : r.ms.length ≤ j
  el : r.es.length ≤ k
  cl : r.cs.length ≤ k
theorem from_all {n : Nd} {k j : Nat} (h : n.fit k j) (i c : Int) : (∀ e ∈ n.fromE i c, e.fit k ∧ 0 ≤ e.ix ∧ e.ix ≤ k) ∧ (n.fromE i c).length ≤ k := by
  have h0 := h.i0; have h1 := h.i1
  have hl : n.last = n.me.ix + n.log.length := rfl
  refine ⟨fun e he => ?_, ?_⟩
  · have hm := from_mem he
    have := h.lix hm
    exact ⟨h.en e hm, by omega, by omega⟩
  · unfold Nd.fromE
    rw [List.length_take, List.length_drop]
    omega
theorem ready_fit {n : Nd} {k j : Nat} (h : n.inv k j) : n.ready.1.fit k j := by
  have h0 := h.i0; have h1 := h.i1
  have hl : n.last = n.me.ix + n.log.length := rfl
  have hes : n.ready.1.es = if n.fresh = 0 then [] else n.fromE n.fresh n.log.length := rfl
  have hcs : n.ready.1.cs = n.fromE (n.applied + 1) (n.hd.cm - n.applied) := rfl
  have hsn : n.ready.1.snap = if n.snap then some (n.me, n.d) else none := rfl
  refine ⟨fun m d hs => ?_, ?_, ?_, h.mo, h.ms, ?_, ?_⟩
  · rw [hsn] at hs
    split at hs
    · injection hs with hs
      injection hs with h2 h3
      subst h2 h3
      exact ⟨h0, by omega, h.ml, h.dl⟩
    · cases hs
  · rw [hes]
    split
    · simp
    · exact (from_all h.toFit _ _).1
  · rw [hcs]; exact (from_all h.toFit _ _).1
  · rw [hes]
    split
    · simp
    · exact (from_all h.toFit _ _).2
  · rw [hcs]; exact (from_all h.toFit _ _).2
structure Gr.inv (g : Gr) (k j J : Nat) : Prop where
  n1 : 1 ≤ g.N
  n7 : g.N ≤ 7
  lR : g.R.length = g.N
  lS : g.S.length = g.N
  lD : g.done.length = g.N
  nd : ∀ i, i < g.N → (g.R.getD i default).inv k j
  sv : ∀ i, i < g.N → (g.S.getD i default).okk k
  nm : ∀ m ∈ g.net, m.fit k
  nl : g.net.length ≤ J
  dn : ∀ i, i < g.N → (g.done.getD i []).length ≤ g.all.length
  al : g.all.length ≤ k
  ld : g.lead.length ≤ 5000
theorem getD_set {α : Type} (l : List α) (i a : Nat) (x d : α) (hi : i < l.length) : (l.set i x).getD a d = if a = i then x else l.getD a d := by
  rw [List.getD_eq_getElem?_getD, List.getD_eq_getElem?_getD]
  split
  · rename_i h
    subst h
    rw [List.getElem?_set_self hi]
    rfl
  · rename_i h
    rw [List.getElem?_set_ne (Ne.symm h)]
theorem saveE_okk {k : Nat} : ∀ {es : List En} {s s' : Sv}, Gr.saveE s es = some s' → s.okk k → (∀ e ∈ es, e.fit k ∧ 0 ≤ e.ix ∧ e.ix ≤ k) → s'.okk k
  | [], s, s', h, hs, _ => by
    simp only [Gr.saveE, Option.some.injEq] at h
    rw [← h]; exact hs
  | e :: r, s, s', h, hs, he => by
    unfold Gr.saveE at h
    split at h
    · cases h
    · rename_i hc
      obtain ⟨h1, h2, h3⟩ := he e (by simp)
      have hlt : ¬ (e.ix - s.m.ix - 1 < 0) := fun q => hc (.inl q)
      have hle : ¬ ((s.l.length : Int) < e.ix - s.m.ix - 1) := fun q => hc (.inr q)
      have htl : (s.l.take (e.ix - s.m.ix - 1).toNat).length = (e.ix - s.m.ix - 1).toNat := by rw [List.length_take]; omega
      refine saveE_okk h ⟨hs.i0, ?_, fun i hi => ?_, fun x hx => ?_, hs.ml, hs.dl⟩ fun x hx => he x (List.mem_cons_of_mem _ hx)
      · dsimp only
        rw [List.length_append, htl, List.length_singleton]
        have := hs.i0
        omega
      · dsimp only at hi ⊢
        rw [List.length_append, htl, List.length_singleton] at hi
        by_cases hil : i < (e.ix - s.m.ix - 1).toNat
        · rw [List.getD_eq_getElem?_getD, List.getElem?_append_left (by rw [htl]; exact hil), List.getElem?_take_of_lt hil, ← List.getD_eq_getElem?_getD]
          exact hs.ix i (by omega)
        · have : i = (e.ix - s.m.ix - 1).toNat := by omega
          subst this
          rw [List.getD_eq_getElem?_getD, List.getElem?_append_right (by rw [htl]; omega), htl, Nat.sub_self]
          show e.ix = _
          omega
      · dsimp only at hx
        rcases List.mem_append.1 hx with hx | hx
        · exact hs.en x (List.mem_of_mem_take hx)
        · rw [List.mem_singleton.1 hx]; exact h1
theorem doE_ok {k : Nat} : ∀ {cs : List En} {dn al dn' al' : List En}, Gr.doE (dn, al) cs = some (dn', al') → dn.length ≤ al.length → al.length ≤ k → (∀ e ∈ cs, e.ix ≤ k) → dn'.length ≤ al'.length ∧ al'.length ≤ k ∧ al.length ≤ al'.length
  | [], dn, al, dn', al', h, h1, h2, _ => by
    simp only [Gr.doE, Option.some.injEq, Prod.mk.injEq] at h
    obtain ⟨rfl, rfl⟩ := h
    exact ⟨h1, h2, Nat.le_refl _⟩
  | e :: r, dn, al, dn', al', h, h1, h2, he => by
    have h3 := he e (by simp)
    unfold Gr.doE at h
    split at h
    · cases h
    · rename_i hix
      have hix : e.ix = dn.length + 1 := by simpa using hix
      dsimp only at h
      generalize hA : (if (al.length : Int) < e.ix then al ++ [e] else al) = A at h
      split at h
      · cases h
      · have hal : (if (al.length : Int) < e.ix then al ++ [e] else al).length ≤ k ∧ (dn ++ [e]).length ≤ (if (al.length : Int) < e.ix then al ++ [e] else al).length ∧ al.length ≤ (if (al.length : Int) < e.ix then al ++ [e] else al).length := by
          split
          · simp only [List.length_append, List.length_singleton]
            omega
          · simp only [List.length_append, List.length_singleton]
            omega
        rw [hA] at hal
        obtain ⟨q1, q2, q3⟩ := doE_ok h hal.2.1 hal.1 fun x hx => he x (List.mem_cons_of_mem _ hx)
        exact ⟨q1, q2, by omega⟩
theorem stay_okk {s : Sv} {k : Nat} (hs : s.okk k) (m : Me) : (Gr.stay s.l m) = [] ∨ ∃ i, i < s.l.length ∧ m.ix = s.m.ix + i + 1 ∧ Gr.stay s.l m = s.l.drop (i + 1) := by
  unfold Gr.stay
  split
  · rename_i i hf
    obtain ⟨h1, h2, _⟩ := List.findIdx?_eq_some_iff_getElem.1 hf
    simp only [Bool.and_eq_true, decide_eq_true_eq] at h2
    refine .inr ⟨i, h1, ?_, rfl⟩
    have := hs.ix i h1
    rw [List.getD_eq_getElem?_getD, List.getElem?_eq_getElem h1, Option.getD_some] at this
    omega
  · exact .inl rfl
theorem settle1_inv {g g' : Gr} {k j J i : Nat} (h : g.inv k j J) (hi : i < g.N) (hs : g.settle1 i = some g') : g'.inv k j (J + j) ∧ g'.N = g.N ∧ (g'.R.getD i default).inv k 0 ∧ (∀ a, a ≠ i → g'.R.getD a default = g.R.getD a default) := by
  have hn := h.nd i hi
  have hrf := ready_fit hn
  have hri := inv_ready hn
  unfold Gr.settle1 at hs
  dsimp only at hs
  generalize g.R.getD i default = n at hn hrf hri hs
  have hsv := h.sv i hi
  have hdn := h.dn i hi
  generalize hS : g.S.getD i default = s at hsv hs
  split at hs
  · cases hs
  · rename_i s1 dn1 h1
    have hk1 : s1.okk k ∧ dn1.length ≤ g.all.length := by
      split at h1
      · rename_i m d hsn
        split at h1
        · cases h1
        · rename_i hle
          injection h1 with h1
          injection h1 with h2 h3
          subst h2 h3
          obtain ⟨q1, q2, q3, q4⟩ := hrf.sn m d hsn
          refine ⟨?_, by rw [List.length_take]; omega⟩
          rcases stay_okk hsv m with e | ⟨a, ha1, ha2, e⟩
          · refine ⟨q1, ?_, fun i hi => ?_, ?_, q3, q4⟩
            · dsimp only; rw [e]; simp; omega
            · dsimp only at hi; rw [e] at hi; simp at hi
            · dsimp only; rw [e]; simp
          · have hi1 := hsv.i1
            refine ⟨q1, ?_, fun b hb => ?_, fun x hx => ?_, q3, q4⟩
            · dsimp only; rw [e, List.length_drop]; omega
            · dsimp only at hb ⊢
              rw [e] at hb ⊢
              rw [List.length_drop] at hb
              rw [getD_drop, hsv.ix _ (by omega)]
              omega
            · dsimp only at hx; rw [e] at hx
              exact hsv.en x (List.mem_of_mem_drop hx)
      · injection h1 with h1
        injection h1 with h2 h3
        subst h2 h3
        exact ⟨hsv, hdn⟩
    split at hs
    · cases hs
    · rename_i s2 h2
      have hk2 := saveE_okk h2 hk1.1 hrf.es
      split at hs
      · cases hs
      · rename_i s3 h3
        have hk3 : s3.okk k := by
          split at h3
          · split at h3
            · cases h3
            · injection h3 with h3
              rw [← h3]
              exact ⟨hk2.i0, hk2.i1, hk2.ix, hk2.en, hk2.ml, hk2.dl⟩
          · injection h3 with h3
            rw [← h3]; exact hk2
        split at hs
        · cases hs
        · rename_i dn4 al4 h4
          obtain ⟨q1, q2, q3⟩ := doE_ok h4 hk1.2 h.al fun e he => (hrf.cs e he).2.2
          injection hs with hs
          subst hs
          have hR : ∀ a, (g.R.set i n.ready.2).getD a default = if a = i then n.ready.2 else g.R.getD a default := fun a => getD_set _ _ _ _ _ (by rw [h.lR]; exact hi)
          refine ⟨⟨h.n1, h.n7, by rw [List.length_set]; exact h.lR, by rw [List.length_set]; exact h.lS, by rw [List.length_set]; exact h.lD, fun a ha => ?_, fun a ha => ?_, fun m hm => ?_, ?_, fun a ha => ?_, q2, h.ld⟩, rfl, ?_, fun a ha => ?_⟩
          · dsimp only
            rw [hR]
            split
            · exact hri.mono (Nat.le_refl _) (Nat.zero_le _)
            · exact h.nd a ha
          · dsimp only
            rw [getD_set _ _ _ _ _ (by rw [h.lS]; exact hi)]
            split
            · exact hk3
            · exact h.sv a ha
          · rcases List.mem_append.1 hm with hm | hm
            · exact h.nm m hm
            · exact hrf.ms m hm
          · have := h.nl; have := hrf.ml
            simp only [List.length_append]; omega
          · dsimp only
            rw [getD_set _ _ _ _ _ (by rw [h.lD]; exact hi)]
            split
            · exact q1
            · exact Nat.le_trans (h.dn a ha) q3
          · dsimp only
            rw [hR, if_pos rfl]
            exact hri
          · dsimp only
            rw [hR, if_neg ha]
theorem Gr.inv.mono {g : Gr} {k j J k' j' J' : Nat} (h : g.inv k j J) (hk : k ≤ k') (hj : j ≤ j') (hJ : J ≤ J') : g.inv k' j' J' :=
  ⟨h.n1, h.n7, h.lR, h.lS, h.lD, fun i hi => (h.nd i hi).mono hk hj, fun i hi => by
    have q := h.sv i hi
    exact ⟨q.i0, by have := q.i1; omega, q.ix, fun e he => (q.en e he).mono hk, q.ml, q.dl⟩, fun m hm => (h.nm m hm).mono hk, Nat.le_trans h.nl hJ, h.dn, Nat.le_trans h.al hk, h.ld⟩
/-- three times, what a node tells -/
def Gr.settle3 (g : Gr) (i : Nat) : Option Gr := ((g.settle1 i).bind fun g => g.settle1 i).bind fun g => g.settle1 i
/-- who leads a term is written down -/
def Gr.led (g : Gr) (i : Nat) : Option Gr :=
  if (g.R.getD i default).role = 2 ∧ (g.R.getD i default).hd.tm < 5000 then
    (if 0 ≤ (g.lead ++ List.replicate ((g.R.getD i default).hd.tm.toNat + 1 - g.lead.length) (-1)).getD (g.R.getD i default).hd.tm.toNat 0 ∧ (g.lead ++ List.replicate ((g.R.getD i default).hd.tm.toNat + 1 - g.lead.length) (-1)).getD (g.R.getD i default).hd.tm.toNat 0 ≠ (i : Int) then none
      else some { g with lead := (g.lead ++ List.replicate ((g.R.getD i default).hd.tm.toNat + 1 - g.lead.length) (-1)).set (g.R.getD i default).hd.tm.toNat i })
  else some g
/-- (PM's 'settle' lengthens what is known of leaders in terms past 5000 too; the program does not) -/
def Gr.settleG (g : Gr) (i : Nat) : Option Gr := (g.settle3 i).bind fun g => g.led i
def Gr.quietTG : List Nat → Gr → Option Gr
  | [], g => some g
  | i :: r, g => ((g.tickI i ((i * 7 % 10 : Nat) : Int)).settleG i).bind (quietTG r)
def Gr.quietMG : List Ms → Gr → Option Gr
  | [], g => some g
  | m :: r, g => if m.to < 0 ∨ (g.N : Int) ≤ m.to then quietMG r g else ((g.stepI m.to.toNat m).settleG m.to.toNat).bind (quietMG r)
theorem led_inv {g g' : Gr} {k j J i : Nat} (h : g.inv k j J) (hs : g.led i = some g') : g'.inv k j J ∧ g'.N = g.N := by
  unfold Gr.led at hs
  split at hs
  · rename_i hc
    have hl : (g.lead ++ List.replicate ((g.R.getD i default).hd.tm.toNat + 1 - g.lead.length) (-1)).length ≤ 5000 := by
      have := h.ld
      rw [List.length_append, List.length_replicate]
      omega
    split at hs
    · cases hs
    · injection hs with hs
      subst hs
      exact ⟨{ h with ld := by dsimp only; rw [List.length_set]; exact hl }, rfl⟩
  · injection hs with hs
    subst hs
    exact ⟨h, rfl⟩
theorem settle3_inv {g g' : Gr} {k j J i : Nat} (h : g.inv k j J) (hi : i < g.N) (h0 : ∀ a, a < g.N → a ≠ i → (g.R.getD a default).inv k 0) (hs : g.settle3 i = some g') : g'.inv k 0 (J + 3 * j) ∧ g'.N = g.N := by
  unfold Gr.settle3 at hs
  rw [Option.bind_eq_some_iff] at hs
  obtain ⟨g2, hs2, hs3⟩ := hs
  rw [Option.bind_eq_some_iff] at hs2
  obtain ⟨g1, hs1, hs2⟩ := hs2
  obtain ⟨a1, b1, c1, d1⟩ := settle1_inv h hi hs1
  obtain ⟨a2, b2, c2, d2⟩ := settle1_inv a1 (by rw [b1]; exact hi) hs2
  obtain ⟨a3, b3, c3, d3⟩ := settle1_inv a2 (by rw [b2, b1]; exact hi) hs3
  have hN : g'.N = g.N := b3.trans (b2.trans b1)
  refine ⟨{ a3 with nl := by have := a3.nl; omega, nd := fun a ha => ?_ }, hN⟩
  by_cases hai : a = i
  · subst hai; exact c3
  · rw [d3 a hai, d2 a hai, d1 a hai]
    exact h0 a (by omega) hai
theorem settle_inv {g g' : Gr} {k j J i : Nat} (h : g.inv k j J) (hi : i < g.N) (h0 : ∀ a, a < g.N → a ≠ i → (g.R.getD a default).inv k 0) (hs : g.settleG i = some g') : g'.inv k 0 (J + 3 * j) ∧ g'.N = g.N := by
  rw [Gr.settleG, Option.bind_eq_some_iff] at hs
  obtain ⟨g1, h1, h2⟩ := hs
  obtain ⟨q1, q2⟩ := settle3_inv h hi h0 h1
  obtain ⟨q3, q4⟩ := led_inv q1 h2
  exact ⟨q3, q4.trans q2⟩
/-- one node is another -/
def Gr.setN (g : Gr) (i : Nat) (n : Nd) : Gr := { g with R := g.R.set i n }
theorem setN_inv {g : Gr} {k k' j J i : Nat} {n : Nd} (h : g.inv k 0 J) (hi : i < g.N) (hk : k ≤ k') (hn : n.inv k' j) : (g.setN i n).inv k' j J ∧ ∀ a, a < g.N → a ≠ i → ((g.setN i n).R.getD a default).inv k' 0 := by
  have hm := h.mono hk (Nat.zero_le j) (Nat.le_refl J)
  have hR : ∀ a, (g.R.set i n).getD a default = if a = i then n else g.R.getD a default := fun a => getD_set _ _ _ _ _ (by rw [h.lR]; exact hi)
  refine ⟨{ hm with lR := by show (g.R.set i n).length = _; rw [List.length_set]; exact h.lR, nd := fun a ha => ?_ }, fun a ha hai => ?_⟩
  · show ((g.R.set i n).getD a default).inv k' j
    rw [hR]
    split
    · exact hn
    · exact hm.nd a ha
  · show ((g.R.set i n).getD a default).inv k' 0
    rw [hR, if_neg hai]
    exact (h.nd a ha).mono hk (Nat.le_refl _)
/-- rounds in which not too many messages are about -/
def Gr.quietC (g : Gr) : Option Gr := (Gr.quietTG (List.range g.N) g).bind fun g => if 1024 < g.net.length then none else Gr.quietMG g.net { g with net := [] }
def Gr.quietsC : Nat → Gr → Option Gr
  | 0, g => some g
  | k + 1, g => g.quietC.bind (quietsC k)
theorem quietT_inv {k J : Nat} : ∀ {l : List Nat} {g g' : Gr} {k J : Nat}, Gr.quietTG l g = some g' → g.inv k 0 J → (∀ i ∈ l, i < g.N) → g'.inv (k + 3 * l.length) 0 (J + 63 * l.length) ∧ g'.N = g.N
  | [], g, g', k, J, h, hi, _ => by
    simp only [Gr.quietTG, Option.some.injEq] at h
    subst h
    exact ⟨hi, rfl⟩
  | i :: r, g, g', k, J, h, hi, hl => by
    simp only [Gr.quietTG, Option.bind_eq_some_iff] at h
    obtain ⟨g1, h1, h2⟩ := h
    have hin := hl i (by simp)
    obtain ⟨q1, q2⟩ := setN_inv (k' := k + 3) hi hin (by omega) (inv_tick (hi.nd i hin) ((i * 7 % 10 : Nat) : Int))
    obtain ⟨q3, q4⟩ := settle_inv (g := g.setN i ((g.R.getD i default).tick ((i * 7 % 10 : Nat) : Int))) q1 hin q2 h1
    obtain ⟨q5, q6⟩ := quietT_inv (k := k) (J := J) h2 q3 fun a ha => by rw [q4]; exact hl a (List.mem_cons_of_mem _ ha)
    refine ⟨q5.mono ?_ (Nat.le_refl _) ?_, q6.trans q4⟩
    · simp only [List.length_cons]; omega
    · simp only [List.length_cons]; omega
theorem quietM_inv : ∀ {l : List Ms} {g g' : Gr} {k J : Nat}, Gr.quietMG l g = some g' → g.inv k 0 J → (∀ m ∈ l, m.fit k) → g'.inv (k + 2 * l.length) 0 (J + 63 * l.length) ∧ g'.N = g.N
  | [], g, g', k, J, h, hi, _ => by
    simp only [Gr.quietMG, Option.some.injEq] at h
    subst h
    exact ⟨hi, rfl⟩
  | m :: r, g, g', k, J, h, hi, hl => by
    simp only [Gr.quietMG] at h
    split at h
    · obtain ⟨q5, q6⟩ := quietM_inv h hi fun a ha => hl a (List.mem_cons_of_mem _ ha)
      exact ⟨q5.mono (by simp only [List.length_cons]; omega) (Nat.le_refl _) (by simp only [List.length_cons]; omega), q6⟩
    · rename_i hc
      rw [Option.bind_eq_some_iff] at h
      obtain ⟨g1, h1, h2⟩ := h
      have h3 : ¬ m.to < 0 := fun q => hc (.inl q)
      have h4 : ¬ (g.N : Int) ≤ m.to := fun q => hc (.inr q)
      have hin : m.to.toNat < g.N := by omega
      obtain ⟨q1, q2⟩ := setN_inv (k' := k + 2) hi hin (by omega) (inv_step (hi.nd _ hin) (hl m (by simp)))
      obtain ⟨q3, q4⟩ := settle_inv (g := g.setN m.to.toNat ((g.R.getD m.to.toNat default).step m)) q1 hin q2 h1
      obtain ⟨q5, q6⟩ := quietM_inv h2 q3 fun a ha => (hl a (List.mem_cons_of_mem _ ha)).mono (by omega)
      refine ⟨q5.mono ?_ (Nat.le_refl _) ?_, q6.trans q4⟩
      · simp only [List.length_cons]; omega
      · simp only [List.length_cons]; omega
theorem quietC_inv {g g' : Gr} {k J : Nat} (h : g.quietC = some g') (hi : g.inv k 0 J) : g'.inv (k + 2100) 0 70000 ∧ g'.N = g.N := by
  unfold Gr.quietC at h
  rw [Option.bind_eq_some_iff] at h
  obtain ⟨g1, h1, h2⟩ := h
  obtain ⟨q1, q2⟩ := quietT_inv (k := k) (J := J) h1 hi fun a ha => List.mem_range.1 ha
  split at h2
  · cases h2
  · rename_i hle
    have h7 := hi.n7
    rw [List.length_range] at q1
    obtain ⟨q3, q4⟩ := quietM_inv (J := 0) h2 ⟨q1.n1, q1.n7, q1.lR, q1.lS, q1.lD, q1.nd, q1.sv, (fun m hm => by cases hm), Nat.le_refl 0, q1.dn, q1.al, q1.ld⟩ fun m hm => q1.nm m hm
    exact ⟨q3.mono (by omega) (Nat.le_refl _) (by omega), q4.trans q2⟩
end Go.SX.Rf

/- Raft: what a node tells is saved: the parts. -/
namespace Go.SX
open Go.Proofs
set_option maxRecDepth 1000000
variable {E : Env}

def q2 : SCode := .block 2 (.loop (.seq (.seq (.ops [(.rd 37 (.mv (.t 9)), []), (.rd 38 (.fadd (.t 7) 7), []), (.rd 39 (.load (.t 38) none), []), (.rd 40 (.len false (.t 39)), []), (.rd 41 (.bin 0 .lss (.t 37) (.t 40)), [])]) (.cond (.t 41) .skip (.exit 2))) (.seq (.block 3 (.seq (.ops [(.rd 44 (.fadd (.t 7) 7), []), (.rd 45 (.load (.t 44) none), []), (.rd 46 (.mv (.t 9)), []), (.rd 47 (.idx (.t 45) (.t 46) 4), []), (.rd 48 (.fadd (.t 47) 0), []), (.rd 49 (.load (.t 48) none), []), (.rd 50 (.fadd (.t 6) 5), []), (.rd 51 (.fadd (.t 50) 0), []), (.rd 52 (.load (.t 51) none), []), (.rd 53 (.bin 0 .eql (.t 49) (.t 52)), []), (.rd 54 (.mv (.t 53)), []), (.grd 54 true 55 (.fadd (.t 7) 7), []), (.grd 54 true 56 (.load (.t 55) none), []), (.grd 54 true 57 (.mv (.t 9)), []), (.grd 54 true 58 (.idx (.t 56) (.t 57) 4), []), (.grd 54 true 59 (.fadd (.t 58) 1), []), (.grd 54 true 60 (.load (.t 59) none), []), (.grd 54 true 61 (.fadd (.t 6) 5), []), (.grd 54 true 62 (.fadd (.t 61) 1), []), (.grd 54 true 63 (.load (.t 62) none), []), (.grd 54 true 64 (.bin 0 .eql (.t 60) (.t 63)), []), (.rd 65 (.pick (.t 54) (.t 64) (.c (.bool false))), [])]) (.cond (.t 65) (.ops [(.rd 66 (.mv (.t 8)), []), (.rd 67 (.fadd (.t 7) 7), []), (.rd 68 (.load (.t 67) none), []), (.rd 69 (.mv (.t 9)), []), (.rd 70 (.bin 0 .add (.t 69) (.c (.int .i64 1))), []), (.rd 71 (.slc (.t 68) (some (.t 70)) none none 4), []), (.app 72 43 4 48 [.int .i64 0, .int .i64 0, .int .i64 0, .slice none 0 0] (.t 66) (.t 71), []), (.rd 8 (.mv (.t 72)), [])]) .skip))) (.ops [(.rd 42 (.mv (.t 9)), []), (.rd 43 (.bin 0 .add (.t 42) (.c (.int .i64 1))), []), (.rd 9 (.mv (.t 43)), [])]))))
def q4 : SCode := .block 4 (.loop (.seq (.seq (.ops [(.rd 106 (.mv (.t 10)), []), (.rd 107 (.fadd (.t 6) 9), []), (.rd 108 (.load (.t 107) none), []), (.rd 109 (.len false (.t 108)), []), (.rd 110 (.bin 0 .lss (.t 106) (.t 109)), [])]) (.cond (.t 110) .skip (.exit 4))) (.seq (.block 5 (.seq (.ops [(.rd 113 (.fadd (.t 6) 9), []), (.rd 114 (.load (.t 113) none), []), (.rd 115 (.mv (.t 10)), []), (.rd 116 (.idx (.t 114) (.t 115) 4), []), (.rd 117 (.fadd (.t 116) 0), []), (.rd 118 (.load (.t 117) none), []), (.rd 119 (.fadd (.t 7) 3), []), (.rd 120 (.fadd (.t 119) 0), []), (.rd 121 (.load (.t 120) none), []), (.rd 122 (.bin 0 .sub (.t 118) (.t 121)), []), (.rd 123 (.bin 0 .sub (.t 122) (.c (.int .i64 1))), []), (.rd 11 (.mv (.t 123)), [])]) (.seq (.seq (.ops [(.rd 124 (.mv (.t 11)), []), (.rd 125 (.bin 0 .lss (.t 124) (.c (.int .i64 0))), []), (.rd 126 (.mv (.t 125)), []), (.grd 126 false 127 (.mv (.t 11)), []), (.grd 126 false 128 (.fadd (.t 7) 7), []), (.grd 126 false 129 (.load (.t 128) none), []), (.grd 126 false 130 (.len false (.t 129)), []), (.grd 126 false 131 (.bin 0 .gtr (.t 127) (.t 130)), []), (.rd 132 (.pick (.t 126) (.c (.bool true)) (.t 131)), [])]) (.cond (.t 132) (.seq (.ops [(.rd 4 (.mv (.c (.bool false))), [])]) .ret) .skip)) (.alts [[(.rd 134 (.fadd (.t 7) 7), []), (.rd 135 (.load (.t 134) none), []), (.rd 136 (.mv (.t 11)), []), (.rd 137 (.slc (.t 135) none (some (.t 136)) none 4), []), (.rd 139 (.fadd (.t 6) 9), []), (.rd 140 (.load (.t 139) none), []), (.rd 141 (.mv (.t 10)), []), (.rd 142 (.idx (.t 140) (.t 141) 4), []), (.rd 143 (.load (.t 142) (some 4)), []), (.bsl 133 43 4 0 [] [], [.rd 134 (.fadd (.t 7) 7), .rd 135 (.load (.t 134) none), .rd 136 (.mv (.t 11)), .rd 137 (.slc (.t 135) none (some (.t 136)) none 4), .rd 139 (.fadd (.t 6) 9), .rd 140 (.load (.t 139) none), .rd 141 (.mv (.t 10)), .rd 142 (.idx (.t 140) (.t 141) 4), .rd 143 (.load (.t 142) (some 4))]), (.app 138 43 4 48 [.int .i64 0, .int .i64 0, .int .i64 0, .slice none 0 0] (.t 133) (.t 137), [.rd 139 (.fadd (.t 6) 9), .rd 140 (.load (.t 139) none), .rd 141 (.mv (.t 10)), .rd 142 (.idx (.t 140) (.t 141) 4), .rd 143 (.load (.t 142) (some 4))]), (.bsl 144 43 4 1 [.int .i64 0, .int .i64 0, .int .i64 0, .slice none 0 0] [(0, (4, .t 143))], [.rd 134 (.fadd (.t 7) 7), .rd 135 (.load (.t 134) none), .rd 136 (.mv (.t 11)), .rd 137 (.slc (.t 135) none (some (.t 136)) none 4)]), (.app 145 43 4 48 [.int .i64 0, .int .i64 0, .int .i64 0, .slice none 0 0] (.t 138) (.t 144), []), (.rd 146 (.fadd (.t 7) 7), []), (.store (.t 146) (.t 145) 1, [])], [(.rd 134 (.fadd (.t 7) 7), []), (.rd 135 (.load (.t 134) none), []), (.rd 136 (.mv (.t 11)), []), (.rd 137 (.slc (.t 135) none (some (.t 136)) none 4), []), (.rd 139 (.fadd (.t 6) 9), []), (.rd 140 (.load (.t 139) none), []), (.rd 141 (.mv (.t 10)), []), (.rd 142 (.idx (.t 140) (.t 141) 4), []), (.rd 143 (.load (.t 142) (some 4)), []), (.bsl 133 43 4 0 [] [], [.rd 134 (.fadd (.t 7) 7), .rd 135 (.load (.t 134) none), .rd 136 (.mv (.t 11)), .rd 137 (.slc (.t 135) none (some (.t 136)) none 4), .rd 139 (.fadd (.t 6) 9), .rd 140 (.load (.t 139) none), .rd 141 (.mv (.t 10)), .rd 142 (.idx (.t 140) (.t 141) 4), .rd 143 (.load (.t 142) (some 4))]), (.bsl 144 43 4 1 [.int .i64 0, .int .i64 0, .int .i64 0, .slice none 0 0] [(0, (4, .t 143))], [.rd 134 (.fadd (.t 7) 7), .rd 135 (.load (.t 134) none), .rd 136 (.mv (.t 11)), .rd 137 (.slc (.t 135) none (some (.t 136)) none 4)]), (.app 138 43 4 48 [.int .i64 0, .int .i64 0, .int .i64 0, .slice none 0 0] (.t 133) (.t 137), [.rd 139 (.fadd (.t 6) 9), .rd 140 (.load (.t 139) none), .rd 141 (.mv (.t 10)), .rd 142 (.idx (.t 140) (.t 141) 4), .rd 143 (.load (.t 142) (some 4))]), (.app 145 43 4 48 [.int .i64 0, .int .i64 0, .int .i64 0, .slice none 0 0] (.t 138) (.t 144), []), (.rd 146 (.fadd (.t 7) 7), []), (.store (.t 146) (.t 145) 1, [])], [(.rd 134 (.fadd (.t 7) 7), []), (.rd 135 (.load (.t 134) none), []), (.rd 136 (.mv (.t 11)), []), (.rd 137 (.slc (.t 135) none (some (.t 136)) none 4), []), (.rd 139 (.fadd (.t 6) 9), []), (.rd 140 (.load (.t 139) none), []), (.rd 141 (.mv (.t 10)), []), (.rd 142 (.idx (.t 140) (.t 141) 4), []), (.rd 143 (.load (.t 142) (some 4)), []), (.bsl 144 43 4 1 [.int .i64 0, .int .i64 0, .int .i64 0, .slice none 0 0] [(0, (4, .t 143))], [.rd 134 (.fadd (.t 7) 7), .rd 135 (.load (.t 134) none), .rd 136 (.mv (.t 11)), .rd 137 (.slc (.t 135) none (some (.t 136)) none 4)]), (.bsl 133 43 4 0 [] [], [.rd 134 (.fadd (.t 7) 7), .rd 135 (.load (.t 134) none), .rd 136 (.mv (.t 11)), .rd 137 (.slc (.t 135) none (some (.t 136)) none 4), .rd 139 (.fadd (.t 6) 9), .rd 140 (.load (.t 139) none), .rd 141 (.mv (.t 10)), .rd 142 (.idx (.t 140) (.t 141) 4), .rd 143 (.load (.t 142) (some 4))]), (.app 138 43 4 48 [.int .i64 0, .int .i64 0, .int .i64 0, .slice none 0 0] (.t 133) (.t 137), [.rd 139 (.fadd (.t 6) 9), .rd 140 (.load (.t 139) none), .rd 141 (.mv (.t 10)), .rd 142 (.idx (.t 140) (.t 141) 4), .rd 143 (.load (.t 142) (some 4))]), (.app 145 43 4 48 [.int .i64 0, .int .i64 0, .int .i64 0, .slice none 0 0] (.t 138) (.t 144), []), (.rd 146 (.fadd (.t 7) 7), []), (.store (.t 146) (.t 145) 1, [])]])))) (.ops [(.rd 111 (.mv (.t 10)), []), (.rd 112 (.bin 0 .add (.t 111) (.c (.int .i64 1))), []), (.rd 10 (.mv (.t 112)), [])]))))
def q6 : SCode := .block 6 (.loop (.seq (.seq (.ops [(.rd 209 (.mv (.t 12)), []), (.rd 210 (.fadd (.t 6) 11), []), (.rd 211 (.load (.t 210) none), []), (.rd 212 (.len false (.t 211)), []), (.rd 213 (.bin 0 .lss (.t 209) (.t 212)), [])]) (.cond (.t 213) .skip (.exit 6))) (.seq (.block 7 (.seq (.ops [(.rd 216 (.fadd (.t 6) 11), []), (.rd 217 (.load (.t 216) none), []), (.rd 218 (.mv (.t 12)), []), (.rd 219 (.idx (.t 217) (.t 218) 4), []), (.rd 220 (.load (.t 219) (some 4)), []), (.alloc 13 43 [.int .i64 0, .int .i64 0, .int .i64 0, .slice none 0 0], []), (.store (.t 13) (.t 220) 4, [])]) (.seq (.seq (.ops [(.rd 221 (.fadd (.t 13) 0), []), (.rd 222 (.load (.t 221) none), []), (.rd 223 (.mv (.t 0)), []), (.rd 224 (.nchk (.t 223)), []), (.rd 225 (.fadd (.t 224) 3), []), (.rd 226 (.load (.t 225) none), []), (.rd 227 (.mv (.t 1)), []), (.rd 228 (.idx (.t 226) (.t 227) 1), []), (.rd 229 (.load (.t 228) none), []), (.rd 230 (.len false (.t 229)), []), (.rd 231 (.bin 0 .add (.t 230) (.c (.int .i64 1))), []), (.rd 232 (.bin 0 .neq (.t 222) (.t 231)), [])]) (.cond (.t 232) (.seq (.ops [(.rd 4 (.mv (.c (.bool false))), [])]) .ret) .skip)) (.seq (.ops [(.rd 233 (.mv (.t 0)), []), (.rd 234 (.nchk (.t 233)), []), (.rd 235 (.fadd (.t 234) 3), []), (.rd 236 (.load (.t 235) none), []), (.rd 237 (.mv (.t 1)), []), (.rd 238 (.mv (.t 0)), []), (.rd 239 (.nchk (.t 238)), []), (.rd 240 (.fadd (.t 239) 3), []), (.rd 241 (.load (.t 240) none), []), (.rd 242 (.mv (.t 1)), []), (.rd 243 (.idx (.t 241) (.t 242) 1), []), (.rd 244 (.load (.t 243) none), []), (.rd 245 (.load (.t 13) (some 4)), []), (.bsl 246 43 4 1 [.int .i64 0, .int .i64 0, .int .i64 0, .slice none 0 0] [(0, (4, .t 245))], [.rd 233 (.mv (.t 0)), .rd 234 (.nchk (.t 233)), .rd 235 (.fadd (.t 234) 3), .rd 236 (.load (.t 235) none), .rd 237 (.mv (.t 1)), .rd 238 (.mv (.t 0)), .rd 239 (.nchk (.t 238)), .rd 240 (.fadd (.t 239) 3), .rd 241 (.load (.t 240) none), .rd 242 (.mv (.t 1)), .rd 243 (.idx (.t 241) (.t 242) 1), .rd 244 (.load (.t 243) none)]), (.app 247 43 4 48 [.int .i64 0, .int .i64 0, .int .i64 0, .slice none 0 0] (.t 244) (.t 246), [.rd 233 (.mv (.t 0)), .rd 234 (.nchk (.t 233)), .rd 235 (.fadd (.t 234) 3), .rd 236 (.load (.t 235) none), .rd 237 (.mv (.t 1))]), (.rd 248 (.idx (.t 236) (.t 237) 1), []), (.store (.t 248) (.t 247) 1, [])]) (.seq (.seq (.ops [(.rd 249 (.fadd (.t 13) 0), []), (.rd 250 (.load (.t 249) none), []), (.rd 251 (.mv (.t 0)), []), (.rd 252 (.nchk (.t 251)), []), (.rd 253 (.fadd (.t 252) 4), []), (.rd 254 (.load (.t 253) none), []), (.rd 255 (.len false (.t 254)), []), (.rd 256 (.bin 0 .gtr (.t 250) (.t 255)), [])]) (.cond (.t 256) (.ops [(.rd 257 (.mv (.t 0)), []), (.rd 258 (.mv (.t 0)), []), (.rd 259 (.nchk (.t 258)), []), (.rd 260 (.fadd (.t 259) 4), []), (.rd 261 (.load (.t 260) none), []), (.rd 262 (.load (.t 13) (some 4)), []), (.bsl 263 43 4 1 [.int .i64 0, .int .i64 0, .int .i64 0, .slice none 0 0] [(0, (4, .t 262))], [.rd 257 (.mv (.t 0)), .rd 258 (.mv (.t 0)), .rd 259 (.nchk (.t 258)), .rd 260 (.fadd (.t 259) 4), .rd 261 (.load (.t 260) none)]), (.app 264 43 4 48 [.int .i64 0, .int .i64 0, .int .i64 0, .slice none 0 0] (.t 261) (.t 263), [.rd 257 (.mv (.t 0))]), (.rd 265 (.nchk (.t 257)), []), (.rd 266 (.fadd (.t 265) 4), []), (.store (.t 266) (.t 264) 1, [])]) .skip)) (.seq (.ops [(.rd 267 (.mv (.t 0)), []), (.rd 268 (.nchk (.t 267)), []), (.rd 269 (.fadd (.t 268) 4), []), (.rd 270 (.load (.t 269) none), []), (.rd 271 (.fadd (.t 13) 0), []), (.rd 272 (.load (.t 271) none), []), (.rd 273 (.bin 0 .sub (.t 272) (.c (.int .i64 1))), []), (.rd 274 (.idx (.t 270) (.t 273) 4), []), (.rd 275 (.load (.t 274) (some 4)), []), (.alloc 14 43 [.int .i64 0, .int .i64 0, .int .i64 0, .slice none 0 0], [.rd 267 (.mv (.t 0)), .rd 268 (.nchk (.t 267)), .rd 269 (.fadd (.t 268) 4), .rd 270 (.load (.t 269) none), .rd 271 (.fadd (.t 13) 0), .rd 272 (.load (.t 271) none), .rd 273 (.bin 0 .sub (.t 272) (.c (.int .i64 1))), .rd 274 (.idx (.t 270) (.t 273) 4), .rd 275 (.load (.t 274) (some 4))]), (.store (.t 14) (.t 275) 4, [])]) (.seq (.ops [(.rd 276 (.fadd (.t 14) 1), []), (.rd 277 (.load (.t 276) none), []), (.rd 278 (.fadd (.t 13) 1), []), (.rd 279 (.load (.t 278) none), []), (.rd 280 (.bin 0 .neq (.t 277) (.t 279)), []), (.rd 281 (.mv (.t 280)), []), (.grd 281 false 282 (.fadd (.t 14) 2), []), (.grd 281 false 283 (.load (.t 282) none), []), (.grd 281 false 284 (.fadd (.t 13) 2), []), (.grd 281 false 285 (.load (.t 284) none), []), (.grd 281 false 286 (.bin 0 .neq (.t 283) (.t 285)), []), (.rd 287 (.pick (.t 281) (.c (.bool true)) (.t 286)), []), (.rd 288 (.mv (.t 287)), []), (.grd 288 false 289 (.fadd (.t 14) 3), []), (.grd 288 false 290 (.load (.t 289) none), []), (.gs 288 false (.oth (some 291) (.convert 35 9 (.tmp 290)) 9), []), (.grd 288 false 292 (.fadd (.t 13) 3), []), (.grd 288 false 293 (.load (.t 292) none), []), (.gs 288 false (.oth (some 294) (.convert 35 9 (.tmp 293)) 9), []), (.grd 288 false 295 (.bin 0 .neq (.t 291) (.t 294)), []), (.rd 296 (.pick (.t 288) (.c (.bool true)) (.t 295)), [])]) (.cond (.t 296) (.seq (.ops [(.rd 4 (.mv (.c (.bool false))), [])]) .ret) .skip)))))))) (.ops [(.rd 214 (.mv (.t 12)), []), (.rd 215 (.bin 0 .add (.t 214) (.c (.int .i64 1))), []), (.rd 12 (.mv (.t 215)), [])]))))
def q8 : SCode := .block 8 (.loop (.seq (.seq (.ops [(.rd 315 (.mv (.t 0)), []), (.rd 316 (.nchk (.t 315)), []), (.rd 317 (.fadd (.t 316) 5), []), (.rd 318 (.load (.t 317) none), []), (.rd 319 (.len false (.t 318)), []), (.rd 320 (.mv (.t 15)), []), (.rd 321 (.bin 0 .leq (.t 319) (.t 320)), []), (.rd 322 (.mv (.t 321)), []), (.grd 322 true 323 (.mv (.t 15)), []), (.grd 322 true 324 (.bin 0 .lss (.t 323) (.c (.int .i64 5000))), []), (.rd 325 (.pick (.t 322) (.t 324) (.c (.bool false))), [])]) (.cond (.t 325) .skip (.exit 8))) (.block 9 (.ops [(.rd 326 (.mv (.t 0)), []), (.rd 327 (.mv (.t 0)), []), (.rd 328 (.nchk (.t 327)), []), (.rd 329 (.fadd (.t 328) 5), []), (.rd 330 (.load (.t 329) none), []), (.bsl 331 3 1 1 [.int .i64 0] [(0, (1, .c (.int .i64 (-1))))], []), (.app 332 3 1 8 [.int .i64 0] (.t 330) (.t 331), []), (.rd 333 (.nchk (.t 326)), []), (.rd 334 (.fadd (.t 333) 5), []), (.store (.t 334) (.t 332) 1, [])]))))
theorem s29_q : s29 = .seq (.ops [(.rd 4 (.mv (.c (.bool false))), [])]) (.seq (.seq (.ops [(.rd 5 (.mv (.c (.int .i64 0))), [])]) (.block 0 (.loop (.seq (.seq (.ops [(.rd 16 (.mv (.t 5)), []), (.rd 17 (.bin 0 .lss (.t 16) (.c (.int .i64 3))), [])]) (.cond (.t 17) .skip (.exit 0))) (.seq (.block 1 (.seq (.ops [(.rd 20 (.mv (.t 0)), []), (.rd 21 (.nchk (.t 20)), []), (.rd 22 (.fadd (.t 21) 0), []), (.rd 23 (.load (.t 22) none), []), (.rd 24 (.mv (.t 1)), []), (.rd 25 (.idx (.t 23) (.t 24) 1), []), (.rd 26 (.load (.t 25) none), []), (.call (some 27) (.f 16) [.t 26], []), (.alloc 6 40 [.bool false, .int .i64 0, .int .i64 0, .int .i64 0, .bool false, .int .i64 0, .int .i64 0, .slice none 0 0, .slice none 0 0, .slice none 0 0, .slice none 0 0, .slice none 0 0, .slice none 0 0], []), (.store (.t 6) (.t 27) 13, [])]) (.seq (.ops [(.rd 28 (.mv (.t 0)), []), (.rd 29 (.nchk (.t 28)), []), (.rd 30 (.fadd (.t 29) 1), []), (.rd 31 (.load (.t 30) none), []), (.rd 32 (.mv (.t 1)), []), (.rd 33 (.idx (.t 31) (.t 32) 8), []), (.rd 34 (.load (.t 33) (some 8)), []), (.alloc 7 108 [.int .i64 0, .int .i64 0, .int .i64 0, .int .i64 0, .int .i64 0, .slice none 0 0, .slice none 0 0, .slice none 0 0], []), (.store (.t 7) (.t 34) 8, [])]) (.seq (.seq (.ops [(.rd 35 (.fadd (.t 6) 4), []), (.rd 36 (.load (.t 35) none), [])]) (.cond (.t 36) (.seq (.ops [(.rd 8 (.mv (.c (.slice none 0 0))), [])]) (.seq (.seq (.ops [(.rd 9 (.mv (.c (.int .i64 0))), [])]) q2) (.seq (.ops [(.rd 73 (.fadd (.t 6) 5), []), (.rd 74 (.load (.t 73) (some 3)), []), (.rd 75 (.fadd (.t 6) 8), []), (.rd 76 (.load (.t 75) none), []), (.rd 77 (.mv (.t 8)), []), (.rd 78 (.fadd (.t 7) 3), []), (.store (.t 78) (.t 74) 3, [.rd 75 (.fadd (.t 6) 8), .rd 76 (.load (.t 75) none), .rd 77 (.mv (.t 8))]), (.rd 79 (.fadd (.t 7) 6), []), (.store (.t 79) (.t 76) 1, [.rd 77 (.mv (.t 8))]), (.rd 80 (.fadd (.t 7) 7), []), (.store (.t 80) (.t 77) 1, [])]) (.seq (.seq (.ops [(.rd 81 (.fadd (.t 6) 5), []), (.rd 82 (.fadd (.t 81) 0), []), (.rd 83 (.load (.t 82) none), []), (.rd 84 (.mv (.t 0)), []), (.rd 85 (.nchk (.t 84)), []), (.rd 86 (.fadd (.t 85) 4), []), (.rd 87 (.load (.t 86) none), []), (.rd 88 (.len false (.t 87)), []), (.rd 89 (.bin 0 .gtr (.t 83) (.t 88)), [])]) (.cond (.t 89) (.seq (.ops [(.rd 4 (.mv (.c (.bool false))), [])]) .ret) .skip)) (.ops [(.rd 90 (.mv (.t 0)), []), (.rd 91 (.nchk (.t 90)), []), (.rd 92 (.fadd (.t 91) 3), []), (.rd 93 (.load (.t 92) none), []), (.rd 94 (.mv (.t 1)), []), (.rd 96 (.mv (.t 0)), []), (.rd 97 (.nchk (.t 96)), []), (.rd 98 (.fadd (.t 97) 4), []), (.rd 99 (.load (.t 98) none), []), (.rd 100 (.fadd (.t 6) 5), []), (.rd 101 (.fadd (.t 100) 0), []), (.rd 102 (.load (.t 101) none), []), (.rd 103 (.slc (.t 99) none (some (.t 102)) none 4), []), (.bsl 95 43 4 0 [] [], [.rd 90 (.mv (.t 0)), .rd 91 (.nchk (.t 90)), .rd 92 (.fadd (.t 91) 3), .rd 93 (.load (.t 92) none), .rd 94 (.mv (.t 1)), .rd 96 (.mv (.t 0)), .rd 97 (.nchk (.t 96)), .rd 98 (.fadd (.t 97) 4), .rd 99 (.load (.t 98) none), .rd 100 (.fadd (.t 6) 5), .rd 101 (.fadd (.t 100) 0), .rd 102 (.load (.t 101) none), .rd 103 (.slc (.t 99) none (some (.t 102)) none 4)]), (.app 104 43 4 48 [.int .i64 0, .int .i64 0, .int .i64 0, .slice none 0 0] (.t 95) (.t 103), [.rd 90 (.mv (.t 0)), .rd 91 (.nchk (.t 90)), .rd 92 (.fadd (.t 91) 3), .rd 93 (.load (.t 92) none), .rd 94 (.mv (.t 1))]), (.rd 105 (.idx (.t 93) (.t 94) 1), []), (.store (.t 105) (.t 104) 1, [])]))))) .skip)) (.seq (.seq (.ops [(.rd 10 (.mv (.c (.int .i64 0))), [])]) q4) (.seq (.seq (.ops [(.rd 147 (.fadd (.t 6) 0), []), (.rd 148 (.load (.t 147) none), [])]) (.cond (.t 148) (.seq (.seq (.ops [(.rd 149 (.fadd (.t 6) 1), []), (.rd 150 (.fadd (.t 149) 0), []), (.rd 151 (.load (.t 150) none), []), (.rd 152 (.fadd (.t 7) 0), []), (.rd 153 (.fadd (.t 152) 0), []), (.rd 154 (.load (.t 153) none), []), (.rd 155 (.bin 0 .lss (.t 151) (.t 154)), []), (.rd 156 (.mv (.t 155)), []), (.grd 156 false 157 (.fadd (.t 6) 1), []), (.grd 156 false 158 (.fadd (.t 157) 0), []), (.grd 156 false 159 (.load (.t 158) none), []), (.grd 156 false 160 (.fadd (.t 7) 0), []), (.grd 156 false 161 (.fadd (.t 160) 0), []), (.grd 156 false 162 (.load (.t 161) none), []), (.grd 156 false 163 (.bin 0 .eql (.t 159) (.t 162)), []), (.grd 156 false 164 (.mv (.t 163)), []), (.grd 164 true 165 (.fadd (.t 7) 0), []), (.grd 164 true 166 (.fadd (.t 165) 1), []), (.grd 164 true 167 (.load (.t 166) none), []), (.grd 164 true 168 (.bin 0 .geq (.t 167) (.c (.int .i64 0))), []), (.grd 156 false 169 (.pick (.t 164) (.t 168) (.c (.bool false))), []), (.grd 156 false 170 (.mv (.t 169)), []), (.grd 170 true 171 (.fadd (.t 6) 1), []), (.grd 170 true 172 (.fadd (.t 171) 1), []), (.grd 170 true 173 (.load (.t 172) none), []), (.grd 170 true 174 (.fadd (.t 7) 0), []), (.grd 170 true 175 (.fadd (.t 174) 1), []), (.grd 170 true 176 (.load (.t 175) none), []), (.grd 170 true 177 (.bin 0 .neq (.t 173) (.t 176)), []), (.grd 156 false 178 (.pick (.t 170) (.t 177) (.c (.bool false))), []), (.rd 179 (.pick (.t 156) (.c (.bool true)) (.t 178)), []), (.rd 180 (.mv (.t 179)), []), (.grd 180 false 181 (.fadd (.t 6) 1), []), (.grd 180 false 182 (.fadd (.t 181) 2), []), (.grd 180 false 183 (.load (.t 182) none), []), (.grd 180 false 184 (.fadd (.t 7) 0), []), (.grd 180 false 185 (.fadd (.t 184) 2), []), (.grd 180 false 186 (.load (.t 185) none), []), (.grd 180 false 187 (.bin 0 .lss (.t 183) (.t 186)), []), (.rd 188 (.pick (.t 180) (.c (.bool true)) (.t 187)), [])]) (.cond (.t 188) (.seq (.ops [(.rd 4 (.mv (.c (.bool false))), [])]) .ret) .skip)) (.ops [(.rd 189 (.fadd (.t 6) 1), []), (.rd 190 (.load (.t 189) (some 3)), []), (.rd 191 (.fadd (.t 7) 0), []), (.store (.t 191) (.t 190) 3, [])])) .skip)) (.seq (.ops [(.rd 192 (.mv (.t 0)), []), (.rd 193 (.nchk (.t 192)), []), (.rd 194 (.fadd (.t 193) 1), []), (.rd 195 (.load (.t 194) none), []), (.rd 196 (.mv (.t 1)), []), (.rd 197 (.load (.t 7) (some 8)), []), (.rd 198 (.idx (.t 195) (.t 196) 8), []), (.store (.t 198) (.t 197) 8, [])]) (.seq (.ops [(.rd 199 (.mv (.t 0)), []), (.rd 200 (.mv (.t 0)), []), (.rd 201 (.nchk (.t 200)), []), (.rd 202 (.fadd (.t 201) 2), []), (.rd 203 (.load (.t 202) none), []), (.rd 204 (.fadd (.t 6) 10), []), (.rd 205 (.load (.t 204) none), []), (.app 206 54 15 168 [.int .i64 0, .int .i64 0, .int .i64 0, .int .i64 0, .int .i64 0, .int .i64 0, .slice none 0 0, .int .i64 0, .int .i64 0, .bool false, .int .i64 0, .int .i64 0, .int .i64 0, .slice none 0 0, .slice none 0 0] (.t 203) (.t 205), [.rd 199 (.mv (.t 0))]), (.rd 207 (.nchk (.t 199)), []), (.rd 208 (.fadd (.t 207) 2), []), (.store (.t 208) (.t 206) 1, [])]) (.seq (.ops [(.rd 12 (.mv (.c (.int .i64 0))), [])]) q6))))))))) (.ops [(.rd 18 (.mv (.t 5)), []), (.rd 19 (.bin 0 .add (.t 18) (.c (.int .i64 1))), []), (.rd 5 (.mv (.t 19)), [])])))))) (.seq (.seq (.ops [(.rd 297 (.mv (.t 0)), []), (.rd 298 (.nchk (.t 297)), []), (.rd 299 (.fadd (.t 298) 0), []), (.rd 300 (.load (.t 299) none), []), (.rd 301 (.mv (.t 1)), []), (.rd 302 (.idx (.t 300) (.t 301) 1), []), (.rd 303 (.load (.t 302) none), []), (.call (some 304) (.f 14) [.t 303], []), (.rd 305 (.bin 0 .eql (.t 304) (.c (.int .i64 2))), [])]) (.cond (.t 305) (.seq (.ops [(.rd 306 (.mv (.t 0)), []), (.rd 307 (.nchk (.t 306)), []), (.rd 308 (.fadd (.t 307) 0), []), (.rd 309 (.load (.t 308) none), []), (.rd 310 (.mv (.t 1)), []), (.rd 311 (.idx (.t 309) (.t 310) 1), []), (.rd 312 (.load (.t 311) none), []), (.call (some 313) (.f 19) [.t 312], []), (.rd 314 (.fld (.t 313) 0 none), []), (.rd 15 (.mv (.t 314)), [])]) (.seq q8 (.seq (.ops [(.rd 335 (.mv (.t 15)), []), (.rd 336 (.bin 0 .lss (.t 335) (.c (.int .i64 5000))), [])]) (.cond (.t 336) (.seq (.seq (.ops [(.rd 337 (.mv (.t 0)), []), (.rd 338 (.nchk (.t 337)), []), (.rd 339 (.fadd (.t 338) 5), []), (.rd 340 (.load (.t 339) none), []), (.rd 341 (.mv (.t 15)), []), (.rd 342 (.idx (.t 340) (.t 341) 1), []), (.rd 343 (.load (.t 342) none), []), (.rd 344 (.bin 0 .geq (.t 343) (.c (.int .i64 0))), []), (.rd 345 (.mv (.t 344)), []), (.grd 345 true 346 (.mv (.t 0)), []), (.grd 345 true 347 (.nchk (.t 346)), []), (.grd 345 true 348 (.fadd (.t 347) 5), []), (.grd 345 true 349 (.load (.t 348) none), []), (.grd 345 true 350 (.mv (.t 15)), []), (.grd 345 true 351 (.idx (.t 349) (.t 350) 1), []), (.grd 345 true 352 (.load (.t 351) none), []), (.grd 345 true 353 (.mv (.t 1)), []), (.grd 345 true 354 (.bin 0 .neq (.t 352) (.t 353)), []), (.rd 355 (.pick (.t 345) (.t 354) (.c (.bool false))), [])]) (.cond (.t 355) (.seq (.ops [(.rd 4 (.mv (.c (.bool false))), [])]) .ret) .skip)) (.ops [(.rd 356 (.mv (.t 0)), []), (.rd 357 (.nchk (.t 356)), []), (.rd 358 (.fadd (.t 357) 5), []), (.rd 359 (.load (.t 358) none), []), (.rd 360 (.mv (.t 15)), []), (.rd 361 (.mv (.t 1)), []), (.rd 362 (.idx (.t 359) (.t 360) 1), []), (.store (.t 362) (.t 361) 1, [])])) .skip)))) .skip)) (.seq (.ops [(.rd 4 (.mv (.c (.bool true))), [])]) .ret))) := rfl
end Go.SX
