/- Joined texts: PL T37 T38 T39 T40 T41 T42. -/
import Derived.Test.YtpbbpmhahkeekaaSxTJ6
import Derived.Test.YtpbbpmhahkeekaaSxTJ7
/- Raft, plainly: a node begins, tells what came; the numbers stay small. -/
namespace Go.SX.Rf

/-- what was saved may be begun with -/
structure Sv.fit (s : Sv) (k : Nat) : Prop where
  t0 : 0 ≤ s.h.tm
  t1 : s.h.tm ≤ k
  v0 : -1 ≤ s.h.vote
  c0 : 0 ≤ s.h.cm
  c1 : s.h.cm ≤ k
  i0 : 0 ≤ s.m.ix
  i1 : s.m.ix + s.l.length ≤ k
  y0 : 0 ≤ s.m.tm
  y1 : s.m.tm ≤ k
  mv : 0 < s.m.ix → areVoters s.m.vs = true
  ml : s.m.vs.length ≤ 7
  dl : s.d.length ≤ 2 ^ 23
  rw : row s.l s.m.ix s.m.tm (2 ^ 62) = true
  en : ∀ e ∈ s.l, e.fit k
variable {n : Nd} {k j : Nat}
theorem inv_new {s : Sv} (h : s.fit k) (id : Int) {vs : List Int} (hv : areVoters vs = true) : (Nd.new id vs s.h s.m s.d s.l).inv k 0 := by
  have h0 := h.i0; have h1 := h.i1; have h2 := h.c0; have h3 := h.t0; have h4 := h.t1; have h5 := h.y1; have h6 := h.y0
  refine ⟨?_, .inl rfl, fun h => absurd h (show (0 : Int) ≠ 2 by decide)⟩
  have hlast : (Nd.new id vs s.h s.m s.d s.l).last = s.m.ix + s.l.length := rfl
  have hcm : (Nd.new id vs s.h s.m s.d s.l).hd.cm = min (max s.h.cm s.m.ix) (s.m.ix + s.l.length) := rfl
  have hτ : ∀ i, ({ me := s.m, d := s.d, log := s.l, first := vs, fresh := 0, ticks := 0, taken := 0, draw := 0, beats := 0, id := id, hd := s.h, told := s.h, applied := s.m.ix, role := 0, lead := -1, votes := [], peers := none, round := 0, waits := [], reads := [], msgs := [], snap := false } : Nd).term i ≤ k := by
    intro i
    unfold Nd.term
    split
    · have hm : s.l.getD (i - s.m.ix - 1).toNat default ∈ s.l := mem_getD (by dsimp only at *; omega)
      exact (h.en _ hm).t1
    · split
      · exact h.y1
      · omega
  have htm : (Nd.new id vs s.h s.m s.d s.l).hd.tm = if s.h.tm < max (max s.h.tm s.m.tm) (({ me := s.m, d := s.d, log := s.l, first := vs, fresh := 0, ticks := 0, taken := 0, draw := 0, beats := 0, id := id, hd := s.h, told := s.h, applied := s.m.ix, role := 0, lead := -1, votes := [], peers := none, round := 0, waits := [], reads := [], msgs := [], snap := false } : Nd).term (s.m.ix + s.l.length)) then max (max s.h.tm s.m.tm) (({ me := s.m, d := s.d, log := s.l, first := vs, fresh := 0, ticks := 0, taken := 0, draw := 0, beats := 0, id := id, hd := s.h, told := s.h, applied := s.m.ix, role := 0, lead := -1, votes := [], peers := none, round := 0, waits := [], reads := [], msgs := [], snap := false } : Nd).term (s.m.ix + s.l.length)) else s.h.tm := rfl
  have hτ' := hτ (s.m.ix + s.l.length)
  refine { i0 := h0, i1 := h1, t0 := h6, t1 := h5, mv := h.mv, ml := h.ml, fv := hv, dl := h.dl, ix := fun i hi => row_ix h.rw i hi, en := h.en, f0 := Int.le_refl 0, f1 := Int.natCast_nonneg k, tk0 := Int.le_refl 0, tk1 := Int.natCast_nonneg k, tn0 := Int.le_refl 0, tn1 := (by show (0 : Int) ≤ 9; decide), dr0 := Int.le_refl 0, dr1 := (by show (0 : Int) ≤ 9; decide), be0 := Int.le_refl 0, be1 := (by show (0 : Int) ≤ 2; decide), h0 := ?_, h1 := ?_, c0 := ?_, c1 := ?_, a0 := Int.le_refl _, a1 := ?_, r0 := Int.le_refl 0, r1 := Int.natCast_nonneg k, vt := Nat.zero_le _, wt := Nat.zero_le _, ms := Nat.le_refl 0, mo := fun m hm => by cases hm }
  · rw [htm]; split <;> omega
  · rw [htm]; split <;> omega
  · rw [hcm]; omega
  · rw [hcm, hlast]; omega
  · rw [hcm]; show s.m.ix ≤ _; omega
theorem inv_ready (h : n.inv k j) : (n.ready).2.inv k 0 := by
  have h0 := h.c1; have h1 := h.c0; have h2 := h.i0; have ha0 := h.a0; have ha1 := h.a1
  refine ⟨{ h.toFit with f0 := Int.le_refl 0, f1 := Int.natCast_nonneg k, a0 := ?_, a1 := Int.le_refl _, wt := ?_, ms := Nat.le_refl 0, mo := fun m hm => by cases hm }, h.ro, h.kn⟩
  · show n.me.ix ≤ n.hd.cm; omega
  · have := h.wt; show n.waits.length + 0 ≤ k; omega
end Go.SX.Rf

/- Raft: a node begins (New), by the plain model. -/
namespace Go.SX
open Go.Proofs
set_option maxRecDepth 1000000
variable {E : Env}

/-- of the memory that is handed back some chunks are kept -/
theorem Spec.sel {P : Program} {E : Env} {f : FuncId} {args : List SV} {heap : List Chunk} {Post Post' : SV → List Chunk → Prop} (h : Spec P E f args heap Post)
    (hp : ∀ v hp, Post v hp → ∃ v' is, Eqv v v' ∧ (∀ i ∈ is, i < hp.length) ∧ Post' v' (pick hp is)) : Spec P E f args heap Post' := by
  intro ro F H w h1 h2 h3
  refine Calls.mono (h ro F H w h1 h2 h3) fun e w' hf => ?_
  obtain ⟨v, heap', ro', H', rfl, e2, e3, e4, e5, e6⟩ := hf
  obtain ⟨v', is, q1, q2, q3⟩ := hp v heap' e2
  obtain ⟨H1, H2, hperm, h1, _⟩ := hsat_pick is heap' H' e5 q2
  refine ⟨v', _, ro', H1, by rw [q1.1], q3, e3, q1.2 _ e4, h1, Sat.drop (H := H2) (e6.perm ?_)⟩
  rw [← List.append_assoc]
  exact (hperm.trans List.perm_append_comm).append_right F
/-- a node that begins -/
def NL.new (id t v c tt tv tc mi mm : Int) (a1 a2 a3 la : Option Addr) (c1 c2 c3 lc : Nat) (vs mv : List Int) (d : List UInt8) (es : List Ent) : NL :=
  { s := { mIx := mi, mTm := mm, mV := nilS, dat := nilS, la := la, lc := lc, es := es, fi := nilS, fresh := 0, ticks := 0, taken := 0, draw := 0, beats := 0, id := id, hT := t, hV := v, hC := c, tT := tt, tV := tv, tC := tc, applied := mi,
           role := 0, leader := -1, votes := nilS, peers := nilS, round := 0, waits := nilS, reads := nilS, msgs := nilS, snap := false },
    o := ⟨a1, c1, mv, a3, c3, vs⟩, dt := ⟨a2, c2, d⟩, wv := nilR, votes := [], ww := nilR, waits := [], wr := nilR, reads := [], wm := nilR, msgs := [], pm := none, peers := [] }
theorem nd_new (id t v c tt tv tc mi mm : Int) (a1 a2 a3 la : Option Addr) (c1 c2 c3 lc : Nat) (vs mv : List Int) (d : List UInt8) (es : List Ent) :
    (NL.new id t v c tt tv tc mi mm a1 a2 a3 la c1 c2 c3 lc vs mv d es).nd = { me := ⟨mi, mm, mv⟩, d := d, log := es.map Ent.pl, first := vs, fresh := 0, ticks := 0, taken := 0, draw := 0, beats := 0, id := id, hd := ⟨t, v, c⟩, told := ⟨tt, tv, tc⟩, applied := mi, role := 0, lead := -1, votes := [], peers := none, round := 0, waits := [], reads := [], msgs := [], snap := false } := rfl
def RS.raw (s : RS) : RS := { s with votes := nilS, peers := .val (.map none), waits := nilS, reads := nilS, msgs := nilS }
theorem sees_new (b : Nat) (id t v c tt tv tc mi mm : Int) (a1 a2 a3 la : Option Addr) (c1 c2 c3 lc : Nat) (vs mv : List Int) (d : List UInt8) (es : List Ent) (X : List Chunk) :
    Sees (rC b (NL.new id t v c tt tv tc mi mm a1 a2 a3 la c1 c2 c3 lc vs mv d es).rs.raw :: X) (nO b (NL.new id t v c tt tv tc mi mm a1 a2 a3 la c1 c2 c3 lc vs mv d es)) := by
  refine Sees.trans (Sees.left (a := [_]) (X := X)) ?_
  refine Sees.cons (fun ro H hh => ⟨H, [], by simp, cells_imp (cs := (NL.new id t v c tt tv tc mi mm a1 a2 a3 la c1 c2 c3 lc vs mv d es).rs.raw.cs) rfl (fun hk => ?_) hh⟩) ?_
  · simp only [RS.raw, RS.cs, NL.rs, NL.new, nilR, nilS, Rw.sv, SV.oks, SV.ok, true_and, and_true] at hk ⊢
    exact ⟨hk.1, hk.2.1, hk.2.2.1, hk.2.2.2.1⟩
  · refine Sees.new (nil_ch 3 1 encI) (Sees.new (nil_ch 100 3 encW) (Sees.new (nil_ch 48 2 encQ) (Sees.new (nil_ch 54 15 encM) (Sees.new (fun _ => rfl) (Sees.new sep_nil (Sees.refl []))))))
set_option maxHeartbeats 4000000 in
theorem c13p (c k : Nat) (id : Int) (a : Option Addr) (cap : Nat) (vs : List Int) (sv : Rf.Sv) (ma : Option Addr) (mc : Nat) (da : Option Addr) (dc : Nat) (la : Option Addr) (lc : Nat) (es : List Ent) (hes : es.map Ent.pl = sv.l) (h : sv.fit k) (hid : Rf.isId id = true) (hvs : Rf.areVoters vs = true) (hk : k ≤ 2 ^ 30) :
    Spec Try.prog E 13 [I id, vI a cap vs, .agg [I sv.h.tm, I sv.h.vote, I sv.h.cm], .agg [I sv.m.ix, I sv.m.tm, vI ma mc sv.m.vs], vB da dc sv.d, vE la lc es] []
      (fun r hp => ∃ b N, r = .tup [.ptr c b 0, I 0] ∧ N.nd = Rf.Nd.new id vs sv.h sv.m sv.d sv.l ∧ hp = nO b N) := by
  have hvl := (Rf.areVoters_facts hvs).2.2.2
  have hmvl := h.ml
  have hinv := Rf.inv_new h id hvs
  have hi0 := h.i0; have hi1 := h.i1; have ht0 := h.t0; have ht1 := h.t1; have hy0 := h.y0; have hy1 := h.y1; have hc0 := h.c0; have hc1 := h.c1
  have hlen : es.length = sv.l.length := by rw [← hes, List.length_map]
  have hok : ∀ e ∈ es, okD e.d.xs ∧ -2 ^ 62 ≤ e.ix ∧ e.ix ≤ 2 ^ 62 := by
    intro e he
    have hmm : e.pl ∈ sv.l := by rw [← hes]; exact List.mem_map_of_mem he
    have h1 := (h.en _ hmm).d
    obtain ⟨i, hi, rfl⟩ := List.getElem_of_mem he
    have h2 := Rf.row_ix h.rw i (by omega)
    have h3 : (sv.l.getD i default).ix = es[i].ix := by
      rw [← hes, List.getD_eq_getElem?_getD, List.getElem?_map, List.getElem?_eq_getElem hi]
      rfl
    rw [h3] at h2
    exact ⟨⟨Nat.le_trans h1.1 (by decide), h1.2⟩, by omega, by omega⟩
  have hrow : rowB sv.m.ix sv.m.tm 4611686018427387904 es = true := by
    rw [← row_eq es _ _ _ fun e he => (hok e he).1, hes]
    exact h.rw
  have h68 := c68 (E := E) la lc es sv.m.ix sv.m.tm 4611686018427387904 (by omega) hok
  rw [hrow] at h68
  have h34 : Spec Try.prog E 34 [I id, vI a cap vs, .agg [I sv.h.tm, I sv.h.vote, I sv.h.cm], .agg [I sv.m.ix, I sv.m.tm, vI ma mc sv.m.vs], vE la lc es] [] (fun v hp => v = Bl true ∧ hp = []) :=
    (c34g id a cap vs sv.h.tm sv.h.vote sv.h.cm sv.m.ix sv.m.tm ma mc sv.m.vs la lc es (by rw [← isId_eq]; exact hid) (by rw [← areV_eq]; exact hvs) ⟨ht0, by omega⟩ h.v0 hc0 ⟨hi0, by omega⟩ ⟨hy0, by omega⟩
      (by
        by_cases h0 : sv.m.ix = 0
        · exact .inl h0
        · exact .inr (by rw [← areV_eq]; exact h.mv (by omega))) (by omega) h68).leave fun _ hp h => ⟨[], hp, rfl, h, rfl⟩
  refine Spec.sees (Post := fun r hp => ∃ b N, r = .tup [.ptr 2 b 0, I 0] ∧ N.nd = Rf.Nd.new id vs sv.h sv.m sv.d sv.l ∧ Sees hp (nO b N)) ?_ ?_
  rotate_left
  · rintro r hp ⟨b, N, rfl, h1, h2⟩
    exact ⟨.tup [.ptr c b 0, I 0], nO b N, rfl, fun ro _ => by simp only [SV.ok, SV.oks, and_self], h2, b, N, rfl, h1, rfl⟩
  refine spec_of (keep := k13) (args' := [I id, vI a cap vs, .agg [I sv.h.tm, I sv.h.vote, I sv.h.cm], .agg [I sv.m.ix, I sv.m.tm, vI ma mc sv.m.vs], vB da dc sv.d, vE la lc es]) Try.func13 rfl Try.ntmps13 s13_ok (by simp) ⟨rfl, fun _ h => h⟩ (fun _ _ h => h) (go_ok _ 100 _ _ ?_)
  simp only [go_sem, s13, k13, Nat.reduceBEq, Nat.reduceAdd, Nat.zero_add]
  intro b1 b2
  refine (stp_call [] rfl rfl rfl ⟨_, Try.func34, rfl, rfl⟩ h34 rfl (fun _ h => h) rfl (fun _ _ h => h) ?_).safe trivial
  rintro v' hp ⟨rfl, rfl⟩
  refine ⟨trivial, go_ok _ 100 _ _ ?_⟩
  simp only [go_sem, Nat.reduceBEq, Nat.zero_add]
  refine (stp_call [] (args := [.agg [I sv.m.ix, I sv.m.tm, vI ma mc sv.m.vs]]) rfl rfl rfl ⟨_, Try.func35, rfl, rfl⟩ (c35 sv.m.ix sv.m.tm ma mc sv.m.vs (by omega)) rfl (fun _ h => h) rfl (fun _ _ h => h) ?_).safe trivial
  rintro v' hp ⟨rfl, a1, c1, rfl⟩
  refine ⟨by simp only [recheck, recheck1, go_sem, Nat.reduceBEq, Nat.zero_add], ?_⟩
  refine (stp_call [] rfl rfl rfl ⟨_, Try.func36, rfl, rfl⟩ (c36 da dc sv.d (by have := h.dl; omega)) rfl (fun _ h => h) rfl (fun _ _ h => h) ?_).safe trivial
  rintro v' hp ⟨rfl, a2, c2, rfl⟩
  refine ⟨by simp only [recheck, recheck1, go_sem, Nat.reduceBEq, Nat.zero_add], ?_⟩
  refine (stp_call [] rfl rfl rfl ⟨_, Try.func37, rfl, rfl⟩ (c37 la lc es (by omega) (fun e he => (hok e he).1.1)) rfl (fun _ h => h) rfl (fun _ _ h => h) ?_).safe trivial
  rintro v' hp ⟨rfl, la', lc', es', rfl, hsame⟩
  refine ⟨by simp only [recheck, recheck1, go_sem, Nat.reduceBEq, Nat.zero_add], ?_⟩
  refine (stp_call [] rfl rfl rfl ⟨_, Try.func38, rfl, rfl⟩ (c38 a cap vs (by omega)) rfl (fun _ h => h) rfl (fun _ _ h => h) ?_).safe trivial
  rintro v' hp ⟨rfl, a3, c3, rfl⟩
  refine ⟨by simp only [recheck, recheck1, go_sem, Nat.reduceBEq, Nat.zero_add], go_ok _ 100 _ _ ?_⟩
  simp only [go_sem, Nat.reduceBEq, Nat.reduceAdd, Nat.zero_add]
  intro b
  have hpl : es'.map Ent.pl = sv.l := by rw [hsame.pl, hes]
  have hraw : rC b (NL.new id sv.h.tm sv.h.vote sv.h.cm sv.h.tm sv.h.vote sv.h.cm sv.m.ix sv.m.tm a1 a2 a3 la' c1 c2 c3 lc' vs sv.m.vs sv.d es').rs.raw = rC b (NL.new id sv.h.tm sv.h.vote sv.h.cm sv.h.tm sv.h.vote sv.h.cm sv.m.ix sv.m.tm a1 a2 a3 la' c1 c2 c3 lc' vs sv.m.vs sv.d es').rs.raw := rfl
  have hlen' := hsame.len
  have hsm : ∀ t v c, (NL.new id t v c sv.h.tm sv.h.vote sv.h.cm sv.m.ix sv.m.tm a1 a2 a3 la' c1 c2 c3 lc' vs sv.m.vs sv.d es').rs.raw.small := fun t v c => ⟨hi0, show sv.m.ix ≤ _ by omega, show es'.length ≤ _ by omega⟩
  have hla : ∀ t v c, (NL.new id t v c sv.h.tm sv.h.vote sv.h.cm sv.m.ix sv.m.tm a1 a2 a3 la' c1 c2 c3 lc' vs sv.m.vs sv.d es').rs.raw.last = sv.m.ix + sv.l.length := fun t v c => by
    show sv.m.ix + (es'.length : Int) = _
    omega
  have hte : ∀ t v c, (NL.new id t v c sv.h.tm sv.h.vote sv.h.cm sv.m.ix sv.m.tm a1 a2 a3 la' c1 c2 c3 lc' vs sv.m.vs sv.d es').rs.raw.term (sv.m.ix + sv.l.length) = (NL.new id sv.h.tm sv.h.vote sv.h.cm sv.h.tm sv.h.vote sv.h.cm sv.m.ix sv.m.tm a1 a2 a3 la' c1 c2 c3 lc' vs sv.m.vs sv.d es').nd.term (sv.m.ix + sv.l.length) := fun t v c => (nd_term _ _).symm
  refine (stp_call [2] rfl rfl rfl ⟨_, Try.func40, rfl, rfl⟩ (c40 b (NL.new id sv.h.tm sv.h.vote sv.h.cm sv.h.tm sv.h.vote sv.h.cm sv.m.ix sv.m.tm a1 a2 a3 la' c1 c2 c3 lc' vs sv.m.vs sv.d es').rs.raw (hsm _ _ _)) rfl (fun _ h => h) rfl (fun _ _ h => h) ?_).safe trivial
  rintro v' hp ⟨rfl, rfl⟩
  rw [hla]
  refine ⟨by simp only [recheck, recheck1, go_sem, Nat.reduceBEq, Nat.zero_add], ?_⟩
  refine (stp_call [2] rfl rfl rfl ⟨_, Try.func39, rfl, rfl⟩ (c39 b (NL.new id sv.h.tm sv.h.vote sv.h.cm sv.h.tm sv.h.vote sv.h.cm sv.m.ix sv.m.tm a1 a2 a3 la' c1 c2 c3 lc' vs sv.m.vs sv.d es').rs.raw (sv.m.ix + sv.l.length) (hsm _ _ _) (by omega) (by omega)) rfl (fun _ h => h) rfl (fun _ _ h => h) ?_).safe trivial
  rintro v' hp ⟨rfl, rfl⟩
  rw [hte]
  have hN0 : (NL.new id sv.h.tm sv.h.vote sv.h.cm sv.h.tm sv.h.vote sv.h.cm sv.m.ix sv.m.tm a1 a2 a3 la' c1 c2 c3 lc' vs sv.m.vs sv.d es').nd = { me := sv.m, d := sv.d, log := sv.l, first := vs, fresh := 0, ticks := 0, taken := 0, draw := 0, beats := 0, id := id, hd := sv.h, told := sv.h, applied := sv.m.ix, role := 0, lead := -1, votes := [], peers := none, round := 0, waits := [], reads := [], msgs := [], snap := false } := by
    rw [nd_new, hpl]
  have hnew : Rf.Nd.new id vs sv.h sv.m sv.d sv.l = { (NL.new id sv.h.tm sv.h.vote sv.h.cm sv.h.tm sv.h.vote sv.h.cm sv.m.ix sv.m.tm a1 a2 a3 la' c1 c2 c3 lc' vs sv.m.vs sv.d es').nd with hd := ⟨if sv.h.tm < max (max sv.h.tm sv.m.tm) ((NL.new id sv.h.tm sv.h.vote sv.h.cm sv.h.tm sv.h.vote sv.h.cm sv.m.ix sv.m.tm a1 a2 a3 la' c1 c2 c3 lc' vs sv.m.vs sv.d es').nd.term (sv.m.ix + sv.l.length)) then max (max sv.h.tm sv.m.tm) ((NL.new id sv.h.tm sv.h.vote sv.h.cm sv.h.tm sv.h.vote sv.h.cm sv.m.ix sv.m.tm a1 a2 a3 la' c1 c2 c3 lc' vs sv.m.vs sv.d es').nd.term (sv.m.ix + sv.l.length)) else sv.h.tm, if sv.h.tm < max (max sv.h.tm sv.m.tm) ((NL.new id sv.h.tm sv.h.vote sv.h.cm sv.h.tm sv.h.vote sv.h.cm sv.m.ix sv.m.tm a1 a2 a3 la' c1 c2 c3 lc' vs sv.m.vs sv.d es').nd.term (sv.m.ix + sv.l.length)) then -1 else sv.h.vote, min (max sv.h.cm sv.m.ix) (sv.m.ix + sv.l.length)⟩ } := by
    rw [hN0]; rfl
  generalize hT : (NL.new id sv.h.tm sv.h.vote sv.h.cm sv.h.tm sv.h.vote sv.h.cm sv.m.ix sv.m.tm a1 a2 a3 la' c1 c2 c3 lc' vs sv.m.vs sv.d es').nd.term (sv.m.ix + sv.l.length) = T at *
  refine ⟨by simp only [recheck, recheck1, go_sem, Nat.reduceBEq, Nat.zero_add], ?_⟩
  refine safe_oth (oth_max3 (n1 := sv.h.tm) (n2 := sv.m.tm) (n3 := T) rfl rfl rfl rfl rfl rfl) trivial ?_
  refine go_ok _ 100 _ _ ?_
  simp only [go_sem, Nat.reduceBEq, Nat.reduceAdd, Nat.zero_add]
  refine ⟨fun hc => ?_, fun hc => ?_⟩
  · have hc' : sv.h.tm < max (max sv.h.tm sv.m.tm) T := of_decide_eq_true hc
    rw [if_pos hc', if_pos hc'] at hnew
    refine (stp_call [2] rfl rfl rfl ⟨_, Try.func40, rfl, rfl⟩ (c40 b (NL.new id (max (max sv.h.tm sv.m.tm) T) (-1) sv.h.cm sv.h.tm sv.h.vote sv.h.cm sv.m.ix sv.m.tm a1 a2 a3 la' c1 c2 c3 lc' vs sv.m.vs sv.d es').rs.raw (hsm _ _ _)) rfl (fun _ h => h) rfl (fun _ _ h => h) ?_).safe trivial
    rintro v' hp ⟨rfl, rfl⟩
    rw [hla]
    refine ⟨by simp only [recheck, recheck1, go_sem, Nat.reduceBEq, Nat.zero_add], go_ok _ 100 _ _ ?_⟩
    simp only [go_sem, Nat.reduceBEq, Nat.reduceAdd, Nat.zero_add, Try.results13]
    refine ⟨b, NL.new id (max (max sv.h.tm sv.m.tm) T) (-1) (min (max sv.h.cm sv.m.ix) (sv.m.ix + sv.l.length)) sv.h.tm sv.h.vote sv.h.cm sv.m.ix sv.m.tm a1 a2 a3 la' c1 c2 c3 lc' vs sv.m.vs sv.d es', rfl, by rw [hnew]; rfl, ?_⟩
    exact Sees.skip (Sees.skip (sees_new b id (max (max sv.h.tm sv.m.tm) T) (-1) (min (max sv.h.cm sv.m.ix) (sv.m.ix + sv.l.length)) sv.h.tm sv.h.vote sv.h.cm sv.m.ix sv.m.tm a1 a2 a3 la' c1 c2 c3 lc' vs sv.m.vs sv.d es' []))
  · have hc' : ¬ sv.h.tm < max (max sv.h.tm sv.m.tm) T := of_decide_eq_false hc
    rw [if_neg hc', if_neg hc'] at hnew
    refine (stp_call [2] rfl rfl rfl ⟨_, Try.func40, rfl, rfl⟩ (c40 b (NL.new id sv.h.tm sv.h.vote sv.h.cm sv.h.tm sv.h.vote sv.h.cm sv.m.ix sv.m.tm a1 a2 a3 la' c1 c2 c3 lc' vs sv.m.vs sv.d es').rs.raw (hsm _ _ _)) rfl (fun _ h => h) rfl (fun _ _ h => h) ?_).safe trivial
    rintro v' hp ⟨rfl, rfl⟩
    rw [hla]
    refine ⟨by simp only [recheck, recheck1, go_sem, Nat.reduceBEq, Nat.zero_add], go_ok _ 100 _ _ ?_⟩
    simp only [go_sem, Nat.reduceBEq, Nat.reduceAdd, Nat.zero_add, Try.results13]
    refine ⟨b, NL.new id sv.h.tm sv.h.vote (min (max sv.h.cm sv.m.ix) (sv.m.ix + sv.l.length)) sv.h.tm sv.h.vote sv.h.cm sv.m.ix sv.m.tm a1 a2 a3 la' c1 c2 c3 lc' vs sv.m.vs sv.d es', rfl, by rw [hnew]; rfl, ?_⟩
    exact Sees.skip (Sees.skip (sees_new b id sv.h.tm sv.h.vote (min (max sv.h.cm sv.m.ix) (sv.m.ix + sv.l.length)) sv.h.tm sv.h.vote sv.h.cm sv.m.ix sv.m.tm a1 a2 a3 la' c1 c2 c3 lc' vs sv.m.vs sv.d es' []))
end Go.SX

/- Raft: what came (Ready): own rows are frozen ahead of it. -/
namespace Go.SX
open Go.Proofs
set_option maxRecDepth 1000000
variable {E : Env}

theorem setL_oks {ro : RO} : ∀ {cs : List SV} {j : Nat} {v : SV}, SV.oks ro cs → v.ok ro → SV.oks ro (cs.set j v)
  | [], _, _, h, _ => h
  | s :: cs, 0, v, h, hv => by
    simp only [List.set_cons_zero, SV.oks] at h ⊢
    exact ⟨hv, h.2⟩
  | s :: cs, j + 1, v, h, hv => by
    simp only [List.set_cons_succ, SV.oks] at h ⊢
    exact ⟨h.1, setL_oks h.2 hv⟩
theorem setL_dens : ∀ {cs : List SV} {j : Nat} {s v : SV}, getL cs j = some s → v.den = s.den → SV.dens (cs.set j v) = SV.dens cs
  | [], _, _, _, h, _ => by simp [getL] at h
  | x :: cs, 0, s, v, h, hd => by
    simp only [getL, Option.some.injEq] at h
    subst h
    simp only [List.set_cons_zero, SV.dens, hd]
  | x :: cs, j + 1, s, v, h, hd => by
    simp only [getL] at h
    simp only [List.set_cons_succ, SV.dens, setL_dens h hd]
/-- ahead of a call an own row is frozen, which stands in a cell -/
theorem Spec.frzIn {P : Program} {f : FuncId} {args : List SV} {b b' off sz n cap : Nat} {nl : Bool} {T T0 : TypeId} {g : Nat → Nat → SV} {cs : List SV} {A B : List Chunk} {Post : SV → List Chunk → Prop} (j c : Nat) (hj : getL cs j = some (.osl c nl b' off n cap))
    (h : Spec P E f args (.cells b T0 (cs.set j (.view (if nl then none else some ⟨b', off, none⟩) n cap sz g)) :: A ++ .emp :: B) Post) : Spec P E f args (.cells b T0 cs :: A ++ .row nl b' T off sz n cap g :: B) Post := by
  intro ro F H w h1 h2 h3
  obtain ⟨H1, H2, rfl, ha, hb⟩ := hsat_append.1 h1
  obtain ⟨H0, H1', rfl, hc, ha'⟩ := ha
  obtain ⟨Hr, H2', rfl, hr, hb'⟩ := hb
  obtain ⟨hc1, hc2⟩ := hc
  have hd : SV.dens (cs.set j (.view (if nl then none else some ⟨b', off, none⟩) n cap sz g)) = SV.dens cs := setL_dens hj rfl
  have fin : ∀ ro', ROle ro ro' → (∀ p ∈ Hr, ro' p.1 = some p.2) → Sat E ro' ((H0 ++ H1') ++ H2' ++ F) w → Calls P f (SV.dens args).toArray w (Fin E ro F Post) := by
    intro ro' hle hin hs
    have hv : (SV.view (if nl then none else some ⟨b', off, none⟩) n cap sz g).ok ro' := frz_ok hr hle hin
    refine Calls.mono (h ro' F ((H0 ++ H1') ++ ([] ++ H2')) w ?_ (SV.oks_mono hle _ h2) (by simpa using hs)) ?_
    · refine hsat_append.2 ⟨H0 ++ H1', [] ++ H2', rfl, ⟨H0, H1', rfl, ⟨by rw [hc1, hd], setL_oks (SV.oks_mono hle _ hc2) hv⟩, hsat_mono hle ha'⟩, [], H2', rfl, rfl, hsat_mono hle hb'⟩
    · rintro e w' ⟨v, hp', ro2, H', e1, e2, e3, e4, e5, e6⟩
      exact ⟨v, hp', ro2, H', e1, e2, hle.trans e3, e4, e5, e6⟩
  cases nl with
  | true =>
    obtain ⟨rfl, _⟩ := id hr
    exact fin ro (ROle.refl _) (by simp) (by simpa using h3)
  | false =>
    obtain ⟨arr, fz, rfl, _⟩ := id hr
    have hp : ((H0 ++ H1') ++ ([(b', Obj.cells arr T fz)] ++ H2') ++ F).Perm ((b', Obj.cells arr T fz) :: ((H0 ++ H1') ++ H2' ++ F)) := by
      simp only [List.append_assoc, List.cons_append, List.nil_append]
      refine (List.Perm.append_left H0 (List.perm_middle (l₁ := H1') (l₂ := H2' ++ F))).trans ?_
      exact List.perm_middle
    obtain ⟨s1, s2, s3⟩ := Sat.freeze (h3.perm hp)
    exact fin _ s2 (by simpa using s3) s1
end Go.SX

/- Raft: what came (Ready), by the plain model. -/
namespace Go.SX
open Go.Proofs
set_option maxRecDepth 1000000
variable {E : Env}

noncomputable def g30 (i : Nat) : Field := (Try.prog.fieldsOf 30)[i]!
theorem fs30 : (Try.prog.fieldsOf 30).toList = [g30 0, g30 1, g30 2] := by kernel_rfl
theorem hd30 {st : St} {C : Ctx} (hP : C.P = Try.prog) {x y : Operand} {xo yo : Opd} {x1 x2 x3 y1 y2 y3 : Int} {ty t' : TypeId} (h1 : copd x = some xo) (h2 : copd y = some yo)
    (e1 : opv st.env xo = some (.agg [I x1, I x2, I x3])) (e2 : opv st.env yo = some (.agg [I y1, I y2, I y3])) :
    OthV C st (.binOp .neq 30 x y t') ty (Bl (!(x1 == y1 && (x2 == y2 && x3 == y3)))) := by
  refine oth_neq3 (f1 := g30 0) (f2 := g30 1) (f3 := g30 2) h1 h2 ?_ ?_ ?_ ?_ ⟨?_, ?_, ?_, ?_⟩ ⟨?_, ?_, ?_, ?_⟩ ⟨?_, ?_, ?_, ?_⟩ e1 e2 <;> (try rw [hP])
  all_goals first | exact fs30 | kernel_rfl | exact of_decide_eq_true (by kernel_rfl)

def RS.hasHard (s : RS) : Bool := !(s.hT == s.tT && (s.hV == s.tV && s.hC == s.tC))
def RS.readied (s : RS) : RS := { s with fresh := 0, tT := s.hT, tV := s.hV, tC := s.hC, applied := s.hC, msgs := nilS, reads := nilS, snap := false }

theorem ag40 : aggOf Try.prog 40 = some (some 13) := by kernel_rfl

/-- what is told of a snapshot -/
def SnapP (p : Bool) (mv : List Int) (d : List UInt8) (x y : SV) : Prop := (p = true → ∃ a k a2 k2, x = vI a k mv ∧ y = vB a2 k2 d) ∧ (p = false → x = nilS ∧ y = nilS)
set_option maxHeartbeats 4000000 in
theorem c16r (b : Nat) (s : RS) (hs : s.small) (hd : s.fitsD) (hf : 0 ≤ s.fresh ∧ s.fresh ≤ 2 ^ 61) (ha : 0 ≤ s.applied ∧ s.applied ≤ s.hC ∧ s.hC ≤ 2 ^ 60) {va da : Option Addr} {vc dc : Nat} {mv : List Int} {dx : List UInt8} (hmV : s.mV = vI va vc mv) (hdt : s.dat = vB da dc dx) (hmvl : mv.length ≤ 1000) (hdxl : dx.length ≤ 2 ^ 40)
    {ma : Option Addr} {mn mc msz : Nat} {mf : Nat → Nat → SV} (hm : s.msgs = .view ma mn mc msz mf) {ra : Option Addr} {rn rc rsz : Nat} {rf : Nat → Nat → SV} (hr : s.reads = .view ra rn rc rsz rf) :
    Spec Try.prog E 16 [.ptr 0 b 0] [rC b s] (fun v hp => ∃ ea ec es ca cc cs x y X, Same (if s.fresh = 0 then [] else s.es.drop (min (max (s.fresh - s.mIx - 1) 0) s.es.length).toNat) es ∧
      Same ((s.es.drop (min (max (s.applied + 1 - s.mIx - 1) 0) s.es.length).toNat).take (s.hC - s.applied).toNat) cs ∧ SnapP s.snap mv dx x y ∧
      v = .agg [Bl s.hasHard, I (bif s.hasHard then s.hT else 0), I (bif s.hasHard then s.hV else 0), I (bif s.hasHard then s.hC else 0), Bl s.snap, I (bif s.snap then s.mIx else 0), I (bif s.snap then s.mTm else 0), x, y, vE ea ec es, s.msgs, vE ca cc cs, s.reads] ∧ hp = rC b s.readied :: X) := by
  refine spec_of (keep := k16) (args' := [.ptr 0 b 0]) Try.func16 rfl Try.ntmps16 s16_ok (by simp) ⟨rfl, fun _ h => h⟩ (fun _ _ h => h) (go_ok _ 100 _ _ ?_)
  simp only [go_sem, s16, k16, Nat.reduceBEq, Nat.zero_add]
  intro b2
  have cm : cellsOf s.msgs = some [s.msgs] := by rw [hm]; rfl
  have cr : cellsOf s.reads = some [s.reads] := by rw [hr]; rfl
  unfold cellsOf at cm cr
  refine safe_alts_mid (ι := Nat × Option Addr × Nat × {es : List Ent // Same (if s.fresh = 0 then [] else s.es.drop (min (max (s.fresh - s.mIx - 1) 0) s.es.length).toNat) es})
    (fun p => ⟨[(0, .ptr 0 b 0), (2, .ptr 1 b2 0), (3, .ptr 2 p.1 0)], [rC b { s with fresh := 0 }, .cells b2 40 [Bl false, I 0, I 0, I 0, Bl false, I 0, I 0, nilS, nilS, nilS, nilS, nilS, nilS],
      .cells p.1 40 [Bl false, I 0, I 0, I 0, Bl false, I 0, I 0, nilS, nilS, vE p.2.1 p.2.2.1 p.2.2.2.1, s.msgs, nilS, s.reads]]⟩) ?_ ?_
  · rintro ⟨b3, ea, ec, es, hsame⟩
    refine go_ok _ 100 _ _ ?_
    simp only [go_sem, Nat.reduceBEq, Nat.zero_add]
    refine safe_oth (s := Bl s.hasHard) (hd30 rfl rfl rfl rfl rfl) trivial ?_
    refine go_ok _ 1 _ _ ?_
    simp only [go_sem, Nat.reduceBEq]
    refine safe_cond_mid (p := s.hasHard) ⟨[(0, .ptr 0 b 0), (2, .ptr 1 b2 0), (3, .ptr 2 b3 0)], [rC b { s with fresh := 0, tT := s.hT, tV := s.hV, tC := s.hC }, .cells b2 40 [Bl false, I 0, I 0, I 0, Bl false, I 0, I 0, nilS, nilS, nilS, nilS, nilS, nilS],
      .cells b3 40 [Bl s.hasHard, I (bif s.hasHard then s.hT else 0), I (bif s.hasHard then s.hV else 0), I (bif s.hasHard then s.hC else 0), Bl false, I 0, I 0, nilS, nilS, vE ea ec es, s.msgs, nilS, s.reads]]⟩ rfl ?_ ?_ ?_
    · refine go_ok _ 8 _ _ ?_
      simp only [go_sem, Nat.reduceBEq, Nat.zero_add]
      refine safe_code_mid (ι := {p : SV × SV // SnapP s.snap mv dx p.1 p.2}) (fun p => ⟨[(0, .ptr 0 b 0), (2, .ptr 1 b2 0), (3, .ptr 2 b3 0)], [rC b { s with fresh := 0, tT := s.hT, tV := s.hV, tC := s.hC }, .cells b2 40 [Bl false, I 0, I 0, I 0, Bl false, I 0, I 0, nilS, nilS, nilS, nilS, nilS, nilS],
      .cells b3 40 [Bl s.hasHard, I (bif s.hasHard then s.hT else 0), I (bif s.hasHard then s.hV else 0), I (bif s.hasHard then s.hC else 0), Bl s.snap, I (bif s.snap then s.mIx else 0), I (bif s.snap then s.mTm else 0), p.1.1, p.1.2, vE ea ec es, s.msgs, nilS, s.reads]]⟩) ?_ ?_
      · rintro ⟨⟨x, y⟩, hxy⟩
        have cx : (∃ a n c z f, x = .view a n c z f) ∧ ∃ a n c z f, y = .view a n c z f := by
          rcases hsn : s.snap with _ | _
          · obtain ⟨h1, h2⟩ := hxy.2 hsn
            exact ⟨⟨_, _, _, _, _, h1⟩, ⟨_, _, _, _, _, h2⟩⟩
          · obtain ⟨_, _, _, _, h1, h2⟩ := hxy.1 hsn
            exact ⟨⟨_, _, _, _, _, h1⟩, ⟨_, _, _, _, _, h2⟩⟩
        obtain ⟨⟨xa, xn, xc, xz, xf, rfl⟩, ya, yn, yc, yz, yf, rfl⟩ := cx
        refine go_ok _ 100 _ _ ?_
        simp only [go_sem, Nat.reduceBEq, Nat.reduceAdd, Nat.zero_add]
        refine ⟨by simp only [inI64]; omega, by simp only [inI64]; omega, ?_⟩
        refine (stp_call [0] rfl rfl rfl ⟨_, Try.func45, rfl, rfl⟩ (c45 b { s with fresh := 0, tT := s.hT, tV := s.hV, tC := s.hC } (s.applied + 1) (s.hC - s.applied) ⟨hs.m0, hs.m1, hs.len⟩ hd (by omega) (by omega) (by omega)) rfl (fun _ h => h) rfl (fun _ _ h => h) ?_).safe trivial
        rintro v hp ⟨rfl, ca, cc, cs, rfl, hsame2⟩
        refine ⟨trivial, go_ok _ 100 _ _ ?_⟩
        simp only [go_sem, nilS, Nat.reduceBEq, Nat.reduceAdd, Nat.zero_add, Try.results16]
        refine ⟨by simp only [hm, hr, and_self], ?_⟩
        refine safe_retC (l := [.agg [Bl s.hasHard, I (bif s.hasHard then s.hT else 0), I (bif s.hasHard then s.hV else 0), I (bif s.hasHard then s.hC else 0), Bl s.snap, I (bif s.snap then s.mIx else 0), I (bif s.snap then s.mTm else 0), .view xa xn xc xz xf, .view ya yn yc yz yf, vE ea ec es, s.msgs, vE ca cc cs, s.reads]]) (vc := True) ?_ trivial ⟨ea, ec, es, ca, cc, cs, _, _, _, hsame, hsame2, hxy, rfl, rfl⟩ rfl rfl
        simp only [retC, Try.results16, go_sem, Nat.reduceBEq, ag40]
      · intro hrest
        refine go_ok _ 1 _ _ ?_
        simp only [go_sem]
        refine ⟨fun hsn => ?_, fun hsn => ?_⟩
        · refine go_ok _ 100 _ _ ?_
          simp only [go_sem, Nat.reduceBEq, Nat.zero_add]
          refine (stp_call [] (args := [.agg [I s.mIx, I s.mTm, vI va vc mv]]) rfl rfl rfl ⟨_, Try.func35, rfl, rfl⟩ (c35 s.mIx s.mTm va vc mv (by omega)) (by rw [hmV]; rfl) (fun _ h => by rw [hmV] at h; exact h) rfl (fun _ _ h => h) ?_).safe trivial
          rintro v hp ⟨rfl, a1, k1, rfl⟩
          refine ⟨by simp only [recheck, recheck1, go_sem, Nat.reduceBEq, Nat.zero_add], go_ok _ 100 _ _ ?_⟩
          simp only [go_sem]
          refine (stp_call [] (args := [vB da dc dx]) rfl rfl rfl ⟨_, Try.func36, rfl, rfl⟩ (c36 da dc dx (by omega)) (by rw [hdt]; rfl) (fun _ h => by rw [hdt] at h; exact h) rfl (fun _ _ h => h) ?_).safe trivial
          rintro v hp ⟨rfl, a2, k2, rfl⟩
          refine ⟨by simp only [recheck, recheck1, go_sem, Nat.reduceBEq, Nat.zero_add], go_ok _ 6 _ _ ?_⟩
          simp only [go_sem, Nat.reduceBEq, Nat.reduceAdd, Nat.zero_add]
          refine Safe.sub ?_ (hrest ⟨(vI a1 k1 mv, vB a2 k2 dx), fun _ => ⟨a1, k1, a2, k2, rfl, rfl⟩, fun h => absurd h (by rw [hsn]; decide)⟩)
          refine Sub.front (X := []) (by simp [envSub, look]) ?_
          simp only [hsn, cond_true, List.append_nil]
        · refine go_ok _ 1 _ _ ?_
          simp only [go_sem]
          refine Safe.sub ?_ (hrest ⟨(nilS, nilS), fun h => absurd h (by rw [hsn]; decide), fun _ => ⟨rfl, rfl⟩⟩)
          refine Sub.front (X := []) (by simp [envSub, look]) ?_
          simp only [hsn, cond_false, List.append_nil]
    · intro hh hrest
      refine go_ok _ 18 _ _ ?_
      simp only [go_sem, Nat.reduceBEq, Nat.reduceAdd, Nat.zero_add]
      refine Safe.sub (Sub.front (X := []) (by simp [envSub, look]) ?_) hrest
      simp only [rC, RS.cs, hh, cond_true, List.append_nil]
    · intro hh hrest
      refine go_ok _ 1 _ _ ?_
      simp only [go_sem]
      have : s.tT = s.hT ∧ s.tV = s.hV ∧ s.tC = s.hC := by
        have h := hh
        simp only [RS.hasHard, Bool.not_eq_false', Bool.and_eq_true, beq_iff_eq] at h
        exact ⟨h.1.symm, h.2.1.symm, h.2.2.symm⟩
      refine Safe.sub (Sub.front (X := []) (by simp [envSub, look]) ?_) hrest
      simp only [rC, RS.cs, this.1, this.2.1, this.2.2, hh, cond_false, List.append_nil]
  · intro l hl hrest
    simp only [List.mem_cons, List.not_mem_nil, or_false] at hl
    rcases hl with rfl | rfl
    · refine go_ok _ 12 _ _ ?_
      simp only [go_sem, Nat.reduceBEq, Nat.zero_add]
      refine (stp_call [0] rfl rfl rfl ⟨_, Try.func44, rfl, rfl⟩ (c44 b s hs hd hf.1 hf.2) rfl (fun _ h => h) rfl (fun _ _ h => h) ?_).safe trivial
      rintro v hp ⟨rfl, ea, ec, es, rfl, hsame⟩
      refine ⟨by simp only [recheck, recheck1, go_sem, Nat.reduceBEq, Nat.zero_add], go_ok _ 4 _ _ ?_⟩
      simp only [go_sem, cm, cr, Nat.reduceBEq, Nat.reduceAdd, Nat.zero_add]
      exact fun b3 => ⟨⟨by simp only [hm], by simp only [hr]⟩, hrest (b3, ea, ec, ⟨es, hsame⟩)⟩
    · refine go_ok _ 100 _ _ ?_
      simp only [go_sem, Nat.reduceBEq, Nat.reduceAdd, Nat.zero_add]
      intro b3
      refine (stp_call [0] rfl rfl rfl ⟨_, Try.func44, rfl, rfl⟩ (c44 b s hs hd hf.1 hf.2) rfl (fun _ h => h) rfl (fun _ _ h => h) ?_).safe trivial
      rintro v hp ⟨rfl, ea, ec, es, rfl, hsame⟩
      refine ⟨by simp only [recheck, recheck1, go_sem, Nat.reduceBEq, Nat.zero_add], go_ok _ 3 _ _ ?_⟩
      simp only [go_sem, cm, cr, Nat.reduceBEq, Nat.reduceAdd, Nat.zero_add]
      exact ⟨⟨by simp only [hm], by simp only [hr]⟩, hrest (b3, ea, ec, ⟨es, hsame⟩)⟩
end Go.SX

/- Raft: what came (Ready), over the whole node. -/
namespace Go.SX
open Go.Proofs
set_option maxRecDepth 1000000
variable {E : Env}

/-- what is told -/
structure RdL where
  hh : Bool
  hT : Int
  hV : Int
  hC : Int
  sn : Bool
  mi : Int
  mm : Int
  mv : Sl Int
  d : By
  es : Sl Ent
  ms : Sl MsL
  cs : Sl Ent
  rs : Sl (Int × Int)
abbrev vM (a : Option Addr) (cap : Nat) (xs : List MsL) : SV := .view a xs.length cap 15 (rowsV encM xs)
abbrev vQ (a : Option Addr) (cap : Nat) (xs : List (Int × Int)) : SV := .view a xs.length cap 2 (rowsV encQ xs)
@[go_sem] def encRd (r : RdL) : List SV := [Bl r.hh, I r.hT, I r.hV, I r.hC, Bl r.sn, I r.mi, I r.mm, vI r.mv.a r.mv.cap r.mv.xs, vB r.d.a r.d.cap r.d.xs, vE r.es.a r.es.cap r.es.xs, vM r.ms.a r.ms.cap r.ms.xs, vE r.cs.a r.cs.cap r.cs.xs, vQ r.rs.a r.rs.cap r.rs.xs]
def RdL.pl (r : RdL) : Rf.Nd.Rd := ⟨if r.hh then some ⟨r.hT, r.hV, r.hC⟩ else none, if r.sn then some (⟨r.mi, r.mm, r.mv.xs⟩, r.d.xs) else none, r.es.xs.map Ent.pl, r.ms.xs.map MsL.pl, r.cs.xs.map Ent.pl, r.rs.xs⟩
def NL.readied (n : NL) : NL := { n with s := { n.s with fresh := 0, tT := n.s.hT, tV := n.s.hV, tC := n.s.hC, applied := n.s.hC, snap := false }, wr := nilR, reads := [], wm := nilR, msgs := [] }
/-- its messages and reads frozen -/
def NL.frozen (n : NL) : RS := { n.rs with msgs := .view (if n.wm.nl then none else some ⟨n.wm.b, n.wm.off, none⟩) n.msgs.length n.wm.cap 15 (rowsV encM n.msgs), reads := .view (if n.wr.nl then none else some ⟨n.wr.b, n.wr.off, none⟩) n.reads.length n.wr.cap 2 (rowsV encQ n.reads) }
theorem nd_readied (n : NL) : n.readied.nd = n.nd.ready.2 := rfl
theorem Sees.dropL {X a : List Chunk} : Sees (X ++ a) a := Sees.trans (Sees.perm List.perm_append_comm) Sees.left
theorem from_pl (n : NL) (i c : Int) {es : List Ent} (h : Same ((n.rs.es.drop (min (max (i - n.rs.mIx - 1) 0) n.rs.es.length).toNat).take c.toNat) es) : es.map Ent.pl = n.nd.fromE i c := by
  rw [h.pl]
  simp only [Rf.Nd.fromE, NL.nd, List.map_take, List.map_drop, List.length_map]
  rfl
set_option maxHeartbeats 2000000 in
theorem c16p (b : Nat) (n : NL) {k j : Nat} (h : n.nd.inv k j) (hk1 : k ≤ 2 ^ 30) (hj : j ≤ 2 ^ 28) :
    Spec Try.prog E 16 [.ptr 0 b 0] (nO b n) (fun v hp => ∃ (r : RdL) (N : NL), v = .agg (encRd r) ∧ r.pl = n.nd.ready.1 ∧ N.nd = n.nd.ready.2 ∧ hp = nO b N) := by
  have hg := fit_good h.toFit hk1
  have hs := fit_small h.toFit hk1 hj
  have hf0 : 0 ≤ n.s.fresh := h.f0
  have hf1 : n.s.fresh ≤ k := h.f1
  have hla := nd_last n
  have hlk : n.rs.last ≤ k := by rw [← hla]; exact h.i1
  have ha0 : n.s.mIx ≤ n.s.applied := h.a0
  have ha1 : n.s.applied ≤ n.s.hC := h.a1
  have hc1 : n.s.hC ≤ n.rs.last := by rw [← hla]; exact h.c1
  have hm0 : 0 ≤ n.s.mIx := h.i0
  have hml := h.ml
  have hdl := h.dl
  have e1 : n.nd.me.vs = n.o.mv := rfl
  have e2 : n.nd.d = n.dt.xs := rfl
  rw [e1] at hml
  rw [e2] at hdl
  have key := c16r (E := E) b n.frozen
    ⟨hg.sm.m0, hg.sm.m1, hg.sm.len⟩ (fun e he => (hg.ok e he).1) ⟨hf0, by show n.s.fresh ≤ _; omega⟩ ⟨by show 0 ≤ n.s.applied; omega, ha1, by show n.s.hC ≤ _; omega⟩ (va := n.o.ma) (vc := n.o.mc) (mv := n.o.mv) rfl (da := n.dt.a) (dc := n.dt.cap) (dx := n.dt.xs) rfl (by omega) (by omega) rfl rfl
  refine Spec.frzIn (A := [n.wv.ch 3 1 encI n.votes, n.ww.ch 100 3 encW n.waits, n.wr.ch 48 2 encQ n.reads]) (B := [pmC n.pm n.peers, sepC (n.peers.map peC)]) (T := 54) (sz := 15) (g := rowsV encM n.msgs) 26 4 rfl ?_
  refine Spec.frzIn (A := [n.wv.ch 3 1 encI n.votes, n.ww.ch 100 3 encW n.waits]) (B := [.emp, pmC n.pm n.peers, sepC (n.peers.map peC)]) (T := 48) (sz := 2) (g := rowsV encQ n.reads) 25 3 rfl ?_
  refine (key.beside [n.wv.ch 3 1 encI n.votes, n.ww.ch 100 3 encW n.waits, .emp, .emp, pmC n.pm n.peers, sepC (n.peers.map peC)]).sees ?_
  rintro v hp ⟨hp', ⟨ea, ec, es, ca, cc, cs, x, y, X, s1, s2, s3, rfl, rfl⟩, rfl⟩
  have hes : es.map Ent.pl = if n.nd.fresh = 0 then [] else n.nd.fromE n.nd.fresh n.nd.log.length := by
    have e : n.nd.fresh = n.s.fresh := rfl
    rw [e]
    split
    · rename_i h0
      have s1 : Same (if n.s.fresh = 0 then [] else _) es := s1
      rw [if_pos h0] at s1
      rw [s1.pl]; rfl
    · rename_i h0
      have s1 : Same (if n.s.fresh = 0 then [] else n.rs.es.drop (min (max (n.s.fresh - n.rs.mIx - 1) 0) n.rs.es.length).toNat) es := s1
      rw [if_neg h0] at s1
      refine from_pl n n.s.fresh n.nd.log.length ?_
      have e3 : n.nd.log.length = n.rs.es.length := by show (n.s.es.map Ent.pl).length = _; rw [List.length_map]; rfl
      rw [e3, Int.toNat_natCast, List.take_of_length_le (by rw [List.length_drop]; omega)]
      exact s1
  have hcs : cs.map Ent.pl = n.nd.fromE (n.nd.applied + 1) (n.nd.hd.cm - n.nd.applied) := from_pl n (n.s.applied + 1) (n.s.hC - n.s.applied) s2
  have hhd : n.nd.ready.1.hard = if n.rs.hasHard then some ⟨n.s.hT, n.s.hV, n.s.hC⟩ else none := by
    show (if n.nd.hd ≠ n.nd.told then some n.nd.hd else none) = _
    have e : (n.nd.hd ≠ n.nd.told) ↔ n.rs.hasHard = true := by
      show ((⟨n.s.hT, n.s.hV, n.s.hC⟩ : Rf.Ha) ≠ ⟨n.s.tT, n.s.tV, n.s.tC⟩) ↔ (!(n.s.hT == n.s.tT && (n.s.hV == n.s.tV && n.s.hC == n.s.tC))) = true
      simp
      omega
    by_cases hb : n.rs.hasHard = true
    · rw [if_pos (e.2 hb), if_pos hb]; rfl
    · rw [if_neg (fun q => hb (e.1 q)), if_neg hb]
  obtain ⟨x', y', hx, hy, hxd, hyd, hxo, hyo⟩ : ∃ (x' : Sl Int) (y' : By), (n.s.snap = true → x'.xs = n.o.mv) ∧ (n.s.snap = true → y'.xs = n.dt.xs) ∧ (vI x'.a x'.cap x'.xs).den = x.den ∧ (vB y'.a y'.cap y'.xs).den = y.den ∧ (∀ ro, x.ok ro → (vI x'.a x'.cap x'.xs).ok ro) ∧ (∀ ro, y.ok ro → (vB y'.a y'.cap y'.xs).ok ro) := by
    rcases hsn : n.s.snap with _ | _
    · obtain ⟨rfl, rfl⟩ := s3.2 hsn
      exact ⟨⟨none, 0, []⟩, ⟨none, 0, []⟩, fun h => absurd h (by decide), fun h => absurd h (by decide), rfl, rfl, fun ro _ => nilOk ro 1 _, fun ro _ => nilOk ro 1 _⟩
    · obtain ⟨a, k, a2, k2, rfl, rfl⟩ := s3.1 hsn
      exact ⟨⟨a, k, n.o.mv⟩, ⟨a2, k2, n.dt.xs⟩, fun _ => rfl, fun _ => rfl, rfl, rfl, fun _ h => h, fun _ h => h⟩
  refine ⟨.agg (encRd ⟨n.rs.hasHard, bif n.rs.hasHard then n.s.hT else 0, bif n.rs.hasHard then n.s.hV else 0, bif n.rs.hasHard then n.s.hC else 0, n.s.snap, bif n.s.snap then n.s.mIx else 0, bif n.s.snap then n.s.mTm else 0, x', y', ⟨ea, ec, es⟩, ⟨if n.wm.nl then none else some ⟨n.wm.b, n.wm.off, none⟩, n.wm.cap, n.msgs⟩, ⟨ca, cc, cs⟩, ⟨if n.wr.nl then none else some ⟨n.wr.b, n.wr.off, none⟩, n.wr.cap, n.reads⟩⟩), nO b n.readied, ?_, fun ro hh => ?_, ?_, _, n.readied, rfl, ?_, nd_readied n, rfl⟩
  · simp only [SV.den, SV.dens, encRd] at hxd hyd ⊢
    rw [hxd, hyd]
    rfl
  · have hh : SV.oks ro _ := hh
    show SV.oks ro _
    simp only [SV.oks, encRd] at hh ⊢
    obtain ⟨h1, h2, h3, h4, h5, h6, h7, h8, h9, h10, h11, h12, h13, h14⟩ := hh
    exact ⟨h1, h2, h3, h4, h5, h6, h7, hxo ro h8, hyo ro h9, h10, h11, h12, h13, h14⟩
  · refine Sees.cons (fun ro H hh => ⟨H, [], by simp, cells_imp (cs := n.frozen.readied.cs) rfl (fun hk => ?_) hh⟩) (Sees.trans Sees.dropL ?_)
    · simp only [RS.cs, NL.rs, NL.readied, NL.frozen, RS.readied, nilR, Rw.sv, nilS, SV.oks, SV.ok, true_and, and_true] at hk ⊢
      exact ⟨hk.1, hk.2.1, hk.2.2.1, hk.2.2.2.1⟩
    · exact Sees.same (Sees.same (Sees.drop (x := .emp) (nil_ch 48 2 encQ) (Sees.drop (x := .emp) (nil_ch 54 15 encM) (Sees.refl _))))
  · show RdL.pl _ = n.nd.ready.1
    have e3 : n.nd.ready.1 = ⟨n.nd.ready.1.hard, if n.nd.snap then some (n.nd.me, n.nd.d) else none, if n.nd.fresh = 0 then [] else n.nd.fromE n.nd.fresh n.nd.log.length, n.nd.msgs, n.nd.fromE (n.nd.applied + 1) (n.nd.hd.cm - n.nd.applied), n.nd.reads⟩ := rfl
    rw [e3, hhd, ← hes, ← hcs]
    unfold RdL.pl
    rw [Rf.Nd.Rd.mk.injEq]
    refine ⟨?_, ?_, rfl, rfl, rfl, rfl⟩
    · rcases n.rs.hasHard with _ | _ <;> rfl
    · have e4 : n.nd.snap = n.s.snap := rfl
      rw [e4]
      rcases hsn : n.s.snap with _ | _
      · rfl
      · dsimp only
        rw [hx hsn, hy hsn]
        rfl
end Go.SX

/- Raft: a group of nodes in memory. -/
namespace Go.SX
open Go.Proofs
set_option maxRecDepth 1000000
variable {E : Env}

/-- what a node has saved -/
structure SvL where
  hT : Int
  hV : Int
  hC : Int
  mi : Int
  mm : Int
  mv : Sl Int
  d : By
  l : Sl Ent
instance : Inhabited SvL := ⟨⟨0, 0, 0, 0, 0, default, default, default⟩⟩
@[go_sem] def encS (s : SvL) : List SV := [I s.hT, I s.hV, I s.hC, I s.mi, I s.mm, vI s.mv.a s.mv.cap s.mv.xs, vB s.d.a s.d.cap s.d.xs, vE s.l.a s.l.cap s.l.xs]
def SvL.pl (s : SvL) : Rf.Sv := ⟨⟨s.hT, s.hV, s.hC⟩, ⟨s.mi, s.mm, s.mv.xs⟩, s.d.xs, s.l.xs.map Ent.pl⟩
/-- what a node has done: an own row -/
structure DnL where
  w : Rw
  xs : List Ent
instance : Inhabited DnL := ⟨⟨nilR, []⟩⟩
def DnL.ch (d : DnL) : Chunk := d.w.ch 43 4 encE d.xs
@[go_sem] def encD (d : DnL) : List SV := [d.w.sv 0 d.xs.length]
/-- a node, or none yet -/
abbrev RN := Option (Nat × NL)
@[go_sem] def encR (r : RN) : List SV := [match r with | none => .val (.pointer none) | some p => .ptr 0 p.1 0]
def RN.ch (r : RN) : Chunk := match r with | none => .emp | some p => sepC (nO p.1 p.2)
def RN.pl (r : RN) : Rf.Nd := match r with | none => default | some p => p.2.nd
structure GL where
  rw : Rw
  R : List RN
  sw : Rw
  S : List SvL
  nw : Rw
  net : List MsL
  dw : Rw
  D : List DnL
  aw : Rw
  al : List Ent
  lw : Rw
  ld : List Int
  N : Int
  ok : Bool
@[go_sem] def GL.cs (g : GL) : List SV := [g.rw.sv 1 g.R.length, g.sw.sv 2 g.S.length, g.nw.sv 3 g.net.length, g.dw.sv 4 g.D.length, g.aw.sv 5 g.al.length, g.lw.sv 6 g.ld.length, I g.N, Bl g.ok]
@[go_sem] def gO (b : Nat) (g : GL) : List Chunk := [.cells b 63 g.cs, g.rw.ch 24 1 encR g.R, g.sw.ch 108 8 encS g.S, g.nw.ch 54 15 encM g.net, g.dw.ch 36 1 encD g.D, g.aw.ch 43 4 encE g.al, g.lw.ch 3 1 encI g.ld, sepC (g.R.map RN.ch), sepC (g.D.map DnL.ch)]
def GL.pl (g : GL) : Rf.Gr := ⟨g.R.map RN.pl, g.S.map SvL.pl, g.net.map MsL.pl, g.D.map fun d => d.xs.map Ent.pl, g.al.map Ent.pl, g.ld, g.N.toNat⟩
@[simp, go_sem] theorem rowsS0 (xs : List SvL) (i : Nat) : rowsV encS xs i 0 = I (xs.getD i default).hT := rfl
@[simp, go_sem] theorem rowsS1 (xs : List SvL) (i : Nat) : rowsV encS xs i 1 = I (xs.getD i default).hV := rfl
@[simp, go_sem] theorem rowsS2 (xs : List SvL) (i : Nat) : rowsV encS xs i 2 = I (xs.getD i default).hC := rfl
@[simp, go_sem] theorem rowsS3 (xs : List SvL) (i : Nat) : rowsV encS xs i 3 = I (xs.getD i default).mi := rfl
@[simp, go_sem] theorem rowsS4 (xs : List SvL) (i : Nat) : rowsV encS xs i 4 = I (xs.getD i default).mm := rfl
@[simp, go_sem] theorem rowsS5 (xs : List SvL) (i : Nat) : rowsV encS xs i 5 = vI (xs.getD i default).mv.a (xs.getD i default).mv.cap (xs.getD i default).mv.xs := rfl
@[simp, go_sem] theorem rowsS6 (xs : List SvL) (i : Nat) : rowsV encS xs i 6 = (xs.getD i default).d.sv := rfl
@[simp, go_sem] theorem rowsS7 (xs : List SvL) (i : Nat) : rowsV encS xs i 7 = vE (xs.getD i default).l.a (xs.getD i default).l.cap (xs.getD i default).l.xs := rfl
@[simp, go_sem] theorem rowsM0 (xs : List MsL) (i : Nat) : rowsV encM xs i 0 = I (xs.getD i default).kd := rfl
@[simp, go_sem] theorem rowsM1 (xs : List MsL) (i : Nat) : rowsV encM xs i 1 = I (xs.getD i default).fr := rfl
@[simp, go_sem] theorem rowsM2 (xs : List MsL) (i : Nat) : rowsV encM xs i 2 = I (xs.getD i default).to := rfl
@[simp, go_sem] theorem rowsM3 (xs : List MsL) (i : Nat) : rowsV encM xs i 3 = I (xs.getD i default).tm := rfl
@[simp, go_sem] theorem rowsM4 (xs : List MsL) (i : Nat) : rowsV encM xs i 4 = I (xs.getD i default).ix := rfl
@[simp, go_sem] theorem rowsM5 (xs : List MsL) (i : Nat) : rowsV encM xs i 5 = I (xs.getD i default).lt := rfl
@[simp, go_sem] theorem rowsM6 (xs : List MsL) (i : Nat) : rowsV encM xs i 6 = vE (xs.getD i default).es.a (xs.getD i default).es.cap (xs.getD i default).es.xs := rfl
@[simp, go_sem] theorem rowsM7 (xs : List MsL) (i : Nat) : rowsV encM xs i 7 = I (xs.getD i default).cm := rfl
@[simp, go_sem] theorem rowsM8 (xs : List MsL) (i : Nat) : rowsV encM xs i 8 = I (xs.getD i default).sq := rfl
@[simp, go_sem] theorem rowsM9 (xs : List MsL) (i : Nat) : rowsV encM xs i 9 = Bl (xs.getD i default).ok := rfl
@[simp, go_sem] theorem rowsM10 (xs : List MsL) (i : Nat) : rowsV encM xs i 10 = I (xs.getD i default).mt := rfl
@[simp, go_sem] theorem rowsM11 (xs : List MsL) (i : Nat) : rowsV encM xs i 11 = I (xs.getD i default).mi := rfl
@[simp, go_sem] theorem rowsM12 (xs : List MsL) (i : Nat) : rowsV encM xs i 12 = I (xs.getD i default).mm := rfl
@[simp, go_sem] theorem rowsM13 (xs : List MsL) (i : Nat) : rowsV encM xs i 13 = vI (xs.getD i default).mv.a (xs.getD i default).mv.cap (xs.getD i default).mv.xs := rfl
@[simp, go_sem] theorem rowsM14 (xs : List MsL) (i : Nat) : rowsV encM xs i 14 = (xs.getD i default).d.sv := rfl
@[simp, go_sem] theorem rowsD0 (xs : List DnL) (i : Nat) : rowsV encD xs i 0 = (xs.getD i default).w.sv 0 (xs.getD i default).xs.length := rfl
/-- with another node -/
def GL.setR (g : GL) (i b : Nat) (n : NL) : GL := { g with R := g.R.set i (some (b, n)) }
theorem getC_map' {α : Type} (f : α → Chunk) : ∀ {L : List α} {i : Nat} {p : α}, L[i]? = some p → getC (L.map f) i = f p
  | [], _, _, h => by simp at h
  | q :: r, 0, p, h => by simp at h; subst h; rfl
  | q :: r, i + 1, p, h => getC_map' f (L := r) (i := i) (p := p) (by simpa using h)
theorem setC_map' {α : Type} (f : α → Chunk) (p : α) : ∀ {L : List α} {i : Nat}, i < L.length → setC (setC (L.map f) i .emp) i (f p) = (L.set i p).map f
  | [], _, h => by simp at h
  | q :: r, 0, _ => rfl
  | q :: r, i + 1, h => by
    show f q :: setC (setC (r.map f) i .emp) i (f p) = f q :: (r.set i p).map f
    rw [setC_map' f p (L := r) (i := i) (by simpa using h)]
/-- one out of a bag -/
theorem Sees.out' {α : Type} (f : α → Chunk) {hp : List Chunk} {c i : Nat} {L : List α} {p : α} (hc : getC hp c = sepC (L.map f)) (hi : L[i]? = some p) : Sees hp (setC hp c (sepC (setC (L.map f) i .emp)) ++ [f p]) := by
  have hlt := (List.getElem?_eq_some_iff.1 hi).1
  refine Sees.trans (Sees.take c i hc (by simpa using hlt)) ?_
  rw [getC_map' f hi]
  exact Sees.refl _
/-- and another laid back -/
theorem Sees.in' {α : Type} (f : α → Chunk) (q : α) {hp : List Chunk} {c i : Nat} {L : List α} (hc : getC hp c = sepC (setC (L.map f) i .emp)) (hi : i < L.length) : Sees (hp ++ [f q]) (setC hp c (sepC ((L.set i q).map f))) := by
  refine Sees.trans (Sees.give (d := f q) c i hc (by rw [setC_len]; simpa using hi) (getC_setC (by simpa using hi))) ?_
  rw [setC_map' f q hi]
  exact Sees.refl _
/-- the group's memory without a node -/
def gH (b : Nat) (g : GL) (i : Nat) : List Chunk := [.cells b 63 g.cs, g.rw.ch 24 1 encR g.R, g.sw.ch 108 8 encS g.S, g.nw.ch 54 15 encM g.net, g.dw.ch 36 1 encD g.D, g.aw.ch 43 4 encE g.al, g.lw.ch 3 1 encI g.ld, sepC (setC (g.R.map RN.ch) i .emp), sepC (g.D.map DnL.ch)]
theorem Sees.nodeOut (b : Nat) (g : GL) {i nb : Nat} {n : NL} (h : g.R[i]? = some (some (nb, n))) : Sees (gO b g) (nO nb n ++ gH b g i) := by
  refine Sees.trans (Sees.out' RN.ch (c := 7) (i := i) (L := g.R) rfl h) ?_
  refine Sees.trans (Sees.perm List.perm_append_comm) ?_
  exact Sees.app (Sees.unbag _) (Sees.refl _)
theorem rows_set {α : Type} [Inhabited α] {enc : α → List SV} {xs : List α} {i : Nat} {x y : α} (hx : xs[i]? = some x) (he : enc y = enc x) : rowsV enc (xs.set i y) = rowsV enc xs := by
  funext a j
  unfold rowsV
  by_cases h : a = i
  · subst h
    have hlt := (List.getElem?_eq_some_iff.1 hx).1
    have e1 : (xs.set a y).getD a default = y := by rw [List.getD_eq_getElem?_getD, List.getElem?_set_self hlt]; rfl
    have e2 : xs.getD a default = x := by rw [List.getD_eq_getElem?_getD, hx]; rfl
    rw [e1, e2, he]
  · have e1 : (xs.set i y).getD a default = xs.getD a default := by
      rw [List.getD_eq_getElem?_getD, List.getD_eq_getElem?_getD, List.getElem?_set_ne (Ne.symm h)]
    rw [e1]
theorem Sees.nodeIn (b : Nat) (g : GL) {i nb : Nat} {n N : NL} (h : g.R[i]? = some (some (nb, n))) : Sees (nO nb N ++ gH b g i) (gO b (g.setR i nb N)) := by
  have hlt := (List.getElem?_eq_some_iff.1 h).1
  refine Sees.trans (Sees.app (Sees.bag _) (Sees.refl _)) ?_
  refine Sees.trans (Sees.perm List.perm_append_comm) ?_
  refine Sees.trans (Sees.in' RN.ch (some (nb, N)) (hp := gH b g i) (c := 7) (i := i) (L := g.R) rfl hlt) ?_
  have e1 : rowsV encR (g.R.set i (some (nb, N))) = rowsV encR g.R := rows_set h rfl
  have e2 : (g.R.set i (some (nb, N))).length = g.R.length := List.length_set ..
  simp only [gO, gH, GL.setR, GL.cs, Rw.ch, e1, e2, setC]
  exact Sees.refl _
/-- a contract of a node's, over the group -/
theorem Spec.node {f : FuncId} {args : List SV} {nb : Nat} {n : NL} {Q : SV → NL → Prop} (h : Spec Try.prog E f args (nO nb n) (fun v hp => ∃ N, Q v N ∧ hp = nO nb N)) (b : Nat) (g : GL) {i : Nat} (hi : g.R[i]? = some (some (nb, n))) :
    Spec Try.prog E f args (gO b g) (fun v hp => ∃ N, Q v N ∧ hp = gO b (g.setR i nb N)) := by
  refine Spec.from (heap' := nO nb n ++ gH b g i) ?_ (Sees.nodeOut b g hi)
  refine (h.beside (gH b g i)).sees ?_
  rintro v hp ⟨hp', ⟨N, hQ, rfl⟩, rfl⟩
  exact ⟨v, gO b (g.setR i nb N), rfl, fun _ h => h, Sees.nodeIn b g hi, N, hQ, rfl⟩
theorem c14n (b : Nat) (n : NL) : Spec Try.prog E 14 [.ptr 0 b 0] (nO b n) (fun v hp => v = I n.nd.role ∧ hp = nO b n) := by
  refine spec_of (keep := k14) (args' := [.ptr 0 b 0]) Try.func14 rfl Try.ntmps14 s14_ok (by simp) ⟨rfl, fun _ h => h⟩ (fun _ _ h => h) (go_ok _ 100 _ _ ?_)
  simp only [go_sem, s14, k14, Nat.reduceBEq, Nat.zero_add, Try.results14]
  rfl
theorem ag30 : aggOf Try.prog 30 = some (some 3) := by kernel_rfl
theorem c19n (b : Nat) (n : NL) : Spec Try.prog E 19 [.ptr 0 b 0] (nO b n) (fun v hp => v = .agg [I n.nd.hd.tm, I n.nd.hd.vote, I n.nd.hd.cm] ∧ hp = nO b n) := by
  refine Spec.leave (Post := fun v hp => v = .agg [I n.s.hT, I n.s.hV, I n.s.hC] ∧ ∃ X, hp = nO b n ++ X) ?_ (fun v hp ⟨h1, X, h2⟩ => ⟨nO b n, X, h2, h1, rfl⟩)
  refine spec_of (keep := k19) (args' := [.ptr 0 b 0]) Try.func19 rfl Try.ntmps19 s19_ok (by simp) ⟨rfl, fun _ h => h⟩ (fun _ _ h => h) (go_ok _ 100 _ _ ?_)
  simp only [go_sem, s19, k19, Nat.reduceBEq, Nat.reduceAdd, Nat.zero_add, Try.results19]
  intro b1
  refine safe_retC (l := [.agg [I n.s.hT, I n.s.hV, I n.s.hC]]) (vc := True) ?_ trivial ⟨rfl, [_], rfl⟩ rfl rfl
  simp only [retC, Try.results19, go_sem, Nat.reduceBEq, ag30]
  rfl
end Go.SX

/- Raft: a group: all its voters; rows seen otherwise. -/
namespace Go.SX
open Go.Proofs
set_option maxRecDepth 1000000
variable {E : Env}

/-- a row's element is written -/
theorem updF_row {α : Type} [Inhabited α] {enc : α → List SV} {xs : List α} {i sz : Nat} {y : α} (hi : i < xs.length) (hs : (enc y).length = sz) {cs : List SV} (hcs : cs = enc y) : ∀ k j, k < xs.length → j < sz → updF (rowsV enc xs) i 0 cs k j = rowsV enc (xs.set i y) k j := by
  subst hcs
  intro k j hk hj
  by_cases h : k = i
  · subst h
    have e1 : (xs.set k y).getD k default = y := by rw [List.getD_eq_getElem?_getD, List.getElem?_set_self hi]; rfl
    have e2 : (Nat.ble 0 j && Nat.blt j (0 + (enc y).length)) = true := by
      rw [Bool.and_eq_true, Nat.ble_eq, Nat.blt_eq]
      omega
    simp only [updF, rowsV, e1, beq_self_eq_true, e2, Bool.and_self, cond_true, Nat.sub_zero]
  · have e1 : (xs.set i y).getD k default = xs.getD k default := by
      rw [List.getD_eq_getElem?_getD, List.getD_eq_getElem?_getD, List.getElem?_set_ne (Ne.symm h)]
    have e2 : (k == i) = false := by simpa using h
    simp only [updF, rowsV, e1, e2, Bool.false_and, cond_false]
/-- a row whose elements are the same but for hints -/
theorem row_see {ro : RO} {H : Hp} {nl : Bool} {b : Nat} {t : TypeId} {off sz n cap : Nat} {f f' : Nat → Nat → SV} (h : ∀ i j, i < n → j < sz → (f' i j).den = (f i j).den ∧ ∀ ro, (f i j).ok ro → (f' i j).ok ro) (hs : (Chunk.row nl b t off sz n cap f).sat ro H) : (Chunk.row nl b t off sz n cap f').sat ro H := by
  cases nl with
  | true => exact hs
  | false =>
    obtain ⟨arr, fz, rfl, h0, h1, h2, h3⟩ := hs
    refine ⟨arr, fz, rfl, h0, h1, h2, fun i j hi hj => ?_⟩
    obtain ⟨e1, e2⟩ := h i j hi hj
    obtain ⟨e3, e4⟩ := h3 i j hi hj
    exact ⟨by rw [e1]; exact e3, e2 ro e4⟩
/-- numbers from 0 on -/
def upTo (k : Nat) : List Int := (List.range k).map fun (i : Nat) => (i : Int)
theorem upTo_len (k : Nat) : (upTo k).length = k := by simp [upTo]
theorem upTo_succ (k : Nat) : upTo (k + 1) = upTo k ++ [(k : Int)] := by simp [upTo, List.range_succ]
structure W80 (N : Nat) where
  i : Nat
  hi : i ≤ N
  w : Rw
theorem c80 (c b : Nat) (g : GL) (N : Nat) (hN : g.N = N) (hl : N ≤ 1000) : Spec Try.prog E 80 [.ptr 0 b 0] [.cells b 63 g.cs] (fun v hp => ∃ nl b' off cap', v = .osl c nl b' off (upTo N).length cap' ∧ hp = [.cells b 63 g.cs, .row nl b' 3 off 1 (upTo N).length cap' (rowsV encI (upTo N))]) := by
  refine Spec.sees (Post := fun v hp => ∃ nl b' off cap' X, v = .osl 1 nl b' off (upTo N).length cap' ∧ hp = [.cells b 63 g.cs, .row nl b' 3 off 1 (upTo N).length cap' (rowsV encI (upTo N))] ++ X) ?_ ?_
  rotate_left
  · rintro v hp ⟨nl, b', off, cap', X, rfl, rfl⟩
    exact ⟨.osl c nl b' off (upTo N).length cap', _, rfl, fun ro _ => by simp only [SV.ok], Sees.left, nl, b', off, cap', rfl, rfl⟩
  refine spec_of (keep := k80) (args' := [.ptr 0 b 0]) Try.func80 rfl Try.ntmps80 s80_ok (by simp) ⟨rfl, fun _ h => h⟩ (fun _ _ h => h) (go_ok _ 100 _ _ ?_)
  simp only [go_sem, s80, k80, Nat.reduceBEq]
  refine safe_nilrow 0 3 0 1 (rowsV encI []) (env' := [(0, .ptr 0 b 0), (2, nilS), (3, .osl 1 true 0 0 0 0), (4, I 0)]) ⟨rfl, .inl rfl, rfl, .inl rfl, rfl, .inr ⟨⟨1, _, rfl⟩, rfl⟩, rfl, .inl rfl, trivial⟩ ?_
  refine safe_loop (ι := W80 N) (fun g' => ⟨[(0, .ptr 0 b 0), (3, g'.w.sv 1 g'.i), (4, I g'.i)], [.cells b 63 g.cs, .row g'.w.nl g'.w.b 3 g'.w.off 1 g'.i g'.w.cap (rowsV encI (upTo g'.i))]⟩) (fun g' => N - g'.i)
    ⟨0, Nat.zero_le _, ⟨true, 0, 0, 0⟩⟩ (Sub.front (X := []) ⟨rfl, rfl, rfl, trivial⟩ rfl) ?_
  rintro ⟨i, hi, w⟩
  refine go_ok _ 100 _ _ ?_
  simp only [go_sem, hN, List.cons_append, List.nil_append, Nat.reduceBEq, Nat.reduceAdd, Nat.zero_add, Try.results80]
  refine ⟨fun hc => ?_, fun hc => ?_⟩
  · have hlt : i < N := by simpa using hc
    intro b1
    refine (stp_app2 (c := 1) (b := w.b) (off := w.off) (nl := w.nl) (n := i) (cap := w.cap) (x := .osl 2 false b1 0 1 1) (gx := litF 1 [I i]) (m := 1) (f := rowsV encI (upTo i)) (f2 := rowsV encI (upTo (i + 1))) (N := i + 1) rfl rfl rfl rfl ⟨rfl, rfl, rfl, rfl, by decide⟩ (fun i j hi hj => ?_) (by omega) rfl (fun a j ha hj => ?_) fun nl2 b3 off2 cap2 => ?_).safe trivial
    · obtain rfl : i = 0 := by omega
      obtain rfl : j = 0 := by omega
      simp [litF, one, Value.oneCell']
    · rw [upTo_succ]
      have := app_one (enc := encI) (ys := upTo i) (y := (i : Int)) a j (by rw [upTo_len]; exact ha) hj
      rw [upTo_len] at this
      exact this
    refine ⟨trivial, go_ok _ 100 _ _ ?_⟩
    simp only [go_sem, Nat.reduceBEq]
    refine ⟨by simp only [inI64]; omega, ?_⟩
    exact safe_lend (⟨i + 1, hlt, ⟨nl2, b3, off2, cap2⟩⟩ : W80 N) (by simp only; omega) (Sub.front (X := [_]) ⟨rfl, rfl, rfl, trivial⟩ rfl)
  · have hii : i = N := by have : ¬ (i : Int) < N := of_decide_eq_false hc; omega
    subst hii
    refine ⟨w.nl, w.b, w.off, w.cap, [], ?_, ?_⟩
    · rw [upTo_len]
    · rw [upTo_len]
end Go.SX
