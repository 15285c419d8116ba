/- Contracts of the raft package: New. -/
import Derived.Test.YtpbbpmhahkeekaaSxR17
namespace Go.SX
open Go.Proofs
set_option maxRecDepth 1000000
variable {E : Env}

/-- of the memory that is handed back some chunks are kept -/
theorem Spec.sel {P : Program} {E : Env} {f : FuncId} {args : List SV} {heap : List Chunk} {Post Post' : SV → List Chunk → Prop} (h : Spec P E f args heap Post)
    (hp : ∀ v hp, Post v hp → ∃ v' is, Eqv v v' ∧ (∀ i ∈ is, i < hp.length) ∧ Post' v' (pick hp is)) : Spec P E f args heap Post' := by
  intro ro F H w h1 h2 h3
  refine Calls.mono (h ro F H w h1 h2 h3) fun e w' hf => ?_
  obtain ⟨v, heap', ro', H', rfl, e2, e3, e4, e5, e6⟩ := hf
  obtain ⟨v', is, q1, q2, q3⟩ := hp v heap' e2
  obtain ⟨H1, H2, hperm, h1, _⟩ := hsat_pick is heap' H' e5 q2
  refine ⟨v', _, ro', H1, by rw [q1.1], q3, e3, q1.2 _ e4, h1, Sat.drop (H := H2) (e6.perm ?_)⟩
  rw [← List.append_assoc]
  exact (hperm.trans List.perm_append_comm).append_right F

theorem c34' (id : Int) (a : Option Addr) (cap : Nat) (vs : List Int) (t v c : Int) (mV : SV) (la : Option Addr) (lc : Nat) (es : List Ent) (hid : isIdB id = true) (hvs : areV vs = true) (ht : 0 ≤ t ∧ t ≤ 2 ^ 62) (hv : -1 ≤ v) (hc : 0 ≤ c)
    (hmV : ∃ ma mn mc mz mf, mV = .view ma mn mc mz mf) (hrow : Spec Try.prog E 68 [vE la lc es, I 0, I 0, I 4611686018427387904] [] (fun v hp => v = Bl true ∧ hp = [])) :
    Spec Try.prog E 34 [I id, vI a cap vs, .agg [I t, I v, I c], .agg [I 0, I 0, mV], vE la lc es] [] (fun v hp => v = Bl true ∧ hp = []) :=
  (c34 id a cap vs t v c mV la lc es hid hvs ht hv hc hmV hrow).leave fun _ hp h => ⟨[], hp, rfl, h, rfl⟩

/-- a node that begins without a snapshot -/
def RS.new (id t v c c' : Int) (a1 a2 a3 la : Option Addr) (c1 c2 c3 lc : Nat) (vs : List Int) (es : List Ent) : RS :=
  { mIx := 0, mTm := 0, mV := vI a1 c1 [], dat := vB a2 c2 [], la := la, lc := lc, es := es, fi := vI a3 c3 vs, fresh := 0, ticks := 0, taken := 0, draw := 0, beats := 0, id := id, hT := t, hV := v, hC := c', tT := t, tV := v, tC := c, applied := 0,
    role := 0, leader := -1, votes := nilS, peers := .val (.map none), round := 0, waits := nilS, reads := nilS, msgs := nilS, snap := false }

theorem Same.core {es es' : List Ent} (h : Same es es') (i : Nat) : (es'.getD i default).core = (es.getD i default).core := by
  have := congrArg (fun l => l[i]?.getD (default : Ent).core) h
  simp only [List.getElem?_map, Option.getD_map] at this
  simpa only [List.getD_eq_getElem?_getD] using this
theorem Same.tm {es es' : List Ent} (h : Same es es') (i : Nat) : (es'.getD i default).tm = (es.getD i default).tm := congrArg (fun c => c.2.1) (h.core i)

theorem c13 (k : Nat) (id : Int) (a : Option Addr) (cap : Nat) (vs : List Int) (t v c : Int) (la : Option Addr) (lc : Nat) (es : List Ent) (hid : isIdB id = true) (hvs : areV vs = true) (ht : 0 ≤ t ∧ t ≤ 2 ^ 61) (hv : -1 ≤ v) (hc : 0 ≤ c)
    (hrow : Spec Try.prog E 68 [vE la lc es, I 0, I 0, I 4611686018427387904] [] (fun v hp => v = Bl true ∧ hp = [])) (hes : es.length ≤ 2 ^ 40) (hd : ∀ e ∈ es, e.d.xs.length ≤ 2 ^ 40) (htm : es = [] ∨ (es.getD (es.length - 1) default).tm ≤ t) :
    Spec Try.prog E 13 [I id, vI a cap vs, .agg [I t, I v, I c], .agg [I 0, I 0, vI none 0 []], vB none 0 [], vE la lc es] []
      (fun r hp => ∃ b a1 a2 a3 la' c1 c2 c3 lc' es', Same es es' ∧ r = .tup [.ptr k b 0, I 0] ∧ hp = [rC b (RS.new id t v c (min c es.length) a1 a2 a3 la' c1 c2 c3 lc' vs es')]) := by
  have hl : vs.length ≤ 7 := by
    simp only [areV, Bool.and_eq_true, decide_eq_true_eq] at hvs
    exact hvs.2.2
  refine Spec.sel (Post := fun r hp => ∃ b a1 a2 a3 la' c1 c2 c3 lc' es' b1 b2 x1 x2, Same es es' ∧ r = .tup [.ptr 2 b 0, I 0] ∧ hp = [.cells b1 30 x1, .cells b2 32 x2, rC b (RS.new id t v c (min c es.length) a1 a2 a3 la' c1 c2 c3 lc' vs es')]) ?_ ?_
  · refine spec_of (keep := k13) (args' := [I id, vI a cap vs, .agg [I t, I v, I c], .agg [I 0, I 0, vI none 0 []], vB none 0 [], vE la lc es]) Try.func13 rfl Try.ntmps13 s13_ok (by simp) ⟨rfl, fun _ h => h⟩ (fun _ _ h => h) (go_ok _ 100 _ _ ?_)
    simp only [go_sem, s13, k13, Nat.reduceBEq, Nat.reduceAdd, Nat.zero_add]
    intro b1 b2
    refine (stp_call [] rfl rfl rfl ⟨_, Try.func34, rfl, rfl⟩ (c34' id a cap vs t v c (vI none 0 []) la lc es hid hvs ⟨ht.1, by omega⟩ hv hc ⟨_, _, _, _, _, rfl⟩ hrow) rfl (fun _ h => h) rfl (fun _ _ h => h) ?_).safe trivial
    rintro v' hp ⟨rfl, rfl⟩
    refine ⟨trivial, go_ok _ 100 _ _ ?_⟩
    simp only [go_sem, Nat.reduceBEq, Nat.reduceAdd, Nat.zero_add, reduceCtorEq]
    refine (stp_call [] rfl rfl rfl ⟨_, Try.func35, rfl, rfl⟩ (c35 0 0 none 0 [] (by simp)) rfl (fun _ h => h) rfl (fun _ _ h => h) ?_).safe trivial
    rintro v' hp ⟨rfl, a1, c1, rfl⟩
    refine ⟨by simp only [go_sem, Nat.reduceBEq, Nat.reduceAdd, Nat.zero_add], ?_⟩
    refine (stp_call [] rfl rfl rfl ⟨_, Try.func36, rfl, rfl⟩ (c36 none 0 [] (by simp)) rfl (fun _ h => h) rfl (fun _ _ h => h) ?_).safe trivial
    rintro v' hp ⟨rfl, a2, c2, rfl⟩
    refine ⟨by simp only [go_sem, Nat.reduceBEq, Nat.reduceAdd, Nat.zero_add], ?_⟩
    refine (stp_call [] rfl rfl rfl ⟨_, Try.func37, rfl, rfl⟩ (c37 la lc es hes hd) rfl (fun _ h => h) rfl (fun _ _ h => h) ?_).safe trivial
    rintro v' hp ⟨rfl, la', lc', es', rfl, hsame⟩
    refine ⟨by simp only [go_sem, Nat.reduceBEq, Nat.reduceAdd, Nat.zero_add], ?_⟩
    refine (stp_call [] rfl rfl rfl ⟨_, Try.func38, rfl, rfl⟩ (c38 a cap vs (by omega)) rfl (fun _ h => h) rfl (fun _ _ h => h) ?_).safe trivial
    rintro v' hp ⟨rfl, a3, c3, rfl⟩
    refine ⟨by simp only [go_sem, Nat.reduceBEq, Nat.reduceAdd, Nat.zero_add], go_ok _ 100 _ _ ?_⟩
    simp only [go_sem, Nat.reduceBEq, Nat.reduceAdd, Nat.zero_add]
    intro b
    have hlen := hsame.len
    have hsm : (RS.new id t v c c a1 a2 a3 la' c1 c2 c3 lc' vs es').small := ⟨Int.le_refl _, show (0 : Int) ≤ 2 ^ 61 by decide, show es'.length ≤ 2 ^ 40 by omega⟩
    have hla : (RS.new id t v c c a1 a2 a3 la' c1 c2 c3 lc' vs es').last = es.length := by simp [RS.last, RS.new, hlen]
    have hτ : (RS.new id t v c c a1 a2 a3 la' c1 c2 c3 lc' vs es').term (RS.new id t v c c a1 a2 a3 la' c1 c2 c3 lc' vs es').last ≤ t := by
      rw [hla]
      unfold RS.term
      split
      · rename_i hh
        rcases htm with h | h
        · subst h
          simp [RS.new] at hh
        · have e1 : ((es.length : Int) - (RS.new id t v c c a1 a2 a3 la' c1 c2 c3 lc' vs es').mIx - 1).toNat = es.length - 1 := by
            simp only [RS.new]
            omega
          rw [e1]
          exact Int.le_trans (Int.le_of_eq (hsame.tm _)) h
      · split
        · exact ht.1
        · exact ht.1
    refine (stp_call [2] rfl rfl rfl ⟨_, Try.func40, rfl, rfl⟩ (c40 b (RS.new id t v c c a1 a2 a3 la' c1 c2 c3 lc' vs es') hsm) rfl (fun _ h => h) rfl (fun _ _ h => h) ?_).safe trivial
    rintro v' hp ⟨rfl, rfl⟩
    refine ⟨by simp only [go_sem, Nat.reduceBEq, Nat.reduceAdd, Nat.zero_add], ?_⟩
    refine (stp_call [2] rfl rfl rfl ⟨_, Try.func39, rfl, rfl⟩ (c39 b (RS.new id t v c c a1 a2 a3 la' c1 c2 c3 lc' vs es') _ hsm (by omega) (by omega)) rfl (fun _ h => h) rfl (fun _ _ h => h) ?_).safe trivial
    rintro v' hp ⟨rfl, rfl⟩
    refine ⟨by simp only [go_sem, Nat.reduceBEq, Nat.reduceAdd, Nat.zero_add], ?_⟩
    refine safe_oth (oth_max3 (n1 := t) (n2 := 0) (n3 := (RS.new id t v c c a1 a2 a3 la' c1 c2 c3 lc' vs es').term (RS.new id t v c c a1 a2 a3 la' c1 c2 c3 lc' vs es').last) rfl rfl rfl rfl rfl rfl) trivial ?_
    rw [show max (max t 0) ((RS.new id t v c c a1 a2 a3 la' c1 c2 c3 lc' vs es').term (RS.new id t v c c a1 a2 a3 la' c1 c2 c3 lc' vs es').last) = t by omega]
    refine go_ok _ 100 _ _ ?_
    simp only [go_sem, Nat.reduceBEq, Nat.reduceAdd, Nat.zero_add]
    refine ⟨fun h => absurd h (by simp), fun _ => ?_⟩
    refine (stp_call [2] rfl rfl rfl ⟨_, Try.func40, rfl, rfl⟩ (c40 b (RS.new id t v c c a1 a2 a3 la' c1 c2 c3 lc' vs es') hsm) rfl (fun _ h => h) rfl (fun _ _ h => h) ?_).safe trivial
    rintro v' hp ⟨rfl, rfl⟩
    refine ⟨by simp only [go_sem, Nat.reduceBEq, Nat.reduceAdd, Nat.zero_add], go_ok _ 100 _ _ ?_⟩
    simp only [go_sem, Nat.reduceBEq, Nat.reduceAdd, Nat.zero_add, Try.results13]
    refine ⟨b, a1, a2, a3, la', c1, c2, c3, lc', es', b1, b2, [I t, I v, I c], [I 0, I 0, vI none 0 []], hsame, rfl, ?_⟩
    rw [hla, show max c 0 = c by omega]
    rfl
  · rintro v hp ⟨b, a1, a2, a3, la', c1, c2, c3, lc', es', b1, b2, x1, x2, hs, rfl, rfl⟩
    exact ⟨.tup [.ptr k b 0, I 0], [2], ⟨rfl, fun ro h => by simp only [SV.ok, SV.oks] at h ⊢; exact h⟩, by simp, b, a1, a2, a3, la', c1, c2, c3, lc', es', hs, rfl, rfl⟩
end Go.SX
