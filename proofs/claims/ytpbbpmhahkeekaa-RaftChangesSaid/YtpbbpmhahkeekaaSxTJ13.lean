/- Joined texts: T60 T62 PX PY. -/
import Derived.Test.YtpbbpmhahkeekaaSxTJ12
import Derived.Test.YtpbbpmhahkeekaaSxTJ9
/- Raft: voters are changed (Change): the refusals. -/
namespace Go.SX
open Go.Proofs
set_option maxRecDepth 1000000
variable {E : Env}

/-- one who knows of other peers -/
def NL.known (n : NL) (M : Nat) (L : List PeL) : NL := { n with pm := some M, peers := L }
/-- the bag of the old peers: those seen again are out -/
def oldB (L : List PeL) (vs : List Int) : List Chunk := L.map fun p => if p.id ∈ vs then .emp else peC p
theorem oldB_get : ∀ {L : List PeL} {vs : List Int} {i : Nat} {p : PeL}, L[i]? = some p → p.id ∉ vs → getC (oldB L vs) i = peC p
  | [], _, _, _, h, _ => by simp at h
  | q :: r, vs, 0, p, h, hn => by
    simp only [List.getElem?_cons_zero, Option.some.injEq] at h
    subst h
    exact if_neg hn
  | q :: r, vs, i + 1, p, h, hn => oldB_get (L := r) (by simpa using h) hn
theorem oldB_keep {L : List PeL} {vs : List Int} {v : Int} (h : v ∉ L.map PeL.id) : oldB L (vs ++ [v]) = oldB L vs := by
  refine List.map_congr_left fun p hp => ?_
  have : p.id ≠ v := fun e => h (e ▸ List.mem_map_of_mem hp)
  simp [this]
theorem oldB_set : ∀ {L : List PeL} {vs : List Int} {i : Nat} {p : PeL}, (L.map PeL.id).Nodup → L[i]? = some p → setC (oldB L vs) i .emp = oldB L (vs ++ [p.id])
  | [], _, _, _, _, h => by simp at h
  | q :: r, vs, 0, p, hn, h => by
    simp only [List.getElem?_cons_zero, Option.some.injEq] at h
    subst h
    have hn2 : q.id ∉ r.map PeL.id := (List.nodup_cons.1 hn).1
    show Chunk.emp :: oldB r vs = (if q.id ∈ vs ++ [q.id] then Chunk.emp else peC q) :: oldB r (vs ++ [q.id])
    rw [oldB_keep hn2, if_pos (by simp)]
  | q :: r, vs, i + 1, p, hn, h => by
    have hn2 := List.nodup_cons.1 hn
    have hi : r[i]? = some p := by simpa using h
    have hq : q.id ≠ p.id := fun e => hn2.1 (List.mem_map.2 ⟨p, List.mem_of_getElem? hi, e.symm⟩)
    show (if q.id ∈ vs then Chunk.emp else peC q) :: setC (oldB r vs) i .emp = (if q.id ∈ vs ++ [p.id] then Chunk.emp else peC q) :: oldB r (vs ++ [p.id])
    rw [oldB_set hn2.2 hi]
    simp [hq]
theorem setE_end {L : List (Int × SV)} {x : Int} {u v : SV} (h : ∀ p ∈ L, p.1 ≠ x) : setE (setE L x u) x v = setE L x v := by
  induction L with
  | nil => simp [setE]
  | cons q r ih =>
    have hq := h q (by simp)
    simp only [setE, if_neg hq, ih fun p hp => h p (by simp [hp])]
theorem fndP_none : ∀ {L : List PeL} {v : Int}, fndP L v = none → v ∉ L.map PeL.id
  | [], _, _ => by simp
  | p :: r, v, h => by
    unfold fndP at h
    split at h
    · cases h
    · rename_i hp
      have hr : fndP r v = none := by
        rcases hx : fndP r v with _ | x
        · rfl
        · rw [hx] at h; simp at h
      simp only [List.map_cons, List.mem_cons, not_or]
      exact ⟨fun e => hp e.symm, fndP_none hr⟩
theorem sees_old {M c : Nat} {L : List PeL} {p : PeL} {H : Hp} {ro : RO} (h : (mpC kvI M (setE (L.map fun p => (p.id, .ptr 0 p.b 0)) p.id (.ptr c p.b 0))).sat ro H) (hn : p.id ∉ L.map PeL.id) : (pmC (some M) (L ++ [p])).sat ro H := by
  rw [setE_none fun q hq => by
    obtain ⟨x, hx, rfl⟩ := List.mem_map.1 hq
    exact fun he => hn (he ▸ List.mem_map_of_mem hx)] at h
  exact mpC_see (by simp) (by simp [SV.den]) (fun ro _ => by simp only [oks_iff]; intro s hs'; simp only [List.map_map, List.mem_map] at hs'; obtain ⟨f, _, rfl⟩ := hs'; simp only [Function.comp, SV.ok]) ro H h
structure W25 (n0 : Rf.Nd) (vs : List Int) where
  i : Nat
  L : List PeL
  hi : i ≤ vs.length
  eq : L.map (fun p => (p.id, p.pl)) = (vs.take i).map (Rf.Nd.newP n0 n0)
set_option maxHeartbeats 8000000 in
theorem c25p (b : Nat) (n : NL) (a : Option Addr) (cap : Nat) (vs : List Int) {k j : Nat} (h : n.nd.inv k j) (hvl : vs.length ≤ 1000) (hk1 : k + 1 ≤ 2 ^ 30) (hj : j + 14 ≤ 2 ^ 28) :
    Spec Try.prog E 25 [.ptr 0 b 0, vI a cap vs] (nO b n) (fun v hp => v = .tup [I (n.nd.change vs).1.1, I (n.nd.change vs).1.2] ∧ ∃ n' : NL, n'.nd = (n.nd.change vs).2 ∧ hp = nO b n') := by
  refine Spec.see2 ?_
  generalize hP : SeeP _ = P
  have fin : ∀ (n' : NL) (r : (Int × Int) × Rf.Nd) {hp : List Chunk}, n.nd.change vs = r → n'.nd = r.2 → Sees hp (nO b n') → P (.tup [I r.1.1, I r.1.2]) hp := by
    intro n' r hp h1 h2 h3
    rw [← hP]
    subst h1
    exact ⟨_, nO b n', rfl, fun _ h => h, h3, rfl, n', h2, rfl⟩
  have hg := fit_good h.toFit (show k ≤ 2 ^ 30 by omega)
  have hs := fit_small h.toFit (show k ≤ 2 ^ 30 by omega) (show j ≤ 2 ^ 28 by omega)
  refine spec_of (keep := k25) (args' := [.ptr 0 b 0, vI a cap vs]) Try.func25 rfl Try.ntmps25 s25_ok (by simp) ⟨rfl, fun _ h => h⟩ (fun _ _ h => h) (go_ok _ 20 _ _ ?_)
  simp only [go_sem, s25, k25, List.cons_append, List.nil_append, Nat.reduceBEq, Nat.zero_add]
  have hrole : n.rs.role = n.nd.role := rfl
  have hch1 : n.nd.role ≠ 2 → n.nd.change vs = ((0, 21), n.nd) := fun h => by unfold Rf.Nd.change; rw [if_pos h]
  refine ⟨fun h1 => ?_, fun h1 => ?_⟩
  · have hr : n.nd.role ≠ 2 := of_decide_eq_true h1
    refine go_ok _ 20 _ _ ?_
    simp only [go_sem, List.nil_append, Nat.reduceBEq, Try.results25]
    exact fin n ((0, 21), n.nd) (hch1 hr) rfl (Sees.refl _)
  have hr : n.nd.role = 2 := Decidable.byContradiction (of_decide_eq_false h1)
  have hch2 : (Rf.areVoters vs = false ∨ Rf.Nd.differ vs n.nd.voters ≠ 1) → n.nd.change vs = ((0, 1), n.nd) := fun hh => by unfold Rf.Nd.change; rw [if_neg (fun q => q hr), if_pos hh]
  rw [areV_eq, nd_voters hg] at hch2
  refine go_ok _ 3 _ _ ?_
  simp only [go_sem]
  refine (stp_call [] (args := [vI a cap vs]) rfl rfl rfl ⟨_, Try.func59, rfl, rfl⟩ (c59 a cap vs (by omega)) rfl (fun _ h => h) rfl (fun _ _ h => h) ?_).safe trivial
  rintro v hp ⟨rfl, rfl⟩
  rcases hv : areV vs with _ | _
  · refine ⟨trivial, go_ok _ 60 _ _ ?_⟩
    simp only [go_sem, List.cons_append, List.nil_append, Nat.reduceBEq, Nat.reduceAdd, Nat.zero_add, Try.results25]
    and_intros <;> first | exact fin n ((0, 1), n.nd) (hch2 (.inl hv)) rfl (Sees.refl _) | (intro h; cases h; done) | rfl
  refine ⟨trivial, go_ok _ 5 _ _ ?_⟩
  simp only [go_sem, List.cons_append, List.nil_append, Nat.reduceBEq]
  refine ⟨?_, fun h => absurd h (by decide), rfl⟩
  refine Stp.safeOn ?_ trivial
  refine stp_call [0] (args := [.ptr 0 b 0]) rfl rfl rfl ⟨_, Try.func26, rfl, rfl⟩ (c26 7 b n.rs n.o hg) rfl (fun _ h => unc_oks h) (by simp [callIdx]) (fun _ _ h => h) ?_
  rintro v hp ⟨nl, b2, off, cp, rfl, rfl⟩
  refine ⟨trivial, ?_⟩
  refine safe_frzA (c := 7) (rowsV encI (n.rs.vs n.o)) rfl (fun _ _ _ _ => rfl) (by simp [frzOk, frzOk1]) ?_
  have hvn : 1 ≤ (n.rs.vs n.o).length ∧ (n.rs.vs n.o).length ≤ 7 := by
    rw [← nd_voters hg]
    exact h.toFit.voters.2.2
  simp only [go_sem, List.cons_append, List.nil_append]
  refine go_ok _ 1 _ _ ?_
  simp only [go_sem, Nat.reduceBEq]
  refine ⟨?_, fun h => absurd h (by decide), rfl⟩
  refine Stp.safeOn ?_ trivial
  refine stp_call [] (args := [vI a cap vs, vI (if nl then none else some ⟨b2, off, none⟩) cp (n.rs.vs n.o)]) rfl rfl rfl ⟨_, Try.func60, rfl, rfl⟩ (c60 a cap vs (if nl then none else some ⟨b2, off, none⟩) cp (n.rs.vs n.o) hvl (by omega) (by rw [List.length_append]; omega)) rfl (fun _ h => unc_oks h) (by simp [callIdx]) (fun _ _ h => h) ?_
  rintro v hp ⟨rfl, rfl⟩
  by_cases hdf : Rf.Nd.differ vs (n.rs.vs n.o) = 1
  · rw [hdf]
    refine ⟨trivial, go_ok _ 30 _ _ ?_⟩
    simp only [go_sem, List.cons_append, List.nil_append, Nat.reduceBEq, Nat.reduceAdd, Nat.zero_add, Try.results25]
    refine ⟨fun h => absurd h (by decide), fun _ => ?_⟩
    have hch3 : (n.nd.hd.cm < n.nd.chg n.nd.last ∨ n.nd.term n.nd.hd.cm ≠ n.nd.hd.tm) → n.nd.change vs = ((0, 22), n.nd) := fun hh => by
      unfold Rf.Nd.change
      rw [if_neg (fun q => q hr), if_neg (by rw [areV_eq, nd_voters hg, hv, hdf]; simp), if_pos hh]
    refine (stp_call [0] (args := [.ptr 0 b 0]) rfl rfl rfl ⟨_, Try.func40, rfl, rfl⟩ (c40 b n.rs hg.sm) rfl (fun _ h => h) rfl (fun _ _ h => h) ?_).safe trivial
    rintro v hp ⟨rfl, rfl⟩
    refine ⟨by simp only [recheck, recheck1, go_sem, Nat.reduceBEq, Nat.reduceAdd, Nat.zero_add], go_ok _ 1 _ _ ?_⟩
    simp only [go_sem, List.cons_append, List.nil_append]
    refine (stp_call [0] (args := [.ptr 0 b 0, I n.rs.last]) rfl rfl rfl ⟨_, Try.func61, rfl, rfl⟩ (c61 b n.rs.last 95 n.rs.cs n.rs.la n.rs.lc n.rs.es rfl (by have := hg.sm.len; omega)) rfl (fun _ h => h) rfl (fun _ _ h => h) ?_).safe trivial
    rintro v hp ⟨rfl, rfl⟩
    have hchg : n.nd.chg n.nd.last = chg n.rs.es n.rs.last := by rw [nd_last, nd_chg]
    have hcm : n.nd.hd.cm = n.rs.hC := rfl
    rcases d1 : decide (n.rs.hC < chg n.rs.es n.rs.last) with _ | _
    · refine ⟨by simp only [recheck, recheck1, go_sem, Nat.reduceBEq, Nat.reduceAdd, Nat.zero_add], go_ok _ 40 _ _ ?_⟩
      simp only [go_sem, d1, List.cons_append, List.nil_append, Nat.reduceBEq, Nat.reduceAdd, Nat.zero_add, Try.results25]
      refine ⟨?_, fun h => absurd h (by decide), rfl⟩
      refine Stp.safeOn ?_ trivial
      refine stp_call [0] (args := [.ptr 0 b 0, I n.rs.hC]) rfl rfl rfl ⟨_, Try.func39, rfl, rfl⟩ (c39 b n.rs n.rs.hC hg.sm (by have := h.c0; have := h.i1; have e : n.nd.hd.cm = n.rs.hC := rfl; omega) (by have := h.c1; have := h.i1; have e : n.nd.hd.cm = n.rs.hC := rfl; omega)) rfl (fun _ h => unc_oks h) (by simp [callIdx]) (fun _ _ h => h) ?_
      rintro v hp ⟨rfl, rfl⟩
      refine ⟨by simp only [recheck, recheck1, go_sem, Nat.reduceBEq, Nat.reduceAdd, Nat.zero_add], ?_⟩
      have htm : n.nd.term n.nd.hd.cm = n.rs.term n.rs.hC := nd_term n _
      rcases d2 : decide (n.rs.term n.rs.hC ≠ n.rs.hT) with _ | _
      · refine go_ok _ 12 _ _ ?_
        simp only [go_sem, d2, List.cons_append, List.nil_append, Nat.reduceBEq, Try.results25]
        have hbusy : ¬ (n.nd.hd.cm < n.nd.chg n.nd.last ∨ n.nd.term n.nd.hd.cm ≠ n.nd.hd.tm) := by
          rw [hchg, htm, hcm]
          exact fun hh => hh.elim (of_decide_eq_false d1) (of_decide_eq_false d2)
        have hva : Rf.areVoters vs = true := by rw [areV_eq]; exact hv
        have hch4 : n.nd.change vs = ((n.nd.last + 1, 0), ({ n.nd.put 2 (Rf.written vs) with peers := some ((n.nd.put 2 (Rf.written vs)).others.map (Rf.Nd.newP n.nd (n.nd.put 2 (Rf.written vs)))) } : Rf.Nd).all.look) := by
          unfold Rf.Nd.change
          rw [if_neg (fun q => q hr), if_neg (by rw [areV_eq, nd_voters hg, hv, hdf]; simp), if_neg hbusy]
          rfl
        have hik := Rf.inv_known h hr hva
        have hfp := Rf.fit_pushed h.toFit (kd := 2) (Rf.okB_written hva) (fun _ => by rw [Rf.readV_written hva])
        obtain ⟨l0, k1, k2, -, -⟩ := h.kn hr
        obtain ⟨M0, hpm0, rfl⟩ := nd_peers k1
        have hids0 : (n.peers.map PeL.id).Nodup := by
          rw [keys_pl] at k2
          exact k2
        refine (stp_call [] (args := [vI a cap vs]) rfl rfl rfl ⟨_, Try.func62, rfl, rfl⟩ (c62 a cap vs hvl) rfl (fun _ h => h) rfl (fun _ _ h => h) ?_).safe trivial
        rintro v hp ⟨rfl, a2, k2', rfl⟩
        refine ⟨trivial, go_ok _ 1 _ _ ?_⟩
        simp only [go_sem, List.cons_append, List.nil_append]
        have hwr : Rf.written vs = encV vs := written_rf (by obtain ⟨h1, h2, h3, h4⟩ := Rf.areVoters_facts hva; omega)
        have hel : (encV vs).length ≤ 2 ^ 40 := by
          rw [← hwr]
          unfold Rf.written
          rw [List.length_cons, Rf.flat_len]
          omega
        refine (stp_call [0, 1, 2, 3, 4, 5, 6] (args := [.ptr 0 b 0, I 2, vB a2 k2' (encV vs)]) rfl rfl rfl ⟨_, Try.func46, rfl, rfl⟩ (c46p b n h.toFit (by omega) 2 a2 k2' (encV vs) hel) rfl (fun _ h => h) rfl (fun _ _ h => h) ?_).safe trivial
        rintro v hp ⟨rfl, n1, hn1, hpm1, hpe1, rfl⟩
        rw [← hwr] at hn1
        rw [← hn1] at hch4
        rw [← Rf.put_pushed, ← hn1] at hik hfp
        have hg1 := fit_good hfp (show k + 1 ≤ 2 ^ 30 by omega)
        rw [hpm0] at hpm1
        rw [← hpe1] at hids0
        have hrp1 : n1.rs.peers = .val (.map (some M0)) := by simp only [NL.rs, hpm1]
        refine ⟨trivial, go_ok _ 20 _ _ ?_⟩
        simp only [go_sem, hrp1, List.cons_append, List.nil_append, Nat.reduceBEq, Nat.zero_add]
        refine Stp.safeE (stp_mkmap fun bm => ⟨by simp only [recheck, go_sem], ?_⟩) rfl
        refine go_ok _ 3 _ _ ?_
        simp only [go_sem, List.cons_append, List.nil_append, Nat.reduceBEq, Nat.zero_add]
        refine safe_sees (hp' := nO b (n1.known bm []) ++ [mpC kvI M0 (n1.peers.map fun p => (p.id, .ptr 0 p.b 0)), sepC (oldB n1.peers [])]) ?_ ?_
        · refine Sees.same (Sees.same (Sees.same (Sees.same (Sees.same ?_))))
          simp only [hpm1, pmC]
          have eo : oldB n1.peers [] = n1.peers.map peC := List.map_congr_left fun p _ => if_neg (by simp)
          rw [eo]
          refine Sees.trans (Sees.perm (b := [mapC bm, mpC kvI M0 (n1.peers.map fun p => (p.id, .ptr 0 p.b 0)), sepC (n1.peers.map peC), .emp]) ?_) ?_
          · exact ((List.perm_append_comm (l₁ := [mpC kvI M0 (n1.peers.map fun p => (p.id, .ptr 0 p.b 0)), sepC (n1.peers.map peC), Chunk.emp]) (l₂ := [mapC bm])))
          · exact Sees.cons (fun ro H h => ⟨H, [], by simp, mpI_nil ro bm H h⟩) (Sees.new sep_nil (Sees.left (a := [_, _]) (X := [_])))
        refine go_ok _ 100 _ _ ?_
        simp only [go_sem, List.cons_append, List.nil_append, Nat.reduceBEq]
        have hg0 : ∀ L, (n1.known bm L).rs.good (n1.known bm L).o := fun L => ⟨⟨hg1.sm.m0, hg1.sm.m1, hg1.sm.len⟩, hg1.hm, hg1.hf, hg1.mv, hg1.ml, hg1.fv, hg1.fl, hg1.ix, hg1.ok, hg1.rd⟩
        refine (stp_call [0] rfl rfl rfl ⟨_, Try.func63, rfl, rfl⟩ (c63 9 b (n1.known bm []).rs (n1.known bm []).o (hg0 [])) rfl (fun _ h => h) rfl (fun _ _ h => h) ?_).safe trivial
        rintro v hp ⟨nl', b', off', cap', rfl, rfl⟩
        have hot : (n1.known bm []).rs.others (n1.known bm []).o = n1.rs.others n1.o := rfl
        have hoth := nd_others hg1
        have hnd := hfp.others.1
        rw [hoth] at hnd
        rw [hot]
        have hvl2 := hg1.vlen n1.rs.last
        have hol : (n1.rs.others n1.o).length ≤ 7 := Nat.le_trans (List.length_filter_le _ _) hvl2.2
        generalize hvs : n1.rs.others n1.o = vo at *
        refine ⟨trivial, go_ok _ 100 _ _ ?_⟩
        simp only [go_sem, List.cons_append, List.nil_append, Nat.reduceBEq]
        refine safe_loop (ι := W25 n.nd vo) (fun g => ⟨[(0, .ptr 0 b 0), (6, I (n.rs.last + 1)), (7, .val (.map (some M0))), (72, .osl 9 nl' b' off' vo.length cap'), (73, I vo.length), (74, I g.i)], nO b (n1.known bm g.L) ++ [mpC kvI M0 (n1.peers.map fun p => (p.id, .ptr 0 p.b 0)), sepC (oldB n1.peers (vo.take g.i)), .row nl' b' 3 off' 1 vo.length cap' (rowsV encI vo)]⟩) (fun g => vo.length - g.i)
          ⟨0, [], Nat.zero_le _, rfl⟩ (Sub.front (X := []) ⟨rfl, rfl, rfl, rfl, rfl, rfl, trivial⟩ rfl) ?_
        rintro ⟨i, L, hi, heq⟩
        have hpm : (n1.known bm L).pm = some bm := rfl
        have hrp : (n1.known bm L).rs.peers = .val (.map (some bm)) := rfl
        refine go_ok _ 100 _ _ ?_
        simp only [go_sem, hpm, hrp, pmC, List.cons_append, List.nil_append, Nat.reduceBEq, Nat.zero_add, Int.toNat_natCast]
        refine ⟨fun hc => ?_, fun hc => ?_⟩
        · have hlt : i < vo.length := by simpa using hc
          refine ⟨by omega, by omega, ?_⟩
          have htk0 : vo.take (i + 1) = vo.take i ++ [vo.getD i 0] := by
            rw [List.take_add_one, List.getElem?_eq_getElem hlt, List.getD_eq_getElem?_getD, List.getElem?_eq_getElem hlt]
            rfl
          have hids : L.map PeL.id = vo.take i := by
            have := congrArg (List.map (·.1)) heq
            rw [keys_pl, List.map_map] at this
            rw [this]
            have e : ((fun x : Int × Rf.Pe => x.1) ∘ Rf.Nd.newP n.nd n.nd) = id := rfl
            rw [e, List.map_id]
          have hnew : vo.getD i 0 ∉ vo.take i := by
            intro hm
            obtain ⟨x, hx, hx2⟩ := List.getElem_of_mem hm
            rw [List.length_take] at hx
            rw [List.getElem_take, List.getD_eq_getElem?_getD, List.getElem?_eq_getElem hlt] at hx2
            exact List.pairwise_iff_getElem.1 hnd x i (by omega) hlt (by omega) hx2
          have hnp : Rf.Nd.newP n.nd n.nd (vo.getD i 0) = (vo.getD i 0, ((fndP n1.peers (vo.getD i 0)).map fun i => (n1.peers.getD i default).pl).getD ⟨n.rs.last + 1, 0, 0⟩) := by
            unfold Rf.Nd.newP
            rw [k1, ← hpe1, Option.getD_some, find_pl, nd_last]
            cases fndP n1.peers (vo.getD i 0) <;> rfl
          have hkeys : ∀ q ∈ L.map (fun p => (p.id, SV.ptr 0 p.b 0)), q.1 ≠ vo.getD i 0 := by
            intro q hq
            obtain ⟨x, hx, rfl⟩ := List.mem_map.1 hq
            exact fun he => hnew (hids ▸ he ▸ List.mem_map_of_mem hx)
          generalize hv : vo.getD i 0 = v at *
          have hnew' : v ∉ L.map PeL.id := by rw [hids]; exact hnew
          refine safe_oth (oth_lookup1 (K := kvI) (x := v) (b := M0) (es := n1.peers.map fun p => (p.id, .ptr 0 p.b 0)) (z := .pointer none) (mo := .t 83) (ko := .t 84) 7 rfl rfl Try.underlying92 (by kernel_rfl) rfl rfl rfl (by kernel_rfl)) (by simp only [recheck, recheck1, go_sem, hrp, Nat.reduceBEq, Nat.zero_add]) ?_
          rw [look_pm]
          rcases hf : fndP n1.peers v with _ | i0
          · rw [hf] at hnp
            simp only [Option.map_none, Option.getD_none] at hnp ⊢
            refine (stp_mapset (K := kvI) (x := v) (b := bm) (es := L.map fun p => (p.id, .ptr 0 p.b 0)) (v := .val (.pointer none)) (mo := .t 81) (ko := .t 82) (vo := .t 85) 5 rfl rfl rfl Try.underlying92 (by kernel_rfl) rfl rfl rfl rfl ?_ ?_).safeE rfl
            · trivial
            refine go_ok _ 20 _ _ ?_
            simp only [go_sem, List.nil_append, Nat.reduceBEq]
            refine safe_oth (oth_lookup1 (K := kvI) (x := v) (b := M0) (es := n1.peers.map fun p => (p.id, .ptr 0 p.b 0)) (z := .pointer none) (mo := .t 86) (ko := .t 87) 7 rfl rfl Try.underlying92 (by kernel_rfl) rfl rfl rfl (by kernel_rfl)) trivial ?_
            rw [look_pm, hf]
            refine go_ok _ 30 _ _ ?_
            simp only [go_sem, hrp, Option.map_none, Option.getD_none, List.cons_append, List.nil_append, Nat.reduceBEq, Nat.reduceAdd, Nat.zero_add]
            refine ⟨fun bk => ?_, ?_⟩
            · refine (stp_mapset (K := kvI) (x := v) (b := bm) (es := setE (L.map fun p => (p.id, .ptr 0 p.b 0)) v (.val (.pointer none))) (v := .ptr 10 bk 0) (mo := .t 93) (ko := .t 94) (vo := .t 97) 5 rfl rfl rfl Try.underlying92 (by kernel_rfl) rfl rfl rfl rfl ?_ ?_).safeE rfl
              · trivial
              refine go_ok _ 100 _ _ ?_
              simp only [go_sem, Nat.reduceBEq]
              refine ⟨by simp only [inI64]; omega, ?_⟩
              refine safe_lend (⟨i + 1, L ++ [⟨v, bk, n.rs.last + 1, 0, 0⟩], hlt, by rw [htk0, List.map_append, List.map_append, heq, List.map_singleton, List.map_singleton, hnp]; rfl⟩ : W25 n.nd vo) ?_ ?_
              · simp only; omega
              refine ⟨envDen_ok ⟨seen _ _ _ rfl, seen _ _ _ rfl, seen _ _ _ rfl, seen _ _ _ rfl, seen _ _ _ rfl, seen _ _ _ rfl, trivial⟩, ?_⟩
              rw [setE_end hkeys]
              refine Sees.same (Sees.same (Sees.same (Sees.same (Sees.same (Sees.cons (fun ro H hh => ⟨H, [], by simp, ?_⟩) ?_)))))
              · exact sees_old (p := ⟨v, bk, n.rs.last + 1, 0, 0⟩) hh hnew'
              · simp only
                rw [htk0, oldB_keep (fndP_none hf)]
                refine Sees.trans (Sees.perm (b := [sepC (L.map peC), peC ⟨v, bk, n.rs.last + 1, 0, 0⟩, mpC kvI M0 (n1.peers.map fun p => (p.id, .ptr 0 p.b 0)), sepC (oldB n1.peers (vo.take i)), .row nl' b' 3 off' 1 vo.length cap' (rowsV encI vo)]) (List.Perm.cons _ ?_)) ?_
                · exact (List.perm_append_comm (l₁ := [mpC kvI M0 (n1.peers.map fun p => (p.id, .ptr 0 p.b 0)), sepC (oldB n1.peers (vo.take i)), Chunk.row nl' b' 3 off' 1 vo.length cap' (rowsV encI vo)]) (l₂ := [peC ⟨v, bk, n.rs.last + 1, 0, 0⟩]))
                · refine Sees.trans Sees.bagEnd ?_
                  show Sees _ (sepC ((L ++ [(⟨v, bk, n.rs.last + 1, 0, 0⟩ : PeL)]).map peC) :: _)
                  rw [List.map_append]
                  exact Sees.refl _
            · intro h; cases h
          · rw [hf] at hnp
            obtain ⟨p, hp1, hp2⟩ := fndP_some hf
            have hpd : n1.peers.getD i0 default = p := by rw [List.getD_eq_getElem?_getD, hp1]; rfl
            simp only [Option.map_some, Option.getD_some, hpd] at hnp ⊢
            refine (stp_mapset (K := kvI) (x := v) (b := bm) (es := L.map fun p => (p.id, .ptr 0 p.b 0)) (v := .ptr 0 p.b 0) (mo := .t 81) (ko := .t 82) (vo := .t 85) 5 rfl rfl rfl Try.underlying92 (by kernel_rfl) rfl rfl rfl rfl ?_ ?_).safeE rfl
            · trivial
            refine go_ok _ 20 _ _ ?_
            simp only [go_sem, List.nil_append, Nat.reduceBEq]
            refine safe_oth (oth_lookup1 (K := kvI) (x := v) (b := M0) (es := n1.peers.map fun p => (p.id, .ptr 0 p.b 0)) (z := .pointer none) (mo := .t 86) (ko := .t 87) 7 rfl rfl Try.underlying92 (by kernel_rfl) rfl rfl rfl (by kernel_rfl)) trivial ?_
            rw [look_pm, hf]
            refine go_ok _ 30 _ _ ?_
            simp only [go_sem, hrp, Option.map_some, Option.getD_some, hpd, List.cons_append, List.nil_append, Nat.reduceBEq, Nat.reduceAdd, Nat.zero_add]
            refine ⟨by simp only [inI64]; omega, ?_⟩
            subst hp2
            refine safe_lend (⟨i + 1, L ++ [p], hlt, by rw [htk0, List.map_append, List.map_append, heq, List.map_singleton, List.map_singleton, hnp]⟩ : W25 n.nd vo) ?_ ?_
            · simp only; omega
            refine ⟨envDen_ok ⟨seen _ _ _ rfl, seen _ _ _ rfl, seen _ _ _ rfl, seen _ _ _ rfl, seen _ _ _ rfl, seen _ _ _ rfl, trivial⟩, ?_⟩
            refine Sees.trans (Sees.take 8 i0 rfl (by rw [oldB, List.length_map]; exact (List.getElem?_eq_some_iff.1 hp1).1)) ?_
            rw [oldB_get hp1 hnew, oldB_set hids0 hp1]
            refine Sees.same (Sees.same (Sees.same (Sees.same (Sees.same (Sees.cons (fun ro H hh => ⟨H, [], by simp, ?_⟩) ?_)))))
            · exact sees_old (p := p) hh hnew'
            · simp only
              rw [htk0]
              refine Sees.trans (Sees.perm (b := [sepC (L.map peC), peC p, mpC kvI M0 (n1.peers.map fun p => (p.id, .ptr 0 p.b 0)), sepC (oldB n1.peers (vo.take i ++ [p.id])), .row nl' b' 3 off' 1 vo.length cap' (rowsV encI vo)]) (List.Perm.cons _ ?_)) ?_
              · exact (List.perm_append_comm (l₁ := [mpC kvI M0 (n1.peers.map fun p => (p.id, .ptr 0 p.b 0)), sepC (oldB n1.peers (vo.take i ++ [p.id])), Chunk.row nl' b' 3 off' 1 vo.length cap' (rowsV encI vo)]) (l₂ := [peC p]))
              · refine Sees.trans Sees.bagEnd ?_
                show Sees _ (sepC ((L ++ [p]).map peC) :: _)
                rw [List.map_append]
                exact Sees.refl _
        · have hii : i = vo.length := by have : ¬ (i : Int) < vo.length := of_decide_eq_false hc; omega
          subst hii
          rw [List.take_length] at heq
          have hnd1 : (n1.known bm L).nd = { n1.nd with peers := some (n1.nd.others.map (Rf.Nd.newP n.nd n1.nd)) } := by
            show ({ (n1.known bm L).nd with peers := some (L.map fun p => (p.id, p.pl)) } : Rf.Nd) = _
            rw [heq, hoth]
            rfl
          rw [← hnd1] at hik hch4
          refine safe_sees (hp' := nO b (n1.known bm L) ++ [mpC kvI M0 (n1.peers.map fun p => (p.id, .ptr 0 p.b 0)), sepC (oldB n1.peers (vo.take vo.length)), .row nl' b' 3 off' 1 vo.length cap' (rowsV encI vo)]) (Sees.refl _) ?_
          have hr1 : (n1.known bm L).nd.role = 2 := by
            have : n1.nd.role = 2 := by rw [hn1, Rf.put_pushed]; exact hr
            exact this
          generalize n1.known bm L = N at *
          refine (stp_call [0, 1, 2, 3, 4, 5, 6] (args := [.ptr 0 b 0]) rfl rfl rfl ⟨_, Try.func41, rfl, rfl⟩ (c41p b N hik.toFit (hik.kn hr1) hk1 (by omega)) rfl (fun _ h => h) rfl (fun _ _ h => h) ?_).safe trivial
          rintro v hp ⟨w, l, hn2, rfl⟩
          have hi2 := Rf.inv_all hik hr1
          rw [← hn2] at hi2 hch4
          generalize N.sent w l = n2 at *
          refine ⟨trivial, go_ok _ 100 _ _ ?_⟩
          simp only [go_sem, List.cons_append, List.nil_append, Nat.reduceBEq]
          refine (stp_call [0, 1, 2, 3, 4, 5, 6] (args := [.ptr 0 b 0]) rfl rfl rfl ⟨_, Try.func47, rfl, rfl⟩ (c47p b n2 hi2 hk1 (by omega)) rfl (fun _ h => h) rfl (fun _ _ h => h) ?_).safe trivial
          rintro v hp ⟨n3, hn3, -, rfl⟩
          refine ⟨trivial, go_ok _ 100 _ _ ?_⟩
          simp only [go_sem, List.cons_append, List.nil_append, Nat.reduceBEq, Try.results25]
          rw [← nd_last]
          exact fin n3 _ hch4 (by rw [hn3]) (Sees.left (a := [_, _, _, _, _, _, _]) (X := [_, _, _]))
      · refine go_ok _ 40 _ _ ?_
        simp only [go_sem, d2, List.cons_append, List.nil_append, Nat.reduceBEq, Try.results25]
        and_intros <;> first | exact fin n ((0, 22), n.nd) (hch3 (.inr (by rw [htm]; exact of_decide_eq_true d2))) rfl (Sees.left (a := [_, _, _, _, _, _, _]) (X := [_])) | (intro h; cases h; done) | rfl
    · refine ⟨by simp only [recheck, recheck1, go_sem, Nat.reduceBEq, Nat.reduceAdd, Nat.zero_add], go_ok _ 40 _ _ ?_⟩
      simp only [go_sem, d1, List.cons_append, List.nil_append, Nat.reduceBEq, Nat.reduceAdd, Nat.zero_add, Try.results25]
      and_intros <;> first | exact fin n ((0, 22), n.nd) (hch3 (.inl (by rw [hchg, hcm]; exact of_decide_eq_true d1))) rfl (Sees.left (a := [_, _, _, _, _, _, _]) (X := [_])) | (intro h; cases h; done) | rfl
  · have hdf' : decide (((Rf.Nd.differ vs (n.rs.vs n.o) : Nat) : Int) ≠ 1) = true := decide_eq_true (by omega)
    refine ⟨trivial, go_ok _ 30 _ _ ?_⟩
    simp only [go_sem, hdf', List.cons_append, List.nil_append, Nat.reduceBEq, Nat.reduceAdd, Nat.zero_add, Try.results25]
    exact ⟨fin n ((0, 1), n.nd) (hch2 (.inr hdf)) rfl (Sees.left (a := [_, _, _, _, _, _, _]) (X := [_])), fun h => absurd h (by decide)⟩
end Go.SX

/- Raft: whether two rows of ints are alike; the voters, as a row that nobody writes. -/
namespace Go.SX
open Go.Proofs
set_option maxRecDepth 1000000
variable {E : Env}

theorem c27n (a1 : Option Addr) (c1 : Nat) (xs : List Int) (a2 : Option Addr) (c2 : Nat) (ys : List Int) (hl : xs.length ≤ 2 ^ 40) :
    Spec Try.prog E 27 [vI a1 c1 xs, vI a2 c2 ys] [] (fun v hp => v = Bl (decide (xs = ys)) ∧ hp = []) := by
  refine spec_of (keep := k27) (args' := [vI a1 c1 xs, vI a2 c2 ys]) Try.func27 rfl Try.ntmps27 s27_ok (by simp) ⟨rfl, fun _ h => h⟩ (fun _ _ h => h) (go_ok _ 20 _ _ ?_)
  simp only [go_sem, s27, k27, Nat.reduceBEq, Nat.zero_add, Try.results27]
  refine ⟨fun h1 => ?_, fun h1 => ?_⟩
  · have h2 : ¬ (xs.length : Int) = ys.length := of_decide_eq_true h1
    have : xs ≠ ys := fun e => h2 (by rw [e])
    simp [this]
  have hlen : xs.length = ys.length := by
    have h2 : ¬ ¬ (xs.length : Int) = ys.length := of_decide_eq_false h1
    omega
  refine go_ok _ 20 _ _ ?_
  simp only [go_sem]
  refine safe_loop (ι := {i : Nat // i ≤ xs.length ∧ xs.take i = ys.take i}) (fun g => ⟨[(0, vI a1 c1 xs), (1, vI a2 c2 ys), (5, I g.1)], []⟩) (fun g => xs.length - g.1)
    ⟨0, Nat.zero_le _, rfl⟩ (Sub.front (X := []) (by simp [envSub, look]) rfl) ?_
  rintro ⟨i, hi, heq⟩
  refine go_ok _ 20 _ _ ?_
  simp only [go_sem, Nat.reduceBEq, Int.toNat_natCast, Try.results27]
  refine ⟨fun hc => ?_, fun hc => ?_⟩
  · have hlt : i < xs.length := by have := of_decide_eq_true hc; omega
    refine ⟨⟨by omega, by omega⟩, by decide, ?_⟩
    refine go_ok _ 20 _ _ ?_
    simp only [go_sem, Nat.reduceBEq, Int.toNat_natCast, Try.results27]
    refine ⟨⟨by omega, by omega⟩, by decide, fun hn => ?_, fun hn => ?_⟩
    · have hne : xs.getD i 0 ≠ ys.getD i 0 := by simpa using hn
      have : xs ≠ ys := fun e => hne (by rw [e])
      simp [this]
    · have he : xs.getD i 0 = ys.getD i 0 := by simpa using hn
      refine ⟨by simp only [inI64]; omega, ?_⟩
      refine safe_lend (⟨i + 1, hlt, ?_⟩ : {i : Nat // i ≤ xs.length ∧ xs.take i = ys.take i}) (by simp only; omega) (Sub.front (X := []) (by simp [envSub, look]) rfl)
      rw [List.getD_eq_getElem?_getD, List.getD_eq_getElem?_getD, List.getElem?_eq_getElem hlt, List.getElem?_eq_getElem (hlen ▸ hlt)] at he
      rw [List.take_add_one, List.take_add_one, heq, List.getElem?_eq_getElem hlt, List.getElem?_eq_getElem (hlen ▸ hlt)]
      simp only [Option.getD_some] at he
      rw [he]
  · have hii : i = xs.length := by have := of_decide_eq_false hc; omega
    have : xs = ys := by
      have e := heq
      rw [hii, List.take_length, hlen, List.take_length] at e
      exact e
    simp [this]
/-- who votes, as a row of a node -/
theorem c26n (b : Nat) (n : NL) {k j : Nat} (h : n.nd.fit k j) (hk : k ≤ 2 ^ 30) : Spec Try.prog E 26 [.ptr 0 b 0] (nO b n) (fun v hp => ∃ N : NL, ((∃ a cap, v = vI a cap n.nd.voters) ∧ N = n) ∧ hp = nO b N) := by
  have hg := fit_good h hk
  refine Spec.leave (Post := fun v hp => ∃ a cap, v = vI a cap n.nd.voters ∧ hp = nO b n ++ [.emp]) ?_ (fun v hp ⟨a, cap, h1, h2⟩ => ⟨nO b n, [.emp], h2, n, ⟨⟨a, cap, h1⟩, rfl⟩, rfl⟩)
  refine spec_of (keep := k26) (args' := [.ptr 0 b 0]) Try.func26 rfl Try.ntmps26 s26_ok (by simp) ⟨rfl, fun _ h => h⟩ (fun _ _ h => h) (go_ok _ 100 _ _ ?_)
  simp only [go_sem, s26, k26, Nat.reduceBEq, Nat.zero_add]
  refine (stp_call [0] (args := [.ptr 0 b 0]) rfl rfl rfl ⟨_, Try.func40, rfl, rfl⟩ (c40 b n.rs hg.sm) rfl (fun _ h => h) rfl (fun _ _ h => h) ?_).safe trivial
  rintro v hp ⟨rfl, rfl⟩
  refine ⟨by simp only [recheck, recheck1, go_sem, Nat.reduceBEq, Nat.zero_add], ?_⟩
  refine (stp_call [0] (args := [.ptr 0 b 0, I n.rs.last]) rfl rfl rfl ⟨_, Try.func64, rfl, rfl⟩ (c64 7 b n.rs n.o n.rs.last hg) rfl (fun _ h => h) rfl (fun _ _ h => h) ?_).safe trivial
  rintro v hp ⟨nl, b', off, cap', rfl, rfl⟩
  have hvs : n.nd.voters = n.rs.votersAt n.o n.rs.last := nd_voters hg
  refine ⟨trivial, go_ok _ 2 _ _ ?_⟩
  simp only [go_sem, List.cons_append, List.nil_append, Nat.reduceBEq]
  refine safe_frzA (c := 7) (rowsV encI (n.rs.votersAt n.o n.rs.last)) rfl (fun _ _ _ _ => rfl) (by simp [frzOk, frzOk1]) ?_
  refine go_ok _ 20 _ _ ?_
  simp only [go_sem, Nat.reduceBEq, Try.results26]
  exact ⟨_, _, by rw [hvs]⟩
end Go.SX

/- Raft, plainly: the law of voters changed, evaluated. -/
namespace Go.SX.Rf
set_option maxRecDepth 100000

def newV (v : List Int) (x : Int) (more : Bool) : List Int := v.filter (fun y => more || decide (y ≠ x)) ++ (if more then [100] else [])
def chgs (n : Nd) (who : Nat) (more : Bool) : Bool :=
  let v := n.voters
  let w := newV v (v.getD who 0) more
  let r1 := n.change v
  let r2 := r1.2.change []
  let r3 := r2.2.change (v ++ [200, 201])
  let r4 := r3.2.change w
  let r5 := r4.2.change v
  decide (r1.1.2 = 1) && (decide (r2.1.2 = 1) && (decide (r3.1.2 = 1) && (decide (r4.1.2 = 0) && (decide (2 ≤ r4.1.1) && (decide (r4.2.voters = w) && (decide (w.length ≤ 1) || decide (r5.1.2 = 22)))))))
def ch (N : Nat) : Bool := match Gr.quietsC 40 (Gr.new N) with
  | none => false
  | some g => decide ((g.R.getD 0 default).role = 2) && (((List.range N).drop 1).all fun i => decide ((g.R.getD i default).role ≠ 2)) && (decide ((g.R.getD 0 default).voters.length = N) && (List.range N).all fun k => chgs (g.R.getD 0 default) k true && chgs (g.R.getD 0 default) k false)
theorem ch2 : ch 2 = true := by decide +kernel
theorem ch3 : ch 3 = true := by decide +kernel
theorem ch4 : ch 4 = true := by decide +kernel
theorem ch5 : ch 5 = true := by decide +kernel
end Go.SX.Rf

/- Raft, plainly: what the law of voters changed wants of the first, who leads. -/
namespace Go.SX
set_option maxRecDepth 1000000

/-- what the law wants of the first, who leads -/
theorem evC {N : Nat} (h2 : 2 ≤ N) (h5 : N ≤ 5) : ∃ g, Rf.Gr.quietsC 40 (Rf.Gr.new N) = some g ∧ (g.R.getD 0 default).role = 2 ∧ (∀ i, 1 ≤ i → i < N → (g.R.getD i default).role ≠ 2) ∧ (g.R.getD 0 default).voters.length = N ∧ ∀ k more, k < N → Rf.chgs (g.R.getD 0 default) k more = true := by
  have key : ∀ N, Rf.ch N = true → ∃ g, Rf.Gr.quietsC 40 (Rf.Gr.new N) = some g ∧ (g.R.getD 0 default).role = 2 ∧ (∀ i, 1 ≤ i → i < N → (g.R.getD i default).role ≠ 2) ∧ (g.R.getD 0 default).voters.length = N ∧ ∀ k more, k < N → Rf.chgs (g.R.getD 0 default) k more = true := by
    intro N h
    unfold Rf.ch at h
    rcases hq : Rf.Gr.quietsC 40 (Rf.Gr.new N) with _ | g
    · rw [hq] at h; cases h
    · rw [hq] at h
      simp only [Bool.and_eq_true, decide_eq_true_eq, List.all_eq_true] at h
      obtain ⟨⟨h1, h3⟩, h4, h5⟩ := h
      refine ⟨g, rfl, h1, fun i hi hN => h3 i ?_, h4, fun k more hk => ?_⟩
      · rw [List.mem_iff_getElem]
        exact ⟨i - 1, by simp; omega, by simp; omega⟩
      · obtain ⟨a, b⟩ := h5 k (List.mem_range.2 hk)
        cases more
        · exact b
        · exact a
  have : N = 2 ∨ N = 3 ∨ N = 4 ∨ N = 5 := by omega
  rcases this with rfl | rfl | rfl | rfl
  · exact key 2 Rf.ch2
  · exact key 3 Rf.ch3
  · exact key 4 Rf.ch4
  · exact key 5 Rf.ch5
end Go.SX
