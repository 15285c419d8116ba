/- Joined texts: T21 T22 T23 T24 T25 T26. -/
import Derived.Test.YtpbbpmhahkeekaaSxTJ4
/- Raft: which reads are confirmed, by the plain model. -/
namespace Go.SX
open Go.Proofs
set_option maxRecDepth 1000000
variable {E : Env}

theorem row_tail {ro : RO} {H : Hp} {nl : Bool} {b : Nat} {t : TypeId} {off sz n cap : Nat} {f f' : Nat → Nat → SV} (hn : 0 < n) (h : ∀ i j, i < n - 1 → j < sz → f (i + 1) j = f' i j) (hs : (Chunk.row nl b t off sz n cap f).sat ro H) :
    (Chunk.row nl b t (if (cap : Int) = 1 then off else off + (Int.toNat 1) * sz) sz (n - 1) (cap - 1) f').sat ro H := by
  cases nl with
  | true =>
    obtain ⟨rfl, h1, h2⟩ := hs
    omega
  | false =>
    obtain ⟨arr, fz, rfl, h0, h1, h2, h3⟩ := hs
    have e1 : Int.toNat 1 = 1 := rfl
    by_cases hc : (cap : Int) = 1
    · rw [if_pos hc]
      have : cap = 1 := by omega
      subst this
      exact ⟨arr, fz, rfl, h0, by omega, by omega, fun i j hi hj => by omega⟩
    · rw [if_neg hc, e1, Nat.one_mul]
      refine ⟨arr, fz, rfl, h0, by omega, ?_, fun i j hi hj => ?_⟩
      · have : cap = (cap - 1) + 1 := by omega
        rw [this, Nat.add_mul, Nat.one_mul] at h2
        omega
      · rw [← h i j hi hj]
        have := h3 (i + 1) j (by omega) hj
        rwa [Nat.add_mul, Nat.one_mul, show off + (i * sz + sz) + j = off + sz + i * sz + j by omega] at this
@[simp, go_sem] theorem rowsW0 (xs : List (Int × Int × Int)) (i : Nat) : rowsV encW xs i 0 = I (xs.getD i default).1 := rfl
@[simp, go_sem] theorem rowsW1 (xs : List (Int × Int × Int)) (i : Nat) : rowsV encW xs i 1 = I (xs.getD i default).2.1 := rfl
@[simp, go_sem] theorem rowsW2 (xs : List (Int × Int × Int)) (i : Nat) : rowsV encW xs i 2 = I (xs.getD i default).2.2 := rfl
@[simp, go_sem] theorem rowsQ0 (xs : List (Int × Int)) (i : Nat) : rowsV encQ xs i 0 = I (xs.getD i default).1 := rfl
@[simp, go_sem] theorem rowsQ1 (xs : List (Int × Int)) (i : Nat) : rowsV encQ xs i 1 = I (xs.getD i default).2 := rfl
/-- reads that wait, and that are confirmed -/
def NL.waited (n : NL) (ww : Rw) (ws : List (Int × Int × Int)) (wr : Rw) (rs : List (Int × Int)) : NL := { n with ww := ww, waits := ws, wr := wr, reads := rs }
structure W48 (n : NL) where
  ww : Rw
  ws : List (Int × Int × Int)
  wr : Rw
  rs : List (Int × Int)
  len : ws.length + rs.length = n.waits.length + n.reads.length
  eq : (n.waited ww ws wr rs).nd.confirmI ws.length = n.nd.confirm
set_option maxHeartbeats 2000000 in
theorem c48p (b : Nat) (n : NL) {k j : Nat} (h : n.nd.inv k j) (hr : n.s.role = 2) (hk1 : k ≤ 2 ^ 30) :
    Spec Try.prog E 48 [.ptr 0 b 0] (nO b n) (fun _ hp => ∃ (ww wr : Rw) (ws : List (Int × Int × Int)) (rs : List (Int × Int)), (n.waited ww ws wr rs).nd = n.nd.confirm ∧ hp = nO b (n.waited ww ws wr rs)) := by
  refine Spec.see2 ?_
  generalize hP : SeeP _ = P
  have fin : ∀ (r : SV) (ww wr : Rw) (ws : List (Int × Int × Int)) (rs : List (Int × Int)) {X : List Chunk}, (n.waited ww ws wr rs).nd = n.nd.confirm → P r (nO b (n.waited ww ws wr rs) ++ X) := by
    intro r ww wr ws rs X h1
    rw [← hP]
    exact ⟨r, _, rfl, fun _ h => h, Sees.left, ww, wr, ws, rs, h1, rfl⟩
  have hg := fit_good h.toFit hk1
  have hwl : n.waits.length + n.reads.length ≤ k := by
    have := h.wt
    have e1 : n.nd.waits.length = n.waits.length := by show (n.waits.map _).length = _; rw [List.length_map]
    have e2 : n.nd.reads.length = n.reads.length := rfl
    omega
  refine spec_of (keep := k48) (args' := [.ptr 0 b 0]) Try.func48 rfl Try.ntmps48 s48_ok (by simp) ⟨rfl, fun _ h => h⟩ (fun _ _ h => h) (go_ok _ 100 _ _ ?_)
  simp only [go_sem, s48, k48, Nat.reduceBEq, Nat.reduceAdd, Nat.zero_add]
  intro bx
  refine safe_loop (ι := W48 n) (fun g => ⟨[(1, .ptr 7 bx 0)], nO b (n.waited g.ww g.ws g.wr g.rs) ++ [.cells bx 24 [.ptr 0 b 0]]⟩) (fun g => g.ws.length)
    ⟨n.ww, n.waits, n.wr, n.reads, rfl, by
      have e1 : n.waits.length = n.nd.waits.length := by show _ = (n.waits.map _).length; rw [List.length_map]
      rw [e1]; rfl⟩ (Sub.front (X := []) (by simp [envSub, look]) rfl) ?_
  rintro ⟨ww, ws, wr, rs, hlen, heq⟩
  have hNw : (n.waited ww ws wr rs).rs.waits = .osl 2 ww.nl ww.b ww.off ws.length ww.cap := rfl
  have hNr : (n.waited ww ws wr rs).rs.reads = .osl 3 wr.nl wr.b wr.off rs.length wr.cap := rfl
  have hNc : nO b (n.waited ww ws wr rs) = [rC b (n.waited ww ws wr rs).rs, n.wv.ch 3 1 encI n.votes, .row ww.nl ww.b 100 ww.off 3 ws.length ww.cap (rowsV encW ws), .row wr.nl wr.b 48 wr.off 2 rs.length wr.cap (rowsV encQ rs), n.wm.ch 54 15 encM n.msgs, pmC n.pm n.peers, sepC (n.peers.map peC)] := rfl
  dsimp only
  rw [hNc]
  refine safe_rowcap (c := 2) rfl fun hcap => ?_
  refine go_ok _ 100 _ _ ?_
  simp only [go_sem, hNw, List.cons_append, List.nil_append, Nat.reduceBEq, Nat.reduceAdd, Nat.zero_add, Try.results48]
  refine ⟨fun hl => ?_, fun hl => ?_⟩
  · have hl' : 0 < ws.length := by simpa using hl
    obtain ⟨⟨x, y, z⟩, ws', rfl⟩ : ∃ w ws', ws = w :: ws' := by cases ws with | nil => simp at hl' | cons w ws' => exact ⟨w, ws', rfl⟩
    refine ⟨by omega, by omega, fun bw => ?_⟩
    simp only [Int.toNat_zero, List.getD_cons_zero]
    have hg' : (n.waited ww ((x, y, z) :: ws') wr rs).rs.good (n.waited ww ((x, y, z) :: ws') wr rs).o := ⟨⟨hg.sm.m0, hg.sm.m1, hg.sm.len⟩, hg.hm, hg.hf, hg.mv, hg.ml, hg.fv, hg.fl, hg.ix, hg.ok, hg.rd⟩
    have hwi : ∀ v ∈ (n.waited ww ((x, y, z) :: ws') wr rs).rs.vs (n.waited ww ((x, y, z) :: ws') wr rs).o, v ≠ (n.waited ww ((x, y, z) :: ws') wr rs).s.id → ∃ M j p, (n.waited ww ((x, y, z) :: ws') wr rs).pm = some M ∧ fndP (n.waited ww ((x, y, z) :: ws') wr rs).peers v = some j ∧ (n.waited ww ((x, y, z) :: ws') wr rs).peers[j]? = some p :=
      knows_at (h.kn hr) hg'
    refine (stp_call [0, 1, 2, 3, 4, 5, 6, 7, 8] rfl rfl rfl ⟨_, Try.func73, rfl, rfl⟩ (c73b b 75 (n.waited ww ((x, y, z) :: ws') wr rs) [.ptr 7 bx 0, .ptr 8 bw 0] (.cells bx 24 [.ptr 0 b 0]) (.cells bw 100 [I x, I y, I z]) (fun v => decide (v = n.s.id) || decide (z ≤ (n.nd.peer v).hd)) hg' ⟨_, Try.func75, rfl, rfl⟩
        (fun v hv => c75n b bx bw (n.waited ww ((x, y, z) :: ws') wr rs) v x y z (hwi v hv)) (fun ro => by simp [SV.oks, SV.ok])) rfl (fun _ h => h) rfl (fun _ _ h => h) ?_).safe trivial
    rintro v hp ⟨rfl, rfl⟩
    refine ⟨trivial, go_ok _ 100 _ _ ?_⟩
    simp only [go_sem, hNr, Nat.reduceBEq, Nat.reduceAdd, Nat.zero_add, reduceCtorEq, Try.results48]
    have hmo := nd_most hg' (fun v => decide (v = n.nd.id) || decide (z ≤ (n.nd.peer v).hd))
    have hpd : (fun v => decide (v = n.nd.id) || decide (z ≤ (n.nd.peer v).hd)) = (fun v => decide (v = n.s.id) || decide (z ≤ (n.nd.peer v).hd)) := rfl
    rw [hpd] at hmo
    have heq' : (if (n.waited ww ((x, y, z) :: ws') wr rs).nd.most (fun v => decide (v = n.s.id) || decide (z ≤ (n.nd.peer v).hd)) = true then ({ (n.waited ww ((x, y, z) :: ws') wr rs).nd with reads := rs ++ [(x, y)], waits := ws'.map fun w => ⟨w.1, w.2.1, w.2.2⟩ } : Rf.Nd).confirmI ws'.length else (n.waited ww ((x, y, z) :: ws') wr rs).nd) = n.nd.confirm := heq
    rw [hmo] at heq'
    refine ⟨fun hm => ?_, fun hm => ?_⟩
    · rw [if_neg (by simpa using hm)] at heq'
      exact fin _ ww wr ((x, y, z) :: ws') rs (X := [_, _]) heq'
    · rw [if_pos (by simpa using hm)] at heq'
      intro b1
      refine (stp_app2 (c := 3) (b := wr.b) (off := wr.off) (nl := wr.nl) (n := rs.length) (cap := wr.cap) (x := .osl 9 false b1 0 1 1) (gx := litF 2 [I x, I y]) (m := 1) (f := rowsV encQ rs) (f2 := rowsV encQ (rs ++ [(x, y)])) (N := rs.length + 1) rfl rfl rfl rfl ⟨rfl, rfl, rfl, rfl, by decide⟩ (fun i j hi hj => ?_) (by omega) rfl (fun i j hi hj => app_one (enc := encQ) (y := (x, y)) i j hi hj) fun nl' b' off' cap' => ?_).safe trivial
      · obtain rfl : i = 0 := by omega
        have h15 : j = 0 ∨ j = 1 := by omega
        rcases h15 with rfl | rfl <;> simp [litF, one, Value.oneCell']
      refine ⟨by simp only [recheck, recheck1, go_sem, Nat.reduceBEq, Nat.reduceAdd, Nat.zero_add], go_ok _ 100 _ _ ?_⟩
      simp only [go_sem, hNw, Nat.reduceBEq, Nat.reduceAdd, Nat.zero_add, reduceCtorEq, Try.results48]
      simp only [List.length_cons] at hcap hlen
      refine ⟨by omega, ?_⟩
      refine safe_lend (⟨⟨ww.nl, ww.b, if (ww.cap : Int) = 1 then ww.off else ww.off + Int.toNat 1 * 3, ww.cap - 1⟩, ws', ⟨nl', b', off', cap'⟩, rs ++ [(x, y)], by simp only [List.length_append, List.length_singleton]; omega, heq'⟩ : W48 n) ?_ ?_
      · simp only [List.length_cons]; omega
      refine ⟨envDen_ok ⟨seen _ _ _ rfl, trivial⟩, ?_⟩
      refine Sees.trans (Sees.left (a := [_, _, _, _, _, _, _, _]) (X := [_, _])) ?_
      simp only [nO, NL.waited, NL.rs, Rw.ch, Rw.sv, List.length_append, List.length_singleton]
      refine Sees.same (Sees.same (Sees.cons (fun ro H hh => ⟨H, [], by simp, ?_⟩) (Sees.refl _)))
      exact row_tail (f := rowsV encW ((x, y, z) :: ws')) (Nat.succ_pos _) (fun i j _ _ => rfl) hh
  · have hl' : ws = [] := by
      have : ¬ 0 < ws.length := by simpa using hl
      exact List.length_eq_zero_iff.1 (by omega)
    subst hl'
    exact fin _ ww wr [] rs (X := [_]) heq
end Go.SX

/- Raft: who is elected, by the plain model. -/
namespace Go.SX
open Go.Proofs
set_option maxRecDepth 1000000
variable {E : Env}

theorem mpI_nil (ro : RO) (M : Nat) (H : Hp) (h : (mapC M).sat ro H) : (mpC kvI M []).sat ro H :=
  ⟨#[], 0, h, MapKept.stamped_empty 0, rfl, rfl, trivial⟩
/-- one who leads anew, who knows of some -/
def NL.leads (n : NL) (M : Nat) (L : List PeL) : NL := { n with s := { n.s with role := 2, leader := n.s.id, beats := 0 }, pm := some M, peers := L }
structure W55 (n : NL) (vs : List Int) where
  i : Nat
  L : List PeL
  hi : i ≤ vs.length
  eq : L.map (fun p => (p.id, p.pl)) = (vs.take i).map fun v => (v, (⟨n.rs.last + 1, 0, 0⟩ : Rf.Pe))
/-- a contract, beside other memory -/
theorem Spec.beside {P : Program} {f : FuncId} {args : List SV} {heap : List Chunk} {Post : SV → List Chunk → Prop} (h : Spec P E f args heap Post) (X : List Chunk) : Spec P E f args (heap ++ X) (fun v hp => ∃ hp', Post v hp' ∧ hp = hp' ++ X) := by
  intro ro F H w h1 h2 h3
  obtain ⟨H1, H2, rfl, a1, a2⟩ := hsat_append.1 h1
  refine Calls.mono (h ro (H2 ++ F) H1 w a1 h2 (by simpa only [List.append_assoc] using h3)) fun e w' hf => ?_
  obtain ⟨v, hp', ro', H', e1, e2, e3, e4, e5, e6⟩ := hf
  exact ⟨v, hp' ++ X, ro', H' ++ H2, e1, ⟨hp', e2, rfl⟩, e3, e4, hsat_append.2 ⟨H', H2, rfl, e5, hsat_mono e3 a2⟩, by simpa only [List.append_assoc] using e6⟩
theorem c46p (b : Nat) (n : NL) {k j : Nat} (h : n.nd.fit k j) (hk1 : k ≤ 2 ^ 30) (kd : Int) (a : Option Addr) (cap : Nat) (xs : List UInt8) (hx : xs.length ≤ 2 ^ 40) :
    Spec Try.prog E 46 [.ptr 0 b 0, I kd, vB a cap xs] (nO b n) (fun v hp => v = I (n.rs.last + 1) ∧ ∃ n' : NL, n'.nd = n.nd.put kd xs ∧ n'.pm = n.pm ∧ n'.peers = n.peers ∧ hp = nO b n') := by
  have hg := fit_good h hk1
  have hlen : n.rs.es.length < 2 ^ 40 := by
    have := h.i1
    have h0 := h.i0
    have e : n.nd.last = n.rs.last := nd_last n
    have h0 : 0 ≤ n.rs.mIx := h0
    unfold RS.last at e
    omega
  have hd : n.rs.fitsD := fun e he => (hg.ok e he).1
  refine ((c46 b n.rs kd a cap xs hg.sm hd hx hlen).beside _).post ?_
  rintro v hp ⟨hp', ⟨rfl, la, lc, es', hsame, rfl⟩, rfl⟩
  exact ⟨rfl, n.logged la lc es' (if n.rs.fresh = 0 ∨ n.rs.last + 1 < n.rs.fresh then n.rs.last + 1 else n.rs.fresh), nd_put n hsame, rfl, rfl, rfl⟩
/-- one more is known of -/
theorem sees_known {M : Nat} {L : List PeL} {p : PeL} {H : Hp} {ro : RO} (h : (mpC kvI M (setE (L.map fun p => (p.id, .ptr 0 p.b 0)) p.id (.ptr 9 p.b 0))).sat ro H) (hn : p.id ∉ L.map PeL.id) : (pmC (some M) (L ++ [p])).sat ro H := by
  rw [setE_none fun q hq => by
    obtain ⟨x, hx, rfl⟩ := List.mem_map.1 hq
    exact fun he => hn (he ▸ List.mem_map_of_mem hx)] at h
  exact mpC_see (by simp) (by simp [SV.den]) (fun ro _ => by simp only [oks_iff]; intro s hs'; simp only [List.map_map, List.mem_map] at hs'; obtain ⟨f, _, rfl⟩ := hs'; simp only [Function.comp, SV.ok]) ro H h
set_option maxHeartbeats 2000000 in
theorem c55p (b : Nat) (n : NL) {k j : Nat} (h : n.nd.inv k j) (hk1 : k + 1 ≤ 2 ^ 30) (hj : j + 14 ≤ 2 ^ 28) :
    Spec Try.prog E 55 [.ptr 0 b 0] (nO b n) (fun _ hp => ∃ n' : NL, n'.nd = n.nd.elected ∧ hp = nO b n') := by
  refine Spec.see2 ?_
  generalize hP : SeeP _ = P
  have fin : ∀ (r : SV) (n' : NL) {X : List Chunk}, n'.nd = n.nd.elected → P r (nO b n' ++ X) := by
    intro r n' X h1
    rw [← hP]
    exact ⟨r, _, rfl, fun _ h => h, Sees.left, n', h1, rfl⟩
  have hg := fit_good h.toFit (show k ≤ 2 ^ 30 by omega)
  have hs := fit_small h.toFit (show k ≤ 2 ^ 30 by omega) (show j ≤ 2 ^ 28 by omega)
  have hla := nd_last n
  have hlk : n.rs.last ≤ k := by rw [← hla]; exact h.i1
  have hvt : n.votes.length ≤ 2 ^ 30 := by have := h.vt; have e : n.nd.votes = n.votes := rfl; rw [e] at this; omega
  refine spec_of (keep := k55) (args' := [.ptr 0 b 0]) Try.func55 rfl Try.ntmps55 s55_ok (by simp) ⟨rfl, fun _ h => h⟩ (fun _ _ h => h) (go_ok _ 100 _ _ ?_)
  simp only [go_sem, s55, k55, Nat.reduceBEq, Nat.reduceAdd, Nat.zero_add]
  intro bx
  refine (stp_call [0, 1, 2, 3, 4, 5, 6, 7] rfl rfl rfl ⟨_, Try.func73, rfl, rfl⟩ (c73a b 77 n [.ptr 7 bx 0] (.cells bx 24 [.ptr 0 b 0]) (fun v => decide (v ∈ n.votes)) hg ⟨_, Try.func77, rfl, rfl⟩ (fun v _ => c77n b bx n v hvt) (fun ro => by simp [SV.oks, SV.ok])) rfl (fun _ h => h) rfl (fun _ _ h => h) ?_).safe trivial
  rintro v hp ⟨rfl, rfl⟩
  refine ⟨trivial, go_ok _ 100 _ _ ?_⟩
  simp only [go_sem, Nat.reduceBEq, Nat.reduceAdd, Nat.zero_add, reduceCtorEq, Try.results55]
  have hmo : n.nd.most (fun v => n.nd.votes.contains v) = decide ((n.rs.vs n.o).length < 2 * ((n.rs.vs n.o).filter fun v => decide (v ∈ n.votes)).length) := by
    rw [nd_most hg]
    have e : (fun v => n.nd.votes.contains v) = fun v => decide (v ∈ n.votes) := by
      funext v
      show n.votes.contains v = _
      by_cases hv : v ∈ n.votes
      · rw [decide_eq_true hv]; exact List.contains_iff_mem.2 hv
      · rw [decide_eq_false hv]; simpa using hv
    rw [e]
  have hel : n.nd.elected = if n.nd.most (fun v => n.nd.votes.contains v) = true then (n.nd.leads.put 1 []).all.look else n.nd := rfl
  rw [hmo] at hel
  refine ⟨fun hm => ?_, fun hm => ?_⟩
  · rw [if_neg (by simpa using hm)] at hel
    exact fin _ n (X := [_]) hel.symm
  rw [if_pos (by simpa using hm)] at hel
  refine Stp.safeE (stp_mkmap fun bm => ⟨by simp only [recheck, recheck1, go_sem, Nat.reduceBEq, Nat.reduceAdd, Nat.zero_add], ?_⟩) rfl
  refine go_ok _ 3 _ _ ?_
  simp only [go_sem, Nat.reduceBEq, Nat.reduceAdd, Nat.zero_add]
  refine safe_sees (hp' := nO b (n.leads bm []) ++ [.cells bx 24 [.ptr 0 b 0]]) ?_ ?_
  · refine Sees.same (Sees.same (Sees.same (Sees.same (Sees.same ?_))))
    refine Sees.trans (Sees.perm (List.reverse_perm [mapC bm, .cells bx 24 [.ptr 0 b 0], sepC (n.peers.map peC), pmC n.pm n.peers])) ?_
    refine Sees.trans (Sees.left (a := [_, _]) (X := [_, _])) ?_
    exact Sees.cons (fun ro H h => ⟨H, [], by simp, mpI_nil ro bm H h⟩) (Sees.new sep_nil (Sees.refl _))
  refine go_ok _ 100 _ _ ?_
  simp only [go_sem, List.cons_append, List.nil_append, Nat.reduceBEq, Nat.reduceAdd, Nat.zero_add]
  have hg0 : ∀ L, (n.leads bm L).rs.good (n.leads bm L).o := fun L => ⟨⟨hg.sm.m0, hg.sm.m1, hg.sm.len⟩, hg.hm, hg.hf, hg.mv, hg.ml, hg.fv, hg.fl, hg.ix, hg.ok, hg.rd⟩
  refine (stp_call [0] rfl rfl rfl ⟨_, Try.func63, rfl, rfl⟩ (c63 8 b (n.leads bm []).rs (n.leads bm []).o (hg0 [])) rfl (fun _ h => h) rfl (fun _ _ h => h) ?_).safe trivial
  rintro v hp ⟨nl, b', off, cap', rfl, rfl⟩
  have hot : (n.leads bm []).rs.others (n.leads bm []).o = n.rs.others n.o := rfl
  have hoth := nd_others hg
  have hnd := h.toFit.others.1
  rw [hoth] at hnd
  rw [hot]
  have hvl := hg.vlen n.rs.last
  have hol : (n.rs.others n.o).length ≤ 7 := Nat.le_trans (List.length_filter_le _ _) hvl.2
  generalize hvs : n.rs.others n.o = vs at *
  refine ⟨trivial, go_ok _ 100 _ _ ?_⟩
  simp only [go_sem, List.cons_append, List.nil_append, Nat.reduceBEq, Nat.reduceAdd, Nat.zero_add, Try.results55]
  refine safe_loop (ι := W55 n vs) (fun g => ⟨[(1, .ptr 7 bx 0), (27, .osl 8 nl b' off vs.length cap'), (28, I vs.length), (29, I g.i)], nO b (n.leads bm g.L) ++ [.cells bx 24 [.ptr 0 b 0], .row nl b' 3 off 1 vs.length cap' (rowsV encI vs)]⟩) (fun g => vs.length - g.i)
    ⟨0, [], Nat.zero_le _, rfl⟩ (Sub.front (X := []) ⟨rfl, rfl, rfl, rfl, trivial⟩ rfl) ?_
  rintro ⟨i, L, hi, heq⟩
  have hpm : (n.leads bm L).pm = some bm := rfl
  have hrp : (n.leads bm L).rs.peers = .val (.map (some bm)) := rfl
  refine go_ok _ 100 _ _ ?_
  simp only [go_sem, hpm, hrp, pmC, List.cons_append, List.nil_append, Nat.reduceBEq, Nat.reduceAdd, Nat.zero_add, Int.toNat_natCast, Try.results55]
  refine ⟨fun hc => ?_, fun hc => ?_⟩
  · have hlt : i < vs.length := by simpa using hc
    refine ⟨by omega, by omega, ?_⟩
    have hlast : (n.leads bm L).rs.last = n.rs.last := rfl
    refine (stp_call [0] rfl rfl rfl ⟨_, Try.func40, rfl, rfl⟩ (c40 b (n.leads bm L).rs (hg0 L).sm) rfl (fun _ h => h) rfl (fun _ _ h => h) ?_).safe trivial
    rintro v hp ⟨rfl, rfl⟩
    refine ⟨by simp only [recheck, recheck1, go_sem, hrp, Nat.reduceBEq, Nat.reduceAdd, Nat.zero_add], go_ok _ 100 _ _ ?_⟩
    simp only [go_sem, hpm, hrp, hlast, Nat.reduceBEq, Nat.reduceAdd, Nat.zero_add, reduceCtorEq]
    have hl0 : 0 ≤ n.rs.last := by have := hs.sm.m0; unfold RS.last; omega
    refine ⟨by simp only [inI64]; omega, fun bk => ?_⟩
    have htk : (vs.take (i + 1)).map (fun v => (v, (⟨n.rs.last + 1, 0, 0⟩ : Rf.Pe))) = (vs.take i).map (fun v => (v, (⟨n.rs.last + 1, 0, 0⟩ : Rf.Pe))) ++ [(vs.getD i 0, ⟨n.rs.last + 1, 0, 0⟩)] := by
      rw [List.take_add_one, List.getElem?_eq_getElem hlt, List.map_append, List.getD_eq_getElem?_getD, List.getElem?_eq_getElem hlt]
      rfl
    have hids : L.map PeL.id = vs.take i := by
      have := congrArg (List.map (·.1)) heq
      rw [keys_pl, List.map_map] at this
      rw [this]
      have e : ((fun x : Int × Rf.Pe => x.1) ∘ fun v => (v, (⟨n.rs.last + 1, 0, 0⟩ : Rf.Pe))) = id := rfl
      rw [e, List.map_id]
    have hnew : vs.getD i 0 ∉ L.map PeL.id := by
      rw [hids]
      intro hm
      obtain ⟨x, hx, hx2⟩ := List.getElem_of_mem hm
      rw [List.length_take] at hx
      rw [List.getElem_take, List.getD_eq_getElem?_getD, List.getElem?_eq_getElem hlt] at hx2
      exact List.pairwise_iff_getElem.1 hnd x i (by omega) hlt (by omega) hx2
    refine (stp_mapset (K := kvI) (x := vs.getD i 0) (b := bm) (es := L.map fun p => (p.id, .ptr 0 p.b 0)) (v := .ptr 9 bk 0) (mo := .t 36) (ko := .t 37) (vo := .t 44) 5 rfl rfl rfl Try.underlying92 (by kernel_rfl) rfl rfl rfl rfl ?_ ?_).safeE rfl
    · trivial
    refine go_ok _ 100 _ _ ?_
    simp only [go_sem, Nat.reduceBEq, Nat.reduceAdd, Nat.zero_add, Try.results55]
    refine ⟨by simp only [inI64]; omega, ?_⟩
    refine safe_lend (⟨i + 1, L ++ [⟨vs.getD i 0, bk, n.rs.last + 1, 0, 0⟩], hlt, by rw [htk, List.map_append, heq]; rfl⟩ : W55 n vs) ?_ ?_
    · simp only; omega
    refine ⟨envDen_ok ⟨seen _ _ _ rfl, seen _ _ _ rfl, seen _ _ _ rfl, seen _ _ _ rfl, trivial⟩, ?_⟩
    refine Sees.same (Sees.same (Sees.same (Sees.same (Sees.same (Sees.cons (fun ro H hh => ⟨H, [], by simp, ?_⟩) ?_)))))
    · exact sees_known (p := ⟨vs.getD i 0, bk, n.rs.last + 1, 0, 0⟩) hh hnew
    · refine Sees.trans (Sees.perm (b := [sepC (L.map peC), peC ⟨vs.getD i 0, bk, n.rs.last + 1, 0, 0⟩, .cells bx 24 [.ptr 0 b 0], .row nl b' 3 off 1 vs.length cap' (rowsV encI vs)]) (List.Perm.cons _ ?_)) ?_
      · exact (List.perm_append_comm (l₁ := [Chunk.cells bx 24 [.ptr 0 b 0], .row nl b' 3 off 1 vs.length cap' (rowsV encI vs)]) (l₂ := [peC ⟨vs.getD i 0, bk, n.rs.last + 1, 0, 0⟩]))
      · refine Sees.trans Sees.bagEnd ?_
        show Sees _ (sepC ((L ++ [(⟨vs.getD i 0, bk, n.rs.last + 1, 0, 0⟩ : PeL)]).map peC) :: _)
        rw [List.map_append]
        exact Sees.refl _
  · have hii : i = vs.length := by have : ¬ (i : Int) < vs.length := of_decide_eq_false hc; omega
    subst hii
    rw [List.take_length] at heq
    have hnd1 : (n.leads bm L).nd = n.nd.leads := by
      show ({ (n.leads bm L).nd with peers := some (L.map fun p => (p.id, p.pl)) } : Rf.Nd) = { n.nd.leads with peers := some (n.nd.others.map fun v => (v, (⟨n.nd.last + 1, 0, 0⟩ : Rf.Pe))) }
      rw [heq, hoth, hla]
      rfl
    have hil := Rf.inv_leads h.toFit
    rw [← hnd1] at hil hel
    refine safe_sees (hp' := nO b (n.leads bm L) ++ [.cells bx 24 [.ptr 0 b 0], .row nl b' 3 off 1 vs.length cap' (rowsV encI vs)]) (Sees.refl _) ?_
    generalize n.leads bm L = N at *
    refine (stp_call [0, 1, 2, 3, 4, 5, 6] (args := [.ptr 0 b 0, I 1, vB none 0 []]) rfl rfl rfl ⟨_, Try.func46, rfl, rfl⟩ (c46p b N hil.toFit (by omega) 1 none 0 [] (by simp)) rfl (fun _ h => ?_) rfl (fun _ _ h => h) ?_).safe trivial
    · simp only [SV.oks, SV.ok, List.length_nil]
      exact ⟨trivial, trivial, ⟨Nat.le_refl _, fun i j hi => absurd hi (by omega)⟩, trivial⟩
    rintro v hp ⟨rfl, n1, hn1, -, -, rfl⟩
    have hi1 : (N.nd.put 1 []).inv (k + 1) j := Rf.inv_put hil ⟨by simp, fun c => by simp [Rf.beN]⟩ (by decide)
    rw [← hn1] at hi1 hel
    have hr1 : n1.nd.role = 2 := by
      rw [hn1, Rf.put_pushed, hnd1]; rfl
    refine ⟨trivial, go_ok _ 100 _ _ ?_⟩
    simp only [go_sem, List.cons_append, List.nil_append, Nat.reduceBEq, Nat.reduceAdd, Nat.zero_add]
    refine (stp_call [0, 1, 2, 3, 4, 5, 6] (args := [.ptr 0 b 0]) rfl rfl rfl ⟨_, Try.func41, rfl, rfl⟩ (c41p b n1 hi1.toFit (hi1.kn hr1) hk1 (by omega)) rfl (fun _ h => h) rfl (fun _ _ h => h) ?_).safe trivial
    rintro v hp ⟨w, l, hn2, rfl⟩
    have hi2 := Rf.inv_all hi1 hr1
    rw [← hn2] at hi2 hel
    generalize n1.sent w l = n2 at *
    refine ⟨trivial, go_ok _ 100 _ _ ?_⟩
    simp only [go_sem, List.cons_append, List.nil_append, Nat.reduceBEq, Nat.reduceAdd, Nat.zero_add]
    refine (stp_call [0, 1, 2, 3, 4, 5, 6] (args := [.ptr 0 b 0]) rfl rfl rfl ⟨_, Try.func47, rfl, rfl⟩ (c47p b n2 hi2 hk1 (by omega)) rfl (fun _ h => h) rfl (fun _ _ h => h) ?_).safe trivial
    rintro v hp ⟨n3, hn3, -, rfl⟩
    refine ⟨trivial, go_ok _ 100 _ _ ?_⟩
    simp only [go_sem, List.cons_append, List.nil_append, Nat.reduceBEq, Nat.reduceAdd, Nat.zero_add, Try.results55]
    exact fin _ n3 (X := [_, _]) (by rw [hn3, hel])
end Go.SX

/- Raft: who stands, ticks, by the plain model. -/
namespace Go.SX
open Go.Proofs
set_option maxRecDepth 1000000
variable {E : Env}

theorem Sees.skip {x : Chunk} {a b : List Chunk} (h : Sees a b) : Sees (x :: a) b := fun ro H hs => by
  obtain ⟨H1, H2, rfl, h1, h2⟩ := hs
  obtain ⟨K, X, r1, r2⟩ := h ro H2 h2
  refine ⟨K, X ++ H1, ?_, r2⟩
  rw [← List.append_assoc]
  exact (List.perm_append_comm).trans (List.Perm.append_right _ r1)
/-- one who stands -/
def NL.stands (n : NL) (w : Rw) : NL := ({ n.followed with s := { n.followed.s with hT := n.s.hT + 1, hV := n.s.id, role := 1 }, wv := w, votes := [n.s.id] } : NL).anew
theorem nd_stands (n : NL) (w : Rw) : (n.stands w).nd = n.nd.stands := rfl
structure W43 (n : NL) (vs : List Int) where
  i : Nat
  w : Rw
  l : List MsL
  hi : i ≤ vs.length
  hl : l.length = i
  nd : (n.sent w l).nd = (vs.take i).foldl (fun n v => n.send { kd := 1, to := v, ix := n.last, lt := n.term n.last }) n.nd
set_option maxHeartbeats 2000000 in
theorem c43p (b : Nat) (n : NL) {k j : Nat} (h : n.nd.fit k j) (hk1 : k + 2 ≤ 2 ^ 30) (hj : j + 21 ≤ 2 ^ 28) :
    Spec Try.prog E 43 [.ptr 0 b 0] (nO b n) (fun _ hp => ∃ n' : NL, n'.nd = n.nd.stand ∧ hp = nO b n') := by
  refine Spec.see2 ?_
  generalize hP : SeeP _ = P
  have fin : ∀ (r : SV) (n' : NL) {X : List Chunk}, n'.nd = n.nd.stand → P r (nO b n' ++ X) := by
    intro r n' X h1
    rw [← hP]
    exact ⟨r, _, rfl, fun _ h => h, Sees.left, n', h1, rfl⟩
  have hT0 : 0 ≤ n.s.hT := h.h0
  have hT1 : n.s.hT ≤ k := h.h1
  refine spec_of (keep := k43) (args' := [.ptr 0 b 0]) Try.func43 rfl Try.ntmps43 s43_ok (by simp) ⟨rfl, fun _ h => h⟩ (fun _ _ h => h) (go_ok _ 100 _ _ ?_)
  simp only [go_sem, s43, k43, Nat.reduceBEq, Nat.reduceAdd, Nat.zero_add]
  refine (stp_call [0, 1, 2, 3, 4, 5, 6] (args := [.ptr 0 b 0]) rfl rfl rfl ⟨_, Try.func51, rfl, rfl⟩ (c51n b n) rfl (fun _ h => h) rfl (fun _ _ h => h) ?_).safe trivial
  rintro v hp rfl
  refine ⟨trivial, go_ok _ 35 _ _ ?_⟩
  simp only [go_sem, List.cons_append, List.nil_append, Nat.reduceBEq, Nat.reduceAdd, Nat.zero_add]
  have hT' : n.followed.rs.hT = n.s.hT := rfl
  refine ⟨by simp only [inI64]; omega, fun b1 => ?_⟩
  refine go_ok _ 6 _ _ ?_
  simp only [go_sem, Nat.reduceBEq, Nat.reduceAdd, Nat.zero_add]
  refine safe_sees (hp' := nO b { n.followed with s := { n.followed.s with hT := n.s.hT + 1, hV := n.s.id, role := 1 }, wv := ⟨false, b1, 0, 1⟩, votes := [n.s.id] }) ?_ ?_
  · refine Sees.cons (fun ro H hh => ⟨H, [], by simp, cells_imp rfl (fun hk => ?_) hh⟩) ?_
    · simp only [RS.cs, NL.rs, Rw.sv, SV.oks, SV.ok, true_and, and_true] at hk ⊢
      exact hk
    · refine Sees.trans (Sees.perm (List.perm_append_comm (l₁ := [_, _, _, _, _, _]) (l₂ := [_]))) ?_
      refine Sees.cons (fun ro H hh => ⟨H, [], by simp, row_congr (fun i j hi hj => ?_) hh⟩) (Sees.skip (Sees.refl _))
      have hi1 : i < 1 := hi
      obtain rfl : i = 0 := by omega
      obtain rfl : j = 0 := by omega
      rfl
  refine go_ok _ 100 _ _ ?_
  simp only [go_sem, Nat.reduceBEq, Nat.reduceAdd, Nat.zero_add]
  refine (stp_call [0, 1, 2, 3, 4, 5, 6] (args := [.ptr 0 b 0]) rfl rfl rfl ⟨_, Try.func70, rfl, rfl⟩ (c70n b { n.followed with s := { n.followed.s with hT := n.s.hT + 1, hV := n.s.id, role := 1 }, wv := ⟨false, b1, 0, 1⟩, votes := [n.s.id] }) rfl (fun _ h => h) rfl (fun _ _ h => h) ?_).safe trivial
  rintro v hp rfl
  have hst := nd_stands n ⟨false, b1, 0, 1⟩
  have his := Rf.inv_stands h
  rw [← hst] at his
  have hstd : n.nd.stand = ((n.stands ⟨false, b1, 0, 1⟩).nd.others.foldl (fun n v => n.send { kd := 1, to := v, ix := n.last, lt := n.term n.last }) (n.stands ⟨false, b1, 0, 1⟩).nd).elected := rfl
  show _ ∧ Safe _ _ ⟨_, nO b (n.stands ⟨false, b1, 0, 1⟩)⟩
  generalize n.stands ⟨false, b1, 0, 1⟩ = N at *
  refine ⟨trivial, go_ok _ 100 _ _ ?_⟩
  simp only [go_sem, List.cons_append, List.nil_append, Nat.reduceBEq, Nat.reduceAdd, Nat.zero_add]
  have hg := fit_good his.toFit (by omega)
  refine (stp_call [0] rfl rfl rfl ⟨_, Try.func63, rfl, rfl⟩ (c63 7 b N.rs N.o hg) rfl (fun _ h => h) rfl (fun _ _ h => h) ?_).safe trivial
  rintro v hp ⟨nl, b', off, cap', rfl, rfl⟩
  have hoth := nd_others hg
  have hol := his.others.2.2
  rw [hoth] at hol hstd
  generalize hvs : N.rs.others N.o = vs at *
  refine ⟨trivial, go_ok _ 100 _ _ ?_⟩
  simp only [go_sem, List.cons_append, List.nil_append, Nat.reduceBEq, Nat.reduceAdd, Nat.zero_add]
  refine safe_loop (ι := W43 N vs) (fun g => ⟨[(0, .ptr 0 b 0), (37, .osl 7 nl b' off vs.length cap'), (38, I vs.length), (39, I g.i)], nO b (N.sent g.w g.l) ++ [.row nl b' 3 off 1 vs.length cap' (rowsV encI vs)]⟩) (fun g => vs.length - g.i)
    ⟨0, N.wm, [], Nat.zero_le _, rfl, by rw [sent_nil]; rfl⟩ (Sub.front (X := []) ⟨rfl, rfl, rfl, rfl, trivial⟩ (by simp only [sent_nil]; rfl)) ?_
  rintro ⟨i, w, l, hi, hl, hnd⟩
  refine go_ok _ 100 _ _ ?_
  simp only [go_sem, List.cons_append, List.nil_append, Nat.reduceBEq, Nat.reduceAdd, Nat.zero_add, Int.toNat_natCast, Try.results43]
  have his' : (N.sent w l).nd.inv (k + 1) (j + i) := by
    obtain ⟨l', h1, h2, h3⟩ := Rf.asks_more (vs.take i) j his.toFit
    rw [hnd, h1]
    exact (his.more h3).mono (Nat.le_refl _) (by rw [h2, List.length_take]; omega)
  have hg' := fit_good his'.toFit (by omega)
  refine ⟨fun hc => ?_, fun hc => ?_⟩
  · have hlt : i < vs.length := by simpa using hc
    refine ⟨by omega, by omega, ?_⟩
    refine (stp_call [0] rfl rfl rfl ⟨_, Try.func40, rfl, rfl⟩ (c40 b (N.sent w l).rs hg'.sm) rfl (fun _ h => h) rfl (fun _ _ h => h) ?_).safe trivial
    rintro v hp ⟨rfl, rfl⟩
    refine ⟨by simp only [recheck, recheck1, go_sem, Nat.reduceBEq, Nat.reduceAdd, Nat.zero_add], ?_⟩
    refine (stp_call [0] rfl rfl rfl ⟨_, Try.func40, rfl, rfl⟩ (c40 b (N.sent w l).rs hg'.sm) rfl (fun _ h => h) rfl (fun _ _ h => h) ?_).safe trivial
    rintro v hp ⟨rfl, rfl⟩
    refine ⟨by simp only [recheck, recheck1, go_sem, Nat.reduceBEq, Nat.reduceAdd, Nat.zero_add], ?_⟩
    have hlb : 0 ≤ (N.sent w l).rs.last ∧ (N.sent w l).rs.last ≤ 2 ^ 31 := by
      have h1 := his'.i1
      rw [nd_last] at h1
      have := hg'.sm.m0
      constructor
      · unfold RS.last; omega
      · omega
    refine (stp_call [0] rfl rfl rfl ⟨_, Try.func39, rfl, rfl⟩ (c39 b (N.sent w l).rs (N.sent w l).rs.last hg'.sm (by omega) (by omega)) rfl (fun _ h => h) rfl (fun _ _ h => h) ?_).safe trivial
    rintro v hp ⟨rfl, rfl⟩
    refine ⟨by simp only [recheck, recheck1, go_sem, Nat.reduceBEq, Nat.reduceAdd, Nat.zero_add], go_ok _ 100 _ _ ?_⟩
    simp only [go_sem, List.cons_append, List.nil_append, Nat.reduceBEq, Nat.reduceAdd, Nat.zero_add]
    refine (stp_call [0, 1, 2, 3, 4, 5, 6] (args := [.ptr 0 b 0, .agg (encM { (default : MsL) with kd := 1, to := vs.getD i 0, ix := (N.sent w l).rs.last, lt := (N.sent w l).rs.term (N.sent w l).rs.last })]) rfl rfl rfl ⟨_, Try.func71, rfl, rfl⟩
      (c71n b (N.sent w l) { (default : MsL) with kd := 1, to := vs.getD i 0, ix := (N.sent w l).rs.last, lt := (N.sent w l).rs.term (N.sent w l).rs.last } (fit_small his'.toFit (by omega) (by omega)).ms) rfl (fun ro h => ?_) rfl (fun _ _ h => h) ?_).safe trivial
    · simp only [SV.oks, SV.ok, encM, true_and, and_true]
      exact ⟨nilOk ro 4 _, nilOk ro 1 _, nilOk ro 1 _⟩
    rintro r hp ⟨w', rfl⟩
    rw [sent_sent]
    refine ⟨trivial, go_ok _ 100 _ _ ?_⟩
    simp only [go_sem, List.cons_append, List.nil_append, Nat.reduceBEq, Nat.reduceAdd, Nat.zero_add, Try.results43]
    refine ⟨by simp only [inI64]; omega, ?_⟩
    refine safe_lend (⟨i + 1, w', l ++ [_], hlt, by rw [List.length_append, hl]; rfl, ?_⟩ : W43 N vs) ?_ (Sub.front (X := []) ⟨rfl, rfl, rfl, rfl, trivial⟩ rfl)
    · rw [List.take_add_one, List.getElem?_eq_getElem hlt, List.foldl_append, ← hnd, ← sent_sent N w w']
      refine (nd_sent (N.sent w l) w' { (default : MsL) with kd := 1, to := vs.getD i 0, ix := (N.sent w l).rs.last, lt := (N.sent w l).rs.term (N.sent w l).rs.last }).trans ?_
      simp only [Option.toList_some, List.foldl_cons, List.foldl_nil]
      rw [nd_last, nd_term, List.getD_eq_getElem?_getD, List.getElem?_eq_getElem hlt]
      rfl
    · simp only; omega
  · have hii : i = vs.length := by have : ¬ (i : Int) < vs.length := of_decide_eq_false hc; omega
    subst hii
    rw [List.take_length] at hnd
    rw [← hnd] at hstd
    generalize N.sent w l = N1 at *
    refine (stp_call [0, 1, 2, 3, 4, 5, 6] (args := [.ptr 0 b 0]) rfl rfl rfl ⟨_, Try.func55, rfl, rfl⟩ (c55p b N1 his' (by omega) (by omega)) rfl (fun _ h => h) rfl (fun _ _ h => h) ?_).safe trivial
    rintro v hp ⟨n3, hn3, rfl⟩
    refine ⟨trivial, go_ok _ 100 _ _ ?_⟩
    simp only [go_sem, List.cons_append, List.nil_append, Nat.reduceBEq, Nat.reduceAdd, Nat.zero_add, Try.results43]
    exact fin _ n3 (X := [_]) (by rw [hn3, hstd])
end Go.SX

/- Raft: ticks, by the plain model. -/
namespace Go.SX
open Go.Proofs
set_option maxRecDepth 1000000
variable {E : Env}

def NL.drawn (n : NL) (x : Int) : NL := { n with s := { n.s with draw := Int.tmod (Int.tmod x 10 + 10) 10 } }
theorem nd_drawn (n : NL) (x : Int) : (n.drawn x).nd = n.nd.drawn x := rfl
def NL.beat (n : NL) (x : Int) : NL := { n with s := { n.s with beats := x } }
def NL.ticked (n : NL) : NL := { n with s := { n.s with ticks := n.s.ticks + 1 } }
set_option maxHeartbeats 2000000 in
theorem c15p (b : Nat) (n : NL) (x : Int) {k j : Nat} (h : n.nd.inv k j) (hk1 : k + 3 ≤ 2 ^ 30) (hj : j + 21 ≤ 2 ^ 28) :
    Spec Try.prog E 15 [.ptr 0 b 0, I x] (nO b n) (fun _ hp => ∃ n' : NL, n'.nd = n.nd.tick x ∧ hp = nO b n') := by
  have hx : -10 < Int.tmod x 10 ∧ Int.tmod x 10 < 10 := by
    constructor
    · exact (Int.neg_lt_of_neg_lt (Int.neg_tmod x 10 ▸ Int.tmod_lt_of_pos (-x) (by decide)))
    · exact Int.tmod_lt_of_pos x (by decide)
  have h1 := Rf.inv_drawn h x
  rw [← nd_drawn] at h1
  have e : n.nd.tick x = if (n.drawn x).s.role = 2 then (if 3 ≤ (n.drawn x).s.beats + 1 then ((n.drawn x).beat 0).nd.all else ((n.drawn x).beat ((n.drawn x).s.beats + 1)).nd)
      else if 10 + (n.drawn x).s.taken ≤ (n.drawn x).s.ticks + 1 ∧ (n.drawn x).ticked.nd.voter = true then (n.drawn x).ticked.nd.stand else (n.drawn x).ticked.nd := rfl
  refine Spec.see2 ?_
  generalize hP : SeeP _ = P
  have fin : ∀ (r : SV) (n' : NL) {X : List Chunk}, n'.nd = n.nd.tick x → P r (nO b n' ++ X) := by
    intro r n' X h1
    rw [← hP]
    exact ⟨r, _, rfl, fun _ h => h, Sees.left, n', h1, rfl⟩
  refine spec_of (keep := k15) (args' := [.ptr 0 b 0, I x]) Try.func15 rfl Try.ntmps15 s15_ok (by simp) ⟨rfl, fun _ h => h⟩ (fun _ _ h => h) (go_ok _ 14 _ _ ?_)
  simp only [go_sem, s15, k15, Nat.reduceBEq, Nat.reduceAdd, Nat.zero_add, Try.results15]
  refine ⟨by decide, by simp only [inI64]; omega, by decide, ?_⟩
  refine safe_sees (hp' := nO b (n.drawn x)) (Sees.refl _) ?_
  generalize n.drawn x = N at *
  have htk0 : 0 ≤ N.s.ticks := h1.tk0
  have htk1 : N.s.ticks ≤ k := h1.tk1
  have htn0 : 0 ≤ N.s.taken := h1.tn0
  have htn1 : N.s.taken ≤ 9 := h1.tn1
  have hb0 : 0 ≤ N.s.beats := h1.be0
  have hb1 : N.s.beats ≤ 2 := h1.be1
  refine go_ok _ 22 _ _ ?_
  simp only [go_sem, Nat.reduceBEq, Nat.reduceAdd, Nat.zero_add, Try.results15]
  refine ⟨fun hr => ⟨by simp only [inI64]; have e1 : N.rs.beats = N.s.beats := rfl; omega, ?_⟩, fun hr => ⟨by simp only [inI64]; have e1 : N.rs.ticks = N.s.ticks := rfl; omega, ?_⟩⟩
  · have hr' : N.s.role = 2 := of_decide_eq_true hr
    rw [if_pos hr'] at e
    refine safe_sees (hp' := nO b (N.beat (N.s.beats + 1))) (Sees.refl _) ?_
    have hbe : (N.beat (N.s.beats + 1)).rs.beats = N.s.beats + 1 := rfl
    refine go_ok _ 100 _ _ ?_
    simp only [go_sem, hbe, Nat.reduceBEq, Nat.reduceAdd, Nat.zero_add, Try.results15]
    refine ⟨fun hb => ?_, fun hb => ?_⟩
    · rw [if_pos (of_decide_eq_true hb)] at e
      have h2 : (N.beat 0).nd.inv k j := ⟨{ h1.toFit with be0 := Int.le_refl 0, be1 := show (0 : Int) ≤ 2 by decide }, h1.ro, h1.kn⟩
      refine (stp_call [0, 1, 2, 3, 4, 5, 6] (args := [.ptr 0 b 0]) rfl rfl rfl ⟨_, Try.func41, rfl, rfl⟩ (c41p b (N.beat 0) h2.toFit (h2.kn hr') (by omega) (by omega)) rfl (fun _ h => h) rfl (fun _ _ h => h) ?_).safe trivial
      rintro v hp ⟨w, l, hnd, rfl⟩
      refine ⟨trivial, go_ok _ 100 _ _ ?_⟩
      simp only [go_sem, List.cons_append, List.nil_append, Nat.reduceBEq, Nat.reduceAdd, Nat.zero_add, Try.results15]
      exact fin _ ((N.beat 0).sent w l) (X := []) (by rw [hnd, e])
    · rw [if_neg (of_decide_eq_false hb)] at e
      exact fin _ (N.beat (N.s.beats + 1)) (X := []) e.symm
  · have hr' : ¬ N.s.role = 2 := of_decide_eq_false hr
    rw [if_neg hr'] at e
    refine safe_sees (hp' := nO b N.ticked) (Sees.refl _) ?_
    have h2 : N.ticked.nd.inv (k + 1) j :=
      ⟨{ (h1.mono (Nat.le_succ k) (Nat.le_refl j)).toFit with tk0 := by show 0 ≤ N.s.ticks + 1; omega, tk1 := by show N.s.ticks + 1 ≤ _; omega }, h1.ro, h1.kn⟩
    have hg := fit_good h2.toFit (by omega)
    have hti : N.ticked.rs.ticks = N.s.ticks + 1 := rfl
    have hta : N.ticked.rs.taken = N.s.taken := rfl
    have hvo := nd_voter hg
    rw [hvo] at e
    refine go_ok _ 100 _ _ ?_
    simp only [go_sem, hti, hta, Nat.reduceBEq, Nat.reduceAdd, Nat.zero_add, Try.results15]
    refine ⟨by simp only [inI64]; omega, fun hd => ?_, fun hd => ?_, rfl⟩
    · refine (stp_call [0] (args := [.ptr 0 b 0]) rfl rfl rfl ⟨_, Try.func42, rfl, rfl⟩ (c42 b N.ticked.rs N.ticked.o hg) (by simp [SV.dens, SV.den, hd]) (fun _ h => by simp [SV.oks, SV.ok]) rfl (fun _ _ h => h) ?_).safeOn trivial
      rintro v hp ⟨rfl, rfl⟩
      refine ⟨trivial, go_ok _ 100 _ _ ?_⟩
      simp only [go_sem, List.cons_append, List.nil_append, Nat.reduceBEq, Nat.reduceAdd, Nat.zero_add, reduceCtorEq, hd, Try.results15]
      refine ⟨fun hv => ?_, fun hv => ?_⟩
      · rw [if_pos ⟨of_decide_eq_true hd, hv⟩] at e
        refine (stp_call [0, 1, 2, 3, 4, 5, 6] (args := [.ptr 0 b 0]) rfl rfl rfl ⟨_, Try.func43, rfl, rfl⟩ (c43p b N.ticked h2.toFit (by omega) hj) rfl (fun _ h => h) rfl (fun _ _ h => h) ?_).safe trivial
        rintro v hp ⟨n3, hn3, rfl⟩
        refine ⟨trivial, go_ok _ 100 _ _ ?_⟩
        simp only [go_sem, List.cons_append, List.nil_append, Nat.reduceBEq, Nat.reduceAdd, Nat.zero_add, Try.results15]
        exact fin _ n3 (X := []) (by rw [hn3, e])
      · rw [if_neg (fun q => by rw [q.2] at hv; cases hv)] at e
        exact fin _ N.ticked (X := []) e.symm
    · rw [if_neg (fun q => of_decide_eq_false hd q.1)] at e
      exact ⟨fun h => (by rw [hd] at h; cases h), fin _ N.ticked (X := []) e.symm⟩
end Go.SX

/- Raft: what is proposed, what is read, by the plain model. -/
namespace Go.SX
open Go.Proofs
set_option maxRecDepth 1000000
variable {E : Env}

set_option maxHeartbeats 2000000 in
theorem c17p (b : Nat) (n : NL) (a : Option Addr) (cap : Nat) (xs : List UInt8) {k j : Nat} (h : n.nd.inv k j) (hx : xs.length ≤ 65536 → Rf.okB xs) (hx2 : xs.length ≤ 2 ^ 40) (hk1 : k + 1 ≤ 2 ^ 30) (hj : j + 14 ≤ 2 ^ 28) :
    Spec Try.prog E 17 [.ptr 0 b 0, vB a cap xs] (nO b n) (fun v hp => v = .tup [I (n.nd.propose xs).1.1, I (n.nd.propose xs).1.2.1, I (n.nd.propose xs).1.2.2] ∧ ∃ n' : NL, n'.nd = (n.nd.propose xs).2 ∧ hp = nO b n') := by
  refine Spec.see2 ?_
  generalize hP : SeeP _ = P
  have fin : ∀ (n' : NL) (r : (Int × Int × Int) × Rf.Nd) {X : List Chunk}, n.nd.propose xs = r → n'.nd = r.2 → P (.tup [I r.1.1, I r.1.2.1, I r.1.2.2]) (nO b n' ++ X) := by
    intro n' r X h1 h2
    rw [← hP]
    refine ⟨_, _, rfl, fun _ h => h, Sees.left, ?_, n', ?_, rfl⟩
    · rw [h1]
    · rw [h1, h2]
  have hg := fit_good h.toFit (show k ≤ 2 ^ 30 by omega)
  have hs := fit_small h.toFit (show k ≤ 2 ^ 30 by omega) (show j ≤ 2 ^ 28 by omega)
  have hla := nd_last n
  have hc0 : 0 ≤ n.s.hC := h.c0
  have hc1 : n.s.hC ≤ n.rs.last := by rw [← hla]; exact h.c1
  have hlk : n.rs.last ≤ k := by rw [← hla]; exact h.i1
  have hcs : n.rs.hC = n.s.hC := rfl
  refine spec_of (keep := k17) (args' := [.ptr 0 b 0, vB a cap xs]) Try.func17 rfl Try.ntmps17 s17_ok (by simp) ⟨rfl, fun _ h => h⟩ (fun _ _ h => h) (go_ok _ 100 _ _ ?_)
  simp only [go_sem, s17, k17, Nat.reduceBEq, Nat.reduceAdd, Nat.zero_add, Try.results17]
  refine ⟨fun hr => ?_, fun hr => ⟨fun hl => ?_, fun hl => ?_⟩⟩
  · have hr0 : n.rs.role ≠ 2 := by simpa using hr
    have hr' : n.nd.role ≠ 2 := hr0
    exact fin n ((0, 0, 21), n.nd) (X := []) (by unfold Rf.Nd.propose; rw [if_pos hr']) rfl
  · have hr0 : n.rs.role = 2 := by simpa using hr
    have hr' : n.nd.role = 2 := hr0
    have hl' : 65536 < xs.length := by simp at hl; omega
    exact fin n ((0, 0, 5), n.nd) (X := []) (by unfold Rf.Nd.propose; rw [if_neg (by simpa using hr'), if_pos hl']) rfl
  have hr0 : n.rs.role = 2 := by simpa using hr
  have hr' : n.nd.role = 2 := hr0
  have hl' : ¬ 65536 < xs.length := by simp at hl; omega
  refine (stp_call [0] rfl rfl rfl ⟨_, Try.func40, rfl, rfl⟩ (c40 b n.rs hs.sm) rfl (fun _ h => h) rfl (fun _ _ h => h) ?_).safe trivial
  rintro v hp ⟨rfl, rfl⟩
  refine ⟨by simp only [recheck, recheck1, go_sem, Nat.reduceBEq, Nat.reduceAdd, Nat.zero_add], go_ok _ 100 _ _ ?_⟩
  simp only [go_sem, Nat.reduceBEq, Nat.reduceAdd, Nat.zero_add, Try.results17]
  refine ⟨by simp only [inI64]; omega, fun hw => ?_, fun hw => ?_⟩
  · have hw' : 64 ≤ n.nd.last - n.nd.hd.cm := by rw [hla]; exact of_decide_eq_true hw
    exact fin n ((0, 0, 14), n.nd) (X := []) (by unfold Rf.Nd.propose; rw [if_neg (by simpa using hr'), if_neg hl', if_pos hw']) rfl
  have hw' : ¬ 64 ≤ n.nd.last - n.nd.hd.cm := by rw [hla]; exact of_decide_eq_false hw
  have hpr : n.nd.propose xs = ((n.nd.last + 1, n.nd.hd.tm, 0), (n.nd.put 0 xs).all.look) := by
    unfold Rf.Nd.propose; rw [if_neg (by simpa using hr'), if_neg hl', if_neg hw']
  refine (stp_call [0, 1, 2, 3, 4, 5, 6] (args := [.ptr 0 b 0, I 0, vB a cap xs]) rfl rfl rfl ⟨_, Try.func46, rfl, rfl⟩ (c46p b n h.toFit (by omega) 0 a cap xs hx2) rfl (fun _ h => h) rfl (fun _ _ h => h) ?_).safe trivial
  rintro v hp ⟨rfl, n1, hn1, -, -, rfl⟩
  have hi1 : (n.nd.put 0 xs).inv (k + 1) j := Rf.inv_put h (hx (by omega)) (by decide)
  rw [← hn1] at hi1 hpr
  have hr1 : n1.nd.role = 2 := by rw [hn1, Rf.put_pushed]; exact hr'
  have hhT : n1.rs.hT = n.s.hT := by
    have : n1.nd.hd = n.nd.hd := by rw [hn1, Rf.put_pushed]; rfl
    exact congrArg Rf.Ha.tm this
  refine ⟨by simp only [recheck, recheck1, go_sem, hhT, Nat.reduceBEq, Nat.reduceAdd, Nat.zero_add]; rfl, go_ok _ 100 _ _ ?_⟩
  simp only [go_sem, List.cons_append, List.nil_append, Nat.reduceBEq, Nat.reduceAdd, Nat.zero_add]
  refine ⟨by rw [hhT]; rfl, ?_⟩
  refine (stp_call [0, 1, 2, 3, 4, 5, 6] (args := [.ptr 0 b 0]) rfl rfl rfl ⟨_, Try.func41, rfl, rfl⟩ (c41p b n1 hi1.toFit (hi1.kn hr1) hk1 (by omega)) rfl (fun _ h => h) rfl (fun _ _ h => h) ?_).safe trivial
  rintro v hp ⟨w, l, hn2, rfl⟩
  have hi2 := Rf.inv_all hi1 hr1
  rw [← hn2] at hi2 hpr
  generalize n1.sent w l = n2 at *
  refine ⟨trivial, go_ok _ 100 _ _ ?_⟩
  simp only [go_sem, List.cons_append, List.nil_append, Nat.reduceBEq, Nat.reduceAdd, Nat.zero_add]
  refine (stp_call [0, 1, 2, 3, 4, 5, 6] (args := [.ptr 0 b 0]) rfl rfl rfl ⟨_, Try.func47, rfl, rfl⟩ (c47p b n2 hi2 hk1 (by omega)) rfl (fun _ h => h) rfl (fun _ _ h => h) ?_).safe trivial
  rintro v hp ⟨n3, hn3, -, rfl⟩
  refine ⟨trivial, go_ok _ 100 _ _ ?_⟩
  simp only [go_sem, List.cons_append, List.nil_append, Nat.reduceBEq, Nat.reduceAdd, Nat.zero_add, Try.results17]
  have := fin n3 ((n.nd.last + 1, n.nd.hd.tm, 0), n2.nd.look) (X := []) hpr hn3
  rw [hla] at this
  exact this

def NL.asks (n : NL) (ww : Rw) (x : Int) : NL := { n with s := { n.s with round := n.s.round + 1 }, ww := ww, waits := n.waits ++ [(x, n.s.hC, n.s.round + 1)] }
theorem nd_asks (n : NL) (ww : Rw) (x : Int) : (n.asks ww x).nd = n.nd.asks x := by
  simp only [NL.nd, NL.asks, Rf.Nd.asks, List.map_append, List.map_cons, List.map_nil]
set_option maxHeartbeats 2000000 in
theorem c18p (b : Nat) (n : NL) (x : Int) {k j : Nat} (h : n.nd.inv k j) (hk1 : k + 1 ≤ 2 ^ 30) (hj : j + 7 ≤ 2 ^ 28) :
    Spec Try.prog E 18 [.ptr 0 b 0, I x] (nO b n) (fun v hp => v = I (n.nd.read x).1 ∧ ∃ n' : NL, n'.nd = (n.nd.read x).2 ∧ hp = nO b n') := by
  refine Spec.see2 ?_
  generalize hP : SeeP _ = P
  have fin : ∀ (n' : NL) (r : Int × Rf.Nd) {X : List Chunk}, n.nd.read x = r → n'.nd = r.2 → P (I r.1) (nO b n' ++ X) := by
    intro n' r X h1 h2
    rw [← hP]
    refine ⟨_, _, rfl, fun _ h => h, Sees.left, ?_, n', ?_, rfl⟩
    · rw [h1]
    · rw [h1, h2]
  have hg := fit_good h.toFit (show k ≤ 2 ^ 30 by omega)
  have hs := fit_small h.toFit (show k ≤ 2 ^ 30 by omega) (show j ≤ 2 ^ 28 by omega)
  have hla := nd_last n
  have hc0 : 0 ≤ n.s.hC := h.c0
  have hc1 : n.s.hC ≤ n.rs.last := by rw [← hla]; exact h.c1
  have hlk : n.rs.last ≤ k := by rw [← hla]; exact h.i1
  have hcs : n.rs.hC = n.s.hC := rfl
  have hrd : n.rs.round = n.s.round := rfl
  have hr0 : 0 ≤ n.s.round := h.r0
  have hr1 : n.s.round ≤ k := h.r1
  have hnw : n.nd.waits.length = n.waits.length := by show (n.waits.map _).length = _; rw [List.length_map]
  have hwl : n.waits.length + n.reads.length ≤ k := by
    have := h.wt
    have e2 : n.nd.reads.length = n.reads.length := rfl
    omega
  have hterm : n.nd.term n.nd.hd.cm = n.rs.term n.s.hC := nd_term n _
  have hww : n.rs.waits = .osl 2 n.ww.nl n.ww.b n.ww.off n.waits.length n.ww.cap := rfl
  refine spec_of (keep := k18) (args' := [.ptr 0 b 0, I x]) Try.func18 rfl Try.ntmps18 s18_ok (by simp) ⟨rfl, fun _ h => h⟩ (fun _ _ h => h) (go_ok _ 100 _ _ ?_)
  simp only [go_sem, s18, k18, Nat.reduceBEq, Nat.reduceAdd, Nat.zero_add, Try.results18]
  refine ⟨fun hr => ?_, fun hr => ?_⟩
  · have hr0 : n.rs.role ≠ 2 := by simpa using hr
    have hr' : n.nd.role ≠ 2 := hr0
    exact fin n (21, n.nd) (X := []) (by unfold Rf.Nd.read; rw [if_pos hr']) rfl
  have hro0 : n.rs.role = 2 := by simpa using hr
  have hr' : n.nd.role = 2 := hro0
  refine (stp_call [0] rfl rfl rfl ⟨_, Try.func39, rfl, rfl⟩ (c39 b n.rs n.s.hC hs.sm (by omega) (by omega)) rfl (fun _ h => h) rfl (fun _ _ h => h) ?_).safe trivial
  rintro v hp ⟨rfl, rfl⟩
  refine ⟨by simp only [recheck, recheck1, go_sem, Nat.reduceBEq, Nat.reduceAdd, Nat.zero_add], go_ok _ 100 _ _ ?_⟩
  simp only [go_sem, hww, Nat.reduceBEq, Nat.reduceAdd, Nat.zero_add, Try.results18]
  refine ⟨fun ht => ?_, fun ht => ⟨fun hw => ?_, fun hw => ?_⟩⟩
  · have ht' : n.nd.term n.nd.hd.cm ≠ n.nd.hd.tm := by rw [hterm]; show (n.rs.term n.s.hC ≠ n.rs.hT); simpa using ht
    exact fin n (23, n.nd) (X := []) (by unfold Rf.Nd.read; rw [if_neg (by simpa using hr'), if_pos ht']) rfl
  · have ht' : ¬ n.nd.term n.nd.hd.cm ≠ n.nd.hd.tm := by rw [hterm]; show ¬ (n.rs.term n.s.hC ≠ n.rs.hT); simpa using ht
    have hw' : 64 ≤ n.nd.waits.length := by rw [hnw]; simp at hw; omega
    exact fin n (4, n.nd) (X := []) (by unfold Rf.Nd.read; rw [if_neg (by simpa using hr'), if_neg ht', if_pos hw']) rfl
  have ht' : ¬ n.nd.term n.nd.hd.cm ≠ n.nd.hd.tm := by rw [hterm]; show ¬ (n.rs.term n.s.hC ≠ n.rs.hT); simpa using ht
  have hw' : ¬ 64 ≤ n.nd.waits.length := by rw [hnw]; simp at hw; omega
  have hpr : n.nd.read x = (0, (n.nd.asks x).all.confirm) := by
    unfold Rf.Nd.read; rw [if_neg (by simpa using hr'), if_neg ht', if_neg hw']; rfl
  refine ⟨by simp only [inI64]; omega, fun b1 => ?_⟩
  refine (stp_app2 (c := 2) (b := n.ww.b) (off := n.ww.off) (nl := n.ww.nl) (n := n.waits.length) (cap := n.ww.cap) (x := .osl 7 false b1 0 1 1) (gx := litF 3 [I x, I n.s.hC, I (n.s.round + 1)]) (m := 1) (f := rowsV encW n.waits) (f2 := rowsV encW (n.waits ++ [(x, n.s.hC, n.s.round + 1)])) (N := n.waits.length + 1) rfl rfl rfl rfl ⟨rfl, rfl, rfl, rfl, by decide⟩ (fun i j hi hj => ?_) (by omega) rfl (fun i j hi hj => app_one (enc := encW) (y := (x, n.s.hC, n.s.round + 1)) i j hi hj) fun nl' b' off' cap' => ?_).safe trivial
  · obtain rfl : i = 0 := by omega
    have h15 : j = 0 ∨ j = 1 ∨ j = 2 := by omega
    rcases h15 with rfl | rfl | rfl <;> simp [litF, one, Value.oneCell']
  refine ⟨by simp only [recheck, recheck1, go_sem, Nat.reduceBEq, Nat.reduceAdd, Nat.zero_add], go_ok _ 3 _ _ ?_⟩
  simp only [go_sem, Nat.reduceBEq, Nat.reduceAdd, Nat.zero_add, reduceCtorEq, Try.results18]
  refine safe_sees (hp' := nO b (n.asks ⟨nl', b', off', cap'⟩ x)) ?_ ?_
  · refine Sees.trans (Sees.left (a := [_, _, _, _, _, _, _]) (X := [_])) ?_
    simp only [nO, NL.asks, NL.rs, Rw.ch, Rw.sv, List.length_append, List.length_singleton]
    exact Sees.refl _
  have hi1 := Rf.inv_asks h x
  rw [← nd_asks n ⟨nl', b', off', cap'⟩] at hi1 hpr
  have hr1 : (n.asks ⟨nl', b', off', cap'⟩ x).nd.role = 2 := hr'
  generalize n.asks ⟨nl', b', off', cap'⟩ x = n1 at *
  refine go_ok _ 100 _ _ ?_
  simp only [go_sem, List.cons_append, List.nil_append, Nat.reduceBEq, Nat.reduceAdd, Nat.zero_add]
  refine (stp_call [0, 1, 2, 3, 4, 5, 6] (args := [.ptr 0 b 0]) rfl rfl rfl ⟨_, Try.func41, rfl, rfl⟩ (c41p b n1 hi1.toFit (hi1.kn hr1) hk1 (by omega)) rfl (fun _ h => h) rfl (fun _ _ h => h) ?_).safe trivial
  rintro v hp ⟨w, l, hn2, rfl⟩
  have hi2 := Rf.inv_all hi1 hr1
  rw [← hn2] at hi2 hpr
  have hr2 : (n1.sent w l).s.role = 2 := hr1
  generalize n1.sent w l = n2 at *
  refine ⟨trivial, go_ok _ 100 _ _ ?_⟩
  simp only [go_sem, List.cons_append, List.nil_append, Nat.reduceBEq, Nat.reduceAdd, Nat.zero_add]
  refine (stp_call [0, 1, 2, 3, 4, 5, 6] (args := [.ptr 0 b 0]) rfl rfl rfl ⟨_, Try.func48, rfl, rfl⟩ (c48p b n2 hi2 hr2 hk1) rfl (fun _ h => h) rfl (fun _ _ h => h) ?_).safe trivial
  rintro v hp ⟨ww, wr, ws, rs, hn3, rfl⟩
  refine ⟨trivial, go_ok _ 100 _ _ ?_⟩
  simp only [go_sem, List.cons_append, List.nil_append, Nat.reduceBEq, Nat.reduceAdd, Nat.zero_add, Try.results18]
  exact fin (n2.waited ww ws wr rs) (0, n2.nd.confirm) (X := []) hpr hn3
end Go.SX

/- Raft: votes, by the plain model. -/
namespace Go.SX
open Go.Proofs
set_option maxRecDepth 1000000
variable {E : Env}

def RS.grantsM (s : RS) (m : MsL) : Bool := (decide (s.hV = -1) || decide (s.hV = m.fr)) && (decide (s.term s.last < m.lt) || decide (m.lt = s.term s.last) && decide (s.last ≤ m.ix))
theorem nd_grants (n : NL) (m : MsL) : n.nd.grants m.pl = n.rs.grantsM m := by
  unfold Rf.Nd.grants RS.grantsM
  rw [nd_last, nd_term]
  rfl
def NL.votedM (n : NL) (m : MsL) : NL := { n with s := { n.s with hV := m.fr } }
set_option maxHeartbeats 2000000 in
theorem c53p (b : Nat) (n : NL) (m : MsL) {k j : Nat} (h : n.nd.inv k j) (hk1 : k ≤ 2 ^ 30) (hj : j ≤ 2 ^ 28) :
    Spec Try.prog E 53 [.ptr 0 b 0, .agg (encM m)] (nO b n) (fun _ hp => ∃ n' : NL, n'.nd = n.nd.vote m.pl ∧ hp = nO b n') := by
  refine Spec.see2 ?_
  generalize hP : SeeP _ = P
  have fin : ∀ (r : SV) (n' : NL) {X : List Chunk}, n'.nd = n.nd.vote m.pl → P r (nO b n' ++ X) := by
    intro r n' X h1
    rw [← hP]
    exact ⟨r, _, rfl, fun _ h => h, Sees.left, n', h1, rfl⟩
  have hg := fit_good h.toFit hk1
  have hs := fit_small h.toFit hk1 hj
  have hla := nd_last n
  have hlk : n.rs.last ≤ k := by rw [← hla]; exact h.i1
  have hla0 : 0 ≤ n.rs.last := by
    obtain ⟨m0, m1, m2⟩ := hs.sm
    simp only [RS.last]
    omega
  have hvo : n.nd.vote m.pl = ((if n.rs.grantsM m = true then (if n.s.role ≠ 2 then (n.votedM m).anew.nd else (n.votedM m).nd) else n.nd) : Rf.Nd).send ({ (default : MsL) with kd := 2, to := m.fr, ok := n.rs.grantsM m } : MsL).pl := by
    unfold Rf.Nd.vote
    rw [nd_grants]
    rfl
  refine spec_of (keep := k53) (args' := [.ptr 0 b 0, .agg (encM m)]) Try.func53 rfl Try.ntmps53 s53_ok (by simp) ⟨rfl, fun _ h => h⟩ (fun _ _ h => h) (go_ok _ 100 _ _ ?_)
  simp only [go_sem, s53, k53, Nat.reduceBEq, Nat.reduceAdd, Nat.zero_add, Try.results53]
  intro b1
  refine (stp_call [0] rfl rfl rfl ⟨_, Try.func40, rfl, rfl⟩ (c40 b n.rs hs.sm) rfl (fun _ h => h) rfl (fun _ _ h => h) ?_).safe trivial
  rintro v hp ⟨rfl, rfl⟩
  refine ⟨by simp only [recheck, recheck1, go_sem, Nat.reduceBEq, Nat.reduceAdd, Nat.zero_add], ?_⟩
  refine (stp_call [0] rfl rfl rfl ⟨_, Try.func39, rfl, rfl⟩ (c39 b n.rs n.rs.last hs.sm (by omega) (by omega)) rfl (fun _ h => h) rfl (fun _ _ h => h) ?_).safe trivial
  rintro v hp ⟨rfl, rfl⟩
  refine ⟨trivial, go_ok _ 4 _ _ ?_⟩
  simp only [go_sem, Nat.reduceBEq, Nat.reduceAdd, Nat.zero_add]
  refine safe_ops_mid ⟨[(0, .ptr 0 b 0), (3, .ptr 7 b1 0), (4, I (n.rs.term n.rs.last)), (5, Bl (n.rs.grantsM m))], nO b n ++ [.cells b1 54 (encM m)]⟩ ?_ ?_
  · refine go_ok _ 100 _ _ ?_
    simp only [go_sem, List.cons_append, List.nil_append, Nat.reduceBEq, Nat.reduceAdd, Nat.zero_add, Try.results53]
    have hfin : ∀ (N : NL), N.msgs = n.msgs → n.nd.vote m.pl = N.nd.send ({ (default : MsL) with kd := 2, to := m.fr, ok := n.rs.grantsM m } : MsL).pl →
        Spec Try.prog E 71 [.ptr 0 b 0, .agg (encM { (default : MsL) with kd := 2, to := m.fr, ok := n.rs.grantsM m })] (nO b N) (fun _ hp => ∃ n' : NL, n'.nd = n.nd.vote m.pl ∧ hp = nO b n') := by
      intro N hN hv
      refine (c71n b N { (default : MsL) with kd := 2, to := m.fr, ok := n.rs.grantsM m } (by rw [hN]; exact hs.ms)).post ?_
      rintro v hp ⟨w, rfl⟩
      exact ⟨_, by rw [hv, nd_sent], rfl⟩
    have hok : ∀ ro, SV.oks ro (encM { (default : MsL) with kd := 2, to := m.fr, ok := n.rs.grantsM m }) := by
      intro ro
      simp only [SV.oks, SV.ok, encM, true_and, and_true]
      exact ⟨nilOk ro 4 _, nilOk ro 1 _, nilOk ro 1 _⟩
    refine ⟨fun hg => ⟨fun hr => ?_, fun hr => ?_⟩, fun hg => ?_⟩
    · have hr' : n.s.role ≠ 2 := by have : n.rs.role ≠ 2 := by simpa using hr
                                    exact this
      rw [if_pos hg, if_pos hr'] at hvo
      refine (stp_call [0, 1, 2, 3, 4, 5, 6] (args := [.ptr 0 b 0]) rfl rfl rfl ⟨_, Try.func70, rfl, rfl⟩ (c70n b (n.votedM m)) rfl (fun _ h => h) rfl (fun _ _ h => h) ?_).safe trivial
      rintro v hp rfl
      refine ⟨trivial, go_ok _ 100 _ _ ?_⟩
      simp only [go_sem, List.cons_append, List.nil_append, Nat.reduceBEq, Nat.reduceAdd, Nat.zero_add]
      refine (stp_call [0, 1, 2, 3, 4, 5, 6] (args := [.ptr 0 b 0, .agg (encM { (default : MsL) with kd := 2, to := m.fr, ok := n.rs.grantsM m })]) rfl rfl rfl ⟨_, Try.func71, rfl, rfl⟩ (hfin (n.votedM m).anew rfl hvo) rfl (fun ro _ => by simp only [SV.oks, SV.ok, true_and, and_true]; exact hok ro) rfl (fun _ _ h => h) ?_).safe trivial
      rintro v hp ⟨n3, hn3, rfl⟩
      refine ⟨trivial, go_ok _ 100 _ _ ?_⟩
      simp only [go_sem, List.cons_append, List.nil_append, Nat.reduceBEq, Nat.reduceAdd, Nat.zero_add, Try.results53]
      exact fin _ n3 (X := [_]) hn3
    · have hr' : ¬ n.s.role ≠ 2 := by have : ¬ n.rs.role ≠ 2 := by simpa using hr
                                      exact this
      rw [if_pos hg, if_neg hr'] at hvo
      refine (stp_call [0, 1, 2, 3, 4, 5, 6] (args := [.ptr 0 b 0, .agg (encM { (default : MsL) with kd := 2, to := m.fr, ok := n.rs.grantsM m })]) rfl rfl rfl ⟨_, Try.func71, rfl, rfl⟩ (hfin (n.votedM m) rfl hvo) rfl (fun ro _ => by simp only [SV.oks, SV.ok, true_and, and_true]; exact hok ro) rfl (fun _ _ h => h) ?_).safe trivial
      rintro v hp ⟨n3, hn3, rfl⟩
      refine ⟨trivial, go_ok _ 100 _ _ ?_⟩
      simp only [go_sem, List.cons_append, List.nil_append, Nat.reduceBEq, Nat.reduceAdd, Nat.zero_add, Try.results53]
      exact fin _ n3 (X := [_]) hn3
    · rw [if_neg (by rw [hg]; simp)] at hvo
      refine (stp_call [0, 1, 2, 3, 4, 5, 6] (args := [.ptr 0 b 0, .agg (encM { (default : MsL) with kd := 2, to := m.fr, ok := n.rs.grantsM m })]) rfl rfl rfl ⟨_, Try.func71, rfl, rfl⟩ (hfin n rfl hvo) rfl (fun ro _ => by simp only [SV.oks, SV.ok, true_and, and_true]; exact hok ro) rfl (fun _ _ h => h) ?_).safe trivial
      rintro v hp ⟨n3, hn3, rfl⟩
      refine ⟨trivial, go_ok _ 100 _ _ ?_⟩
      simp only [go_sem, List.cons_append, List.nil_append, Nat.reduceBEq, Nat.reduceAdd, Nat.zero_add, Try.results53]
      exact fin _ n3 (X := [_]) hn3
  · intro hrest
    refine go_ok _ 39 _ _ ?_
    simp only [go_sem, Nat.reduceBEq, Nat.reduceAdd, Nat.zero_add]
    refine ⟨fun h => by rw [h]; rfl, fun h => by rw [h]; rfl, fun h => by rw [h]; rfl, fun hg => ?_, fun hg => ?_, ?_⟩
    · refine Stp.safeOn ?_ trivial
      refine stp_call [0] (args := [.ptr 0 b 0]) rfl rfl rfl ⟨_, Try.func40, rfl, rfl⟩ (c40 b n.rs hs.sm) (by simp [SV.dens, SV.den, hg]) (fun _ h => by simp [SV.oks, SV.ok]) rfl (fun _ _ h => h) ?_
      rintro v hp ⟨rfl, rfl⟩
      refine ⟨by simp only [recheck, recheck1, go_sem, Nat.reduceBEq, Nat.reduceAdd, Nat.zero_add], go_ok _ 6 _ _ ?_⟩
      simp only [go_sem, Nat.reduceBEq, Nat.reduceAdd, Nat.zero_add]
      refine ⟨fun h => ⟨h, fun h2 => by rw [h, h2]; rfl⟩, fun h => ⟨h, fun h2 => by rw [h, h2]; rfl⟩, ?_⟩
      refine Safe.sub ?_ hrest
      exact Sub.front (X := []) ⟨rfl, rfl, rfl, rfl, trivial⟩ rfl
    · have e : n.rs.grantsM m = ((decide (n.rs.hV = -1) || decide (n.rs.hV = m.fr)) && decide (n.rs.term n.rs.last < m.lt)) := by
        unfold RS.grantsM
        revert hg
        generalize (decide (n.rs.hV = -1) || decide (n.rs.hV = m.fr)) = A
        generalize decide (n.rs.term n.rs.last < m.lt) = B
        generalize decide (m.lt = n.rs.term n.rs.last) = C
        generalize decide (n.rs.last ≤ m.ix) = D
        cases A <;> cases B <;> cases C <;> cases D <;> decide
      refine ⟨fun h => (by rw [hg] at h; cases h), fun h => ⟨h, fun h2 => by rw [h, h2]; rfl⟩, fun h => ⟨h, fun h2 => by rw [h, h2]; rfl⟩, ?_⟩
      refine Safe.sub ?_ hrest
      rw [e]
      exact Sub.front (X := []) ⟨rfl, rfl, rfl, rfl, trivial⟩ rfl
    · rfl
end Go.SX
