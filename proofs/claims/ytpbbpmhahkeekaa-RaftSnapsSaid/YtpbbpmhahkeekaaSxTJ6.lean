/- Joined texts: T27 T28 PK T29 T30. -/
import Derived.Test.YtpbbpmhahkeekaaSxTJ5
import Derived.Test.YtpbbpmhahkeekaaSxTJ4
/- Raft: entries are laid down, by the plain model. -/
namespace Go.SX
open Go.Proofs
set_option maxRecDepth 1000000
variable {E : Env}

theorem c88v (a : Option Addr) (n cap : Nat) (g : Nat → Nat → SV) : Spec Try.prog E 88 [.view a n cap 4 g] [] (fun v hp => hp = [] ∧ ∃ a', v = .view a' n n 4 g) := by
  refine Spec.of_ok fun ⟨ro, hro⟩ => ?_
  have hv := oks_iff.1 hro _ (List.mem_singleton.2 rfl)
  simp only [SV.ok] at hv
  have hcap := hv.1
  refine spec_of (keep := k88) (args' := [.view a n cap 4 g]) Try.func88 rfl Try.ntmps88 s88_ok (by simp) ⟨rfl, fun _ h => h⟩ (fun _ _ h => h) (go_ok _ 100 _ _ ?_)
  simp only [go_sem, s88, k88, Nat.reduceBEq, Nat.reduceAdd, Nat.zero_add, Try.results88]
  refine ⟨⟨by omega, by omega, by omega, by omega, by omega, fun _ => rfl⟩, (if ((n : Nat) : Int) = 0 then a else a.map (fun x => x.add (Int.toNat 0 * 4))), ?_⟩
  simp only [Int.toNat_zero, Nat.sub_zero, Nat.add_zero, Int.toNat_natCast]
theorem appF_take {α : Type} [Inhabited α] (enc : α → List SV) (xs ys : List α) {f : Nat} (hf : f ≤ xs.length) : appF (rowsV enc xs) f (rowsV enc ys) = rowsV enc (xs.take f ++ ys) := by
  have hl : (xs.take f).length = f := by rw [List.length_take]; omega
  have := appF_rows (enc := enc) (xs.take f) ys
  rw [hl] at this
  rw [← this]
  funext i j
  unfold appF
  cases hb : Nat.blt i f with
  | false => rfl
  | true =>
    have hi : i < f := by rw [Nat.blt_eq] at hb; exact hb
    simp only [cond_true, rowsV]
    have e : xs.getD i default = (xs.take f).getD i default := by
      rw [List.getD_eq_getElem?_getD, List.getD_eq_getElem?_getD, List.getElem?_take_of_lt hi]
    rw [e]
theorem c72m (b : Nat) (s : RS) (e : Ent) (r : List Ent) (a : Option Addr) (cap : Nat) (hs : s.small) (hd : s.fitsD) (he : ∀ x ∈ e :: r, x.d.xs.length ≤ 2 ^ 40) (h0 : s.mIx < e.ix) (h1 : e.ix ≤ s.last + 1) (hl : s.es.length + (e :: r).length ≤ 2 ^ 40) (hm1 : s.mIx ≤ 2 ^ 60) :
    Spec Try.prog E 72 [.ptr 0 b 0, vE a cap (e :: r)] [rC b s] (fun _ hp => ∃ la lc es', Same (s.es.take (e.ix - s.mIx - 1).toNat ++ e :: r) es' ∧ hp = [rC b { s with la := la, lc := lc, es := es', fresh := if s.fresh = 0 ∨ e.ix < s.fresh then e.ix else s.fresh }]) := by
  refine spec_of (keep := k72) (args' := [.ptr 0 b 0, vE a cap (e :: r)]) Try.func72 rfl Try.ntmps72 s72_ok (by simp) ⟨rfl, fun _ h => h⟩ (fun _ _ h => h) (safe_cellview (c := 0) (kk := 4) rfl rfl fun hcap => go_ok _ 100 _ _ ?_)
  have hlen : (e :: r).length = r.length + 1 := rfl
  have hlpos : decide (((e :: r).length : Int) = 0) = false := by simp; omega
  have e0 : (e :: r).getD 0 default = e := rfl
  obtain ⟨m0, m1, m2⟩ := hs
  simp only [RS.last] at h1
  rw [hlen] at hl
  simp only [go_sem, s72, k72, hlpos, Nat.reduceBEq, Nat.reduceAdd, Nat.zero_add]
  refine ⟨fun h => absurd h (by simp; omega), fun _ => ?_⟩
  simp only [Int.toNat_zero, e0, Int.toNat_natCast, Nat.sub_zero, Nat.add_zero, inI64]
  obtain ⟨f, hf, hfe⟩ : ∃ f : Nat, f ≤ s.es.length ∧ e.ix - s.mIx - 1 = f := ⟨(e.ix - s.mIx - 1).toNat, by omega, by omega⟩
  rw [hfe]
  simp only [Int.toNat_natCast]
  refine ⟨by omega, by decide, by omega, by omega, by and_intros <;> first | omega | (intro h; cases h; done), ?_⟩
  refine (stp_call [] rfl rfl rfl ⟨_, Try.func88, rfl, rfl⟩ (c88v (if (s.lc : Int) = 0 then s.la else s.la.map (fun x => x.add (0 * 4))) f s.lc (rowsV encE s.es)) rfl (fun _ h => h) rfl (fun _ _ h => h) ?_).safe trivial
  rintro v hp ⟨rfl, a2, rfl⟩
  refine ⟨by simp only [recheck, recheck1, go_sem, Nat.reduceBEq, Nat.reduceAdd, Nat.zero_add], ?_⟩
  refine (stp_call [] rfl rfl rfl ⟨_, Try.func37, rfl, rfl⟩ (c37 a cap (e :: r) (by rw [hlen]; omega) he) rfl (fun _ h => h) rfl (fun _ _ h => h) ?_).safe trivial
  rintro v hp ⟨rfl, a3, cap3, es3, rfl, hs3⟩
  refine ⟨by simp only [recheck, recheck1, go_sem, Nat.reduceBEq, Nat.reduceAdd, Nat.zero_add], ?_⟩
  have hl3 : es3.length = r.length + 1 := by rw [hs3.len, hlen]
  refine (stp_appv (A0 := a2) (n := f) (cap := f) (sz0 := 4) (sz := 4) (bytes := 48) (m := es3.length) (f := rowsV encE s.es) (gx := rowsV encE es3) rfl rfl rfl rfl (.inr rfl) (by omega) (by omega) fun b' cap' => ?_).safe trivial
  refine ⟨by simp only [recheck, recheck1, go_sem, Nat.reduceBEq, Nat.reduceAdd, Nat.zero_add], ?_⟩
  refine safe_frz (hp := [rC b s]) ?_
  rw [appF_take encE s.es es3 hf]
  have hla : f + es3.length = (s.es.take f ++ es3).length := by simp; omega
  rw [hla]
  refine go_ok _ 100 _ _ ?_
  simp only [go_sem, Nat.reduceBEq, Nat.reduceAdd, Nat.zero_add, frz, Try.results72]
  have hsame : Same (s.es.take f ++ e :: r) (s.es.take f ++ es3) := by
    unfold Same at hs3 ⊢
    simp only [List.map_append, hs3]
  refine ⟨fun h => by rw [h]; rfl, fun h => ⟨some ⟨b', 0, none⟩, cap', s.es.take f ++ es3, hsame, ?_⟩, fun h => ⟨some ⟨b', 0, none⟩, cap', s.es.take f ++ es3, hsame, ?_⟩⟩
  · have h' : s.fresh = 0 ∨ e.ix < s.fresh := by simpa using h
    rw [if_pos h']
    simp only [if_neg (show ¬ False by simp)]
    rfl
  · have h' : ¬ (s.fresh = 0 ∨ e.ix < s.fresh) := by simpa using h
    rw [if_neg h']
    simp only [if_neg (show ¬ False by simp)]
    rfl
end Go.SX

/- Raft: the log begins at a snapshot, by the plain model. -/
namespace Go.SX
open Go.Proofs
set_option maxRecDepth 1000000
variable {E : Env}

theorem c92 (a : Option Addr) (cap : Nat) (xs : List Ent) (hl : xs.length * 48 ≤ 140737488355328) : Spec Try.prog E 92 [vE a cap xs] [] (fun v hp => hp = [] ∧ ∃ a' cap', v = vE a' cap' xs) := by
  refine Spec.of_ok fun ⟨ro, hro⟩ => ?_
  have ha := view_nil (oks_iff.1 hro _ (List.mem_singleton.2 rfl)) (by omega)
  refine Spec.frz (Post := CloneP 4 encE xs) ?_ (fun v hp h => h.fin (Post' := fun v hp => hp = [] ∧ ∃ a' cap', v = vE a' cap' xs) fun a' cap' => ⟨rfl, a', cap', rfl⟩)
  refine spec_of (keep := k92) (args' := [vE a cap xs]) Try.func92 rfl Try.ntmps92 s92_ok (by simp) ⟨rfl, fun _ h => h⟩ (fun _ _ h => h) (go_ok _ 100 _ _ ?_)
  simp only [go_sem, s92, k92, Nat.reduceBEq, Try.results92]
  refine ⟨fun h => .inl ⟨List.length_eq_zero_iff.1 (ha h), rfl⟩, fun h b => ?_⟩
  refine (stp_app (c := 0) (x := vE a cap xs) (gx := rowsV encE xs) rfl rfl rfl rfl rfl (onesF_rows fun x => ⟨rfl, by simp [encE, ones, one, Value.oneCell']⟩) (by omega) fun nl' b' off' cap' => ?_).safe trivial
  refine ⟨trivial, ?_⟩
  rw [Nat.zero_add, appF_zero]
  refine go_ok _ 100 _ _ ?_
  simp only [go_sem, Nat.reduceBEq, Try.results92]
  exact .inr ⟨0, nl', b', 43, off', cap', rfl, rfl⟩
theorem rows_drop {α : Type} [Inhabited α] (enc : α → List SV) (xs : List α) (f : Nat) : (fun i => rowsV enc xs (i + f)) = rowsV enc (xs.drop f) := by
  funext i j
  have e : xs.getD (i + f) default = (xs.drop f).getD i default := by
    rw [List.getD_eq_getElem?_getD, List.getD_eq_getElem?_getD, List.getElem?_drop, Nat.add_comm]
  simp only [rowsV, e]
/-- what stays of a log behind a snapshot -/
def RS.stays (s : RS) (i t : Int) : List Ent := if i ≤ s.last ∧ s.mIx < i ∧ s.term i = t then s.es.drop (i - s.mIx).toNat else []
set_option maxHeartbeats 2000000 in
theorem c86 (b : Nat) (s : RS) (mi mm : Int) (ma : Option Addr) (mc : Nat) (mv : List Int) (da : Option Addr) (dc : Nat) (d : List UInt8) (hs : s.small) (h0 : 0 ≤ mi) (h1 : mi ≤ 2 ^ 60) (hm1 : s.mIx ≤ 2 ^ 60) (hv : mv.length ≤ 1000) (hd : d.length ≤ 2 ^ 40) :
    Spec Try.prog E 86 [.ptr 0 b 0, .agg [I mi, I mm, vI ma mc mv], vB da dc d] [rC b s] (fun _ hp => ∃ ma' mc' da' dc' la lc, hp = [rC b { s with mIx := mi, mTm := mm, mV := vI ma' mc' mv, dat := vB da' dc' d, la := la, lc := lc, es := s.stays mi mm }]) := by
  refine Spec.leave (Post := fun _ hp => ∃ ma' mc' da' dc' la lc X, hp = rC b { s with mIx := mi, mTm := mm, mV := vI ma' mc' mv, dat := vB da' dc' d, la := la, lc := lc, es := s.stays mi mm } :: X) ?_ (fun v hp ⟨a1, a2, a3, a4, a5, a6, X, h⟩ => ⟨[_], X, by rw [h]; rfl, a1, a2, a3, a4, a5, a6, rfl⟩)
  refine spec_of (keep := k86) (args' := [.ptr 0 b 0, .agg [I mi, I mm, vI ma mc mv], vB da dc d]) Try.func86 rfl Try.ntmps86 s86_ok (by simp) ⟨rfl, fun _ h => h⟩ (fun _ _ h => h) (safe_cellview (c := 0) (kk := 4) rfl rfl fun hcap => go_ok _ 8 _ _ ?_)
  simp only [go_sem, s86, k86, Nat.reduceBEq, Nat.reduceAdd, Nat.zero_add]
  intro b1 b2
  refine safe_frzA (c := 2) (rowsV encE []) rfl (fun i j hi hj => absurd hi (by omega)) (by simp [frzOk, frzOk1]) ?_
  refine go_ok _ 8 _ _ ?_
  simp only [go_sem, frzE, frzV, frz, Nat.reduceBEq, Nat.reduceAdd, Nat.zero_add, if_false]
  obtain ⟨m0, m1, m2⟩ := id hs
  have hla : s.last = s.mIx + s.es.length := rfl
  refine (stp_call [0] rfl rfl rfl ⟨_, Try.func40, rfl, rfl⟩ (c40 b s hs) rfl (fun _ h => h) rfl (fun _ _ h => h) ?_).safe trivial
  rintro v hp ⟨rfl, rfl⟩
  refine ⟨by simp only [recheck, recheck1, go_sem, Nat.reduceBEq, Nat.reduceAdd, Nat.zero_add], ?_⟩
  refine safe_ops_mid ⟨[(0, .ptr 0 b 0), (2, vB da dc d), (4, .ptr 1 b1 0), (6, vE (some ⟨b2, 0, none⟩) 0 []), (31, Bl ((decide (mi ≤ s.last) && decide (s.mIx < mi)) && decide (s.term mi = mm)))], [rC b s, Chunk.cells b1 32 [I mi, I mm, vI ma mc mv], .emp]⟩ ?_ ?_
  · refine go_ok _ 100 _ _ ?_
    simp only [go_sem, Nat.reduceBEq, Nat.reduceAdd, Nat.zero_add, Try.results86]
    refine ⟨fun hc => ?_, fun hc => ?_⟩
    · have hst : s.stays mi mm = s.es.drop (mi - s.mIx).toNat := by
        unfold RS.stays
        simp only [Bool.and_eq_true, decide_eq_true_eq] at hc
        rw [if_pos ⟨hc.1.1, hc.1.2, hc.2⟩]
      simp only [Bool.and_eq_true, decide_eq_true_eq] at hc
      obtain ⟨f, hf, hfe⟩ : ∃ f : Nat, f ≤ s.es.length ∧ mi - s.mIx = f := ⟨(mi - s.mIx).toNat, by omega, by omega⟩
      rw [hfe, Int.toNat_natCast] at hst
      simp only [hfe, Int.toNat_natCast]
      rw [rows_drop, ← List.length_drop]
      refine ⟨by simp only [inI64]; omega, by omega, ?_⟩
      refine (stp_call [] rfl rfl rfl ⟨_, Try.func92, rfl, rfl⟩ (c92 (if (s.lc : Int) = f then s.la else s.la.map (fun x => x.add (f * 4))) (s.lc - f) (s.es.drop f) (by rw [List.length_drop]; omega)) rfl (fun _ h => h) rfl (fun _ _ h => h) ?_).safe trivial
      rintro v hp ⟨rfl, a2, k2, rfl⟩
      refine ⟨trivial, go_ok _ 100 _ _ ?_⟩
      simp only [go_sem, Nat.reduceBEq, Nat.reduceAdd, Nat.zero_add]
      refine (stp_call [] (args := [.agg [I mi, I mm, vI ma mc mv]]) rfl rfl rfl ⟨_, Try.func35, rfl, rfl⟩ (c35 mi mm ma mc mv (by omega)) rfl (fun _ h => h) rfl (fun _ _ h => h) ?_).safe trivial
      rintro v hp ⟨rfl, a3, k3, rfl⟩
      refine ⟨by simp only [recheck, recheck1, go_sem, Nat.reduceBEq, Nat.reduceAdd, Nat.zero_add], go_ok _ 100 _ _ ?_⟩
      simp only [go_sem, Nat.reduceBEq, Nat.reduceAdd, Nat.zero_add]
      refine (stp_call [] rfl rfl rfl ⟨_, Try.func36, rfl, rfl⟩ (c36 da dc d (by omega)) rfl (fun _ h => h) rfl (fun _ _ h => h) ?_).safe trivial
      rintro v hp ⟨rfl, a4, k4, rfl⟩
      refine ⟨by simp only [recheck, recheck1, go_sem, Nat.reduceBEq, Nat.reduceAdd, Nat.zero_add], go_ok _ 100 _ _ ?_⟩
      simp only [go_sem, Nat.reduceBEq, Nat.reduceAdd, Nat.zero_add, Try.results86]
      rw [hst]
      exact ⟨a3, k3, a4, k4, a2, k2, _, rfl⟩
    · have hst : s.stays mi mm = [] := by
        unfold RS.stays
        simp only [Bool.and_eq_false_iff, decide_eq_false_iff_not] at hc
        exact if_neg (fun q => by rcases hc with (hc | hc) | hc; exact hc q.1; exact hc q.2.1; exact hc q.2.2)
      refine (stp_call [] (args := [.agg [I mi, I mm, vI ma mc mv]]) rfl rfl rfl ⟨_, Try.func35, rfl, rfl⟩ (c35 mi mm ma mc mv (by omega)) rfl (fun _ h => h) rfl (fun _ _ h => h) ?_).safe trivial
      rintro v hp ⟨rfl, a3, k3, rfl⟩
      refine ⟨by simp only [recheck, recheck1, go_sem, Nat.reduceBEq, Nat.reduceAdd, Nat.zero_add], go_ok _ 100 _ _ ?_⟩
      simp only [go_sem, Nat.reduceBEq, Nat.reduceAdd, Nat.zero_add]
      refine (stp_call [] rfl rfl rfl ⟨_, Try.func36, rfl, rfl⟩ (c36 da dc d (by omega)) rfl (fun _ h => h) rfl (fun _ _ h => h) ?_).safe trivial
      rintro v hp ⟨rfl, a4, k4, rfl⟩
      refine ⟨by simp only [recheck, recheck1, go_sem, Nat.reduceBEq, Nat.reduceAdd, Nat.zero_add], go_ok _ 100 _ _ ?_⟩
      simp only [go_sem, Nat.reduceBEq, Nat.reduceAdd, Nat.zero_add, Try.results86]
      rw [hst]
      exact ⟨a3, k3, a4, k4, some ⟨b2, 0, none⟩, 0, _, rfl⟩
  · intro hrest
    refine go_ok _ 21 _ _ ?_
    simp only [go_sem, Nat.reduceBEq, Nat.reduceAdd, Nat.zero_add]
    refine ⟨fun h => by rw [h]; rfl, fun hc => ?_, fun hc => ?_, rfl⟩
    · refine (stp_call [0] (args := [.ptr 0 b 0, I mi]) rfl rfl rfl ⟨_, Try.func39, rfl, rfl⟩ (c39 b s mi hs (by omega) (by omega)) (by simp [SV.dens, SV.den, hc]) (fun _ h => by simp [SV.oks, SV.ok]) rfl (fun _ _ h => h) ?_).safeOn trivial
      rintro v hp ⟨rfl, rfl⟩
      refine ⟨by simp only [recheck, recheck1, go_sem, Nat.reduceBEq, Nat.reduceAdd, Nat.zero_add, hc], go_ok _ 3 _ _ ?_⟩
      simp only [go_sem, Nat.reduceBEq, Nat.reduceAdd, Nat.zero_add, hc]
      rw [hc] at hrest
      refine Safe.sub ?_ hrest
      exact Sub.front (X := []) ⟨rfl, rfl, rfl, rfl, rfl, trivial⟩ rfl
    · rw [hc] at hrest
      refine ⟨fun h => (by rw [hc] at h; cases h), ?_⟩
      refine Safe.sub ?_ hrest
      exact Sub.front (X := []) ⟨rfl, rfl, rfl, rfl, rfl, trivial⟩ rfl
end Go.SX

/- Raft, plainly: small numbers stay so: what is heard. -/
namespace Go.SX.Rf

theorem row_ix : ∀ {es : List En} {ix f t : Int}, row es ix f t = true → ∀ i, i < es.length → (es.getD i default).ix = ix + i + 1
  | [], _, _, _, _, i, hi => by simp at hi
  | e :: r, ix, f, t, h, i, hi => by
    simp only [row, Bool.and_eq_true, decide_eq_true_eq] at h
    obtain ⟨⟨⟨⟨⟨h1, h2⟩, _⟩, _⟩, _⟩, h3⟩ := h
    cases i with
    | zero => simp only [List.getD_cons_zero]; omega
    | succ i =>
      rw [List.getD_cons_succ, row_ix h3 i (by simpa using hi)]
      omega
theorem getD_drop {α : Type} [Inhabited α] (l : List α) (f i : Nat) : (l.drop f).getD i default = l.getD (f + i) default := by
  rw [List.getD_eq_getElem?_getD, List.getD_eq_getElem?_getD, List.getElem?_drop]
/-- what the log lacks, one behind the other -/
theorem lacks_drop (n : Nd) : ∀ (es : List En) (ix : Int), (∀ i, i < es.length → (es.getD i default).ix = ix + i + 1) → ix ≤ n.last →
    ∃ i, i ≤ es.length ∧ n.lacks es = es.drop i ∧ ix + i ≤ n.last
  | [], ix, _, hix => ⟨0, Nat.le_refl _, rfl, by simpa using hix⟩
  | e :: r, ix, h, hix => by
    unfold Nd.lacks
    split
    · exact ⟨0, Nat.zero_le _, rfl, by simpa using hix⟩
    · rename_i hc
      have he : e.ix = ix + 1 := by have := h 0 (by simp); simpa using this
      obtain ⟨i, h1, h2, h3⟩ := lacks_drop n r (ix + 1) (fun i hi => by
        have := h (i + 1) (by simpa using hi)
        rw [List.getD_cons_succ] at this
        rw [this]
        omega) (by
        have : ¬ n.last < e.ix := fun q => hc (.inl q)
        omega)
      exact ⟨i + 1, by simpa using h1, h2, by omega⟩
variable {n : Nd} {k j : Nat}
theorem fit_lay (h : n.fit k j) {l : List En} (h0 : n.hd.cm < (l.getD 0 default).ix) (h1 : (l.getD 0 default).ix ≤ n.last + 1) (hx : ∀ i, i < l.length → (l.getD i default).ix = (l.getD 0 default).ix + i) (hk : l ≠ [] → (l.getD 0 default).ix + l.length ≤ k + 1) (hl : ∀ e ∈ l, e.fit k) : (n.lay l).fit k j := by
  cases l with
  | nil => exact h
  | cons e r =>
    simp only [List.getD_cons_zero] at h0 h1 hx hk
    have hk := hk (by simp)
    have ha0 := h.a0; have ha1 := h.a1; have hc0 := h.c0; have hi0 := h.i0
    have hlast : n.last = n.me.ix + n.log.length := rfl
    simp only [List.length_cons] at hk
    have hlog : (n.lay (e :: r)).log = n.log.take (e.ix - n.me.ix - 1).toNat ++ e :: r := rfl
    have htl : (n.log.take (e.ix - n.me.ix - 1).toNat).length = (e.ix - n.me.ix - 1).toNat := by rw [List.length_take]; omega
    have hl2 : (n.lay (e :: r)).last = e.ix + r.length := by
      show n.me.ix + (((n.lay (e :: r)).log).length : Int) = _
      rw [hlog, List.length_append, htl, List.length_cons]
      omega
    refine { h with i1 := ?_, ix := ?_, en := ?_, f0 := ?_, f1 := ?_, c1 := ?_ }
    · rw [hl2]; omega
    · intro i hi
      rw [hlog] at hi ⊢
      show _ = n.me.ix + i + 1
      rw [List.length_append, htl] at hi
      by_cases hil : i < (e.ix - n.me.ix - 1).toNat
      · rw [List.getD_eq_getElem?_getD, List.getElem?_append_left (by rw [htl]; exact hil), List.getElem?_take_of_lt hil, ← List.getD_eq_getElem?_getD]
        exact h.ix i (by omega)
      · rw [List.getD_eq_getElem?_getD, List.getElem?_append_right (by rw [htl]; omega), htl, ← List.getD_eq_getElem?_getD, hx _ (by omega)]
        omega
    · intro x hxm
      rw [hlog] at hxm
      rcases List.mem_append.1 hxm with hxm | hxm
      · exact h.en x (List.mem_of_mem_take hxm)
      · exact hl x hxm
    · have := h.f0; show 0 ≤ ite _ _ _; split <;> omega
    · have := h.f1; show ite _ _ _ ≤ _; split <;> omega
    · rw [hl2]; show n.hd.cm ≤ _; omega
theorem fit_append {m : Ms} (h : n.fit k j) (hm : m.fit k) (hr : row m.es m.ix m.lt m.tm = true) : (n.append m).2.fit k j ∧ -1 ≤ (n.append m).1.2 ∧ (n.append m).1.2 ≤ k := by
  have hc0 := h.c0; have hc1 := h.c1; have hi0 := h.i0; have hi1 := h.i1; have hmi := hm.i0; have hmk := hm.i1
  have hlast : n.last = n.me.ix + n.log.length := rfl
  unfold Nd.append
  split
  · exact ⟨h, by dsimp only; omega, by dsimp only; omega⟩
  · split
    · exact ⟨h, by dsimp only; omega, by dsimp only; omega⟩
    · rename_i h1 h2
      have h3 : m.ix ≤ n.last := by
        by_cases q : n.last < m.ix
        · exact absurd (.inl q) h2
        · omega
      obtain ⟨i, hi, hd, hil⟩ := lacks_drop n m.es m.ix (row_ix hr) h3
      have hfit : (n.lay (n.lacks m.es)).fit k j := by
        rw [hd]
        by_cases hi2 : i < m.es.length
        · have e0 : ((m.es.drop i).getD 0 default).ix = m.ix + i + 1 := by rw [getD_drop]; exact row_ix hr _ (by omega)
          refine fit_lay h ?_ ?_ ?_ ?_ fun e he => (hm.es e (List.mem_of_mem_drop he)).1
          · rw [e0]; omega
          · rw [e0]; omega
          · intro c hc
            rw [List.length_drop] at hc
            rw [e0, getD_drop, row_ix hr _ (by omega)]
            omega
          · intro _
            rw [e0, List.length_drop]
            omega
        · rw [List.drop_eq_nil_of_le (by omega)]
          exact h
      refine ⟨?_, by dsimp only; omega, by dsimp only; omega⟩
      have hcm : ((n.lay (n.lacks m.es)).hd.cm : Int) = n.hd.cm := by unfold Nd.lay; split <;> rfl
      have hlm : m.ix + m.es.length ≤ (n.lay (n.lacks m.es)).last := by
        rw [hd]
        by_cases hi2 : i < m.es.length
        · cases hdd : m.es.drop i with
          | nil => rw [List.drop_eq_nil_iff] at hdd; omega
          | cons e r =>
            have he : e.ix = m.ix + i + 1 := by
              have := getD_drop m.es i 0
              rw [hdd, List.getD_cons_zero] at this
              rw [this]
              exact row_ix hr _ (by omega)
            have hlen : r.length + 1 = m.es.length - i := by rw [← List.length_drop, hdd]; rfl
            show _ ≤ n.me.ix + ((n.log.take (e.ix - n.me.ix - 1).toNat ++ e :: r).length : Int)
            rw [List.length_append, List.length_take, List.length_cons]
            omega
        · rw [List.drop_eq_nil_of_le (by omega)]
          show _ ≤ n.last
          omega
      refine { hfit with c0 := ?_, c1 := ?_, a1 := ?_ }
      · show 0 ≤ max _ _; omega
      · show max _ _ ≤ (n.lay (n.lacks m.es)).last; have := hfit.c1; omega
      · show (n.lay (n.lacks m.es)).applied ≤ max _ _; have := hfit.a1; omega
theorem append_role (n : Nd) (m : Ms) : (n.append m).2.role = n.role := by
  unfold Nd.append
  split
  · rfl
  · split
    · rfl
    · show (n.lay _).role = n.role
      unfold Nd.lay; split <;> rfl
theorem fit_restart (h : n.fit k j) {m : Me} {d : List UInt8} (h0 : n.me.ix ≤ m.ix) (hc : m.ix ≤ n.hd.cm ∨ True) (hk : m.ix ≤ k) (t0 : 0 ≤ m.tm) (t1 : m.tm ≤ k) (hv : areVoters m.vs = true) (hd : d.length ≤ 2 ^ 23) (ha : n.last ≤ k) :
    (∀ i, i < (n.restart m d).log.length → ((n.restart m d).log.getD i default).ix = m.ix + i + 1) ∧ (∀ e ∈ (n.restart m d).log, e.fit k) ∧ (n.restart m d).last ≤ k ∧ m.ix ≤ (n.restart m d).last := by
  have hi0 := h.i0
  have hlast : n.last = n.me.ix + n.log.length := rfl
  have hl2 : (n.restart m d).last = m.ix + (n.restart m d).log.length := rfl
  have hlog : (n.restart m d).log = if m.ix ≤ n.last ∧ n.me.ix < m.ix ∧ n.term m.ix = m.tm then n.log.drop (m.ix - n.me.ix).toNat else [] := rfl
  rw [hl2, hlog]
  split
  · rename_i hq
    refine ⟨fun i hi => ?_, fun e he => h.en e (List.mem_of_mem_drop he), ?_, by omega⟩
    · rw [List.length_drop] at hi
      rw [getD_drop, h.ix _ (by omega)]
      omega
    · rw [List.length_drop]
      omega
  · exact ⟨fun i hi => absurd hi (by simp), by simp, by simp; omega, by simp⟩
theorem fit_take {m : Ms} (h : n.fit k j) (hm : m.fit k) (hv : areVoters m.me.vs = true) : (n.take m).2.fit k j ∧ -1 ≤ (n.take m).1 ∧ (n.take m).1 ≤ k := by
  have hc0 := h.c0; have hc1 := h.c1; have hi0 := h.i0; have hi1 := h.i1; have hx0 := hm.x0; have hx1 := hm.x1
  unfold Nd.take
  split
  · exact ⟨h, by dsimp only; omega, by dsimp only; omega⟩
  · rename_i hq
    have ha0 := h.a0; have ha1 := h.a1
    obtain ⟨r1, r2, r3, r4⟩ := fit_restart h (m := m.me) (d := m.d) (by omega) (.inr trivial) hx1 hm.y0 hm.y1 hv hm.dl hi1
    refine ⟨?_, by dsimp only; omega, by dsimp only; omega⟩
    exact { h with i0 := hx0, i1 := r3, t0 := hm.y0, t1 := hm.y1, mv := fun _ => hv, ml := hm.vl, dl := hm.dl, ix := r1, en := r2, c0 := hx0, c1 := r4, a0 := Int.le_refl _, a1 := Int.le_refl _ }
theorem take_role (n : Nd) (m : Ms) : (n.take m).2.role = n.role := by
  unfold Nd.take
  split <;> rfl
/-- a message may be, of this node -/
theorem fine_facts {m : Ms} (h : n.fine m = true) : m.to = n.id ∧ isId m.fr = true ∧ row m.es m.ix m.lt m.tm = true ∧ (m.kd = 5 → areVoters m.me.vs = true) := by
  unfold Nd.fine at h
  simp only [Bool.and_eq_true, Bool.not_eq_true', Bool.or_eq_false_iff, decide_eq_false_iff_not, Bool.and_eq_false_iff, Bool.not_eq_false', ne_eq, Decidable.not_not] at h
  obtain ⟨⟨⟨⟨⟨⟨⟨⟨h1, h2⟩, h3⟩, h4⟩, h5⟩, h6⟩, h7⟩, h8⟩, h9⟩ := h
  refine ⟨h1, by simpa using h5, h9, fun h10 => ?_⟩
  rcases h8 with h8 | h8
  · exact absurd h10 h8
  · simpa using h8.1.1.1.2
theorem fit_led {m : Ms} (h : n.inv k j) (hm : m.fit k) (hf : n.fine m = true) (hi : isId m.fr = true) : (n.led m).inv k (j + 1) := by
  unfold Nd.led
  split
  · exact h.mono (Nat.le_refl _) (by omega)
  · have h1 : ({ n.follow with lead := m.fr } : Nd).anew.fit k j := fit_anew { fit_follow h.toFit with }
    have hro : ({ n.follow with lead := m.fr } : Nd).anew.role = 0 := rfl
    obtain ⟨f1, f2, f3, f4⟩ := fine_facts hf
    dsimp only
    generalize ({ n.follow with lead := m.fr } : Nd).anew = N at h1 hro
    have hsend : ∀ (M : Nd) (ok : Bool) (mt : Int), M.fit k j → M.role = 0 → -1 ≤ mt → mt ≤ k → (M.send { kd := 4, to := m.fr, sq := m.sq, ok := ok, mt := mt }).inv k (j + 1) := by
      intro M ok mt h2 h3 h4 h5
      rw [send_more]
      have h6 := h2.h0; have h7 := h2.h1; have h8 := hm.s0; have h9 := hm.s1
      refine ⟨h2.more (l := [_]) fun x hx => ?_, .inl h3, fun h => absurd (h3.symm.trans h) (by decide)⟩
      rw [List.mem_singleton.1 hx]
      refine ⟨h6, h7, ?_, ?_, ?_, ?_, ?_, ?_, ?_, h8, h9, h4, h5, ?_, ?_, ?_, ?_, ?_, ?_⟩ <;> simp
    split
    · rename_i hk
      obtain ⟨t1, t2, t3⟩ := fit_take h1 hm (f4 hk)
      exact hsend _ _ _ t1 (by rw [take_role, hro]) t2 t3
    · obtain ⟨t1, t2, t3⟩ := fit_append h1 hm f3
      exact hsend _ _ _ t1 (by rw [append_role, hro]) t2 t3
theorem fit_reply {m : Ms} (h : n.fit k j) (hm : m.fit k) (kd to : Int) (ok : Bool) (mt : Int) (h4 : -1 ≤ mt) (h5 : mt ≤ k) : ({ kd := kd, to := to, sq := m.sq, ok := ok, mt := mt, fr := n.id, tm := n.hd.tm } : Ms).fit k := by
  have h6 := h.h0; have h7 := h.h1; have h8 := hm.s0; have h9 := hm.s1
  refine ⟨h6, h7, ?_, ?_, ?_, ?_, ?_, ?_, ?_, h8, h9, h4, h5, ?_, ?_, ?_, ?_, ?_, ?_⟩ <;> simp
theorem fit_plain (h : n.fit k j) (kd to : Int) (ok : Bool) : ({ kd := kd, to := to, ok := ok, fr := n.id, tm := n.hd.tm } : Ms).fit k := by
  have h6 := h.h0; have h7 := h.h1
  refine ⟨h6, h7, ?_, ?_, ?_, ?_, ?_, ?_, ?_, ?_, ?_, ?_, ?_, ?_, ?_, ?_, ?_, ?_, ?_⟩ <;> simp
theorem inv_old {m : Ms} (h : n.inv k j) (hm : m.fit k) : (n.old m).inv k (j + 1) := by
  have hi0 := h.i0; have hi1 := h.i1
  have hl0 : 0 ≤ n.last := by unfold Nd.last; omega
  unfold Nd.old
  split
  · rw [send_more]
    exact h.more (l := [_]) (by simpa using fit_plain h.toFit 2 m.fr false)
  · split
    · rw [send_more]
      exact h.more (l := [_]) (by simpa using fit_reply h.toFit hm 4 m.fr false n.last (by omega) hi1)
    · exact h.mono (Nat.le_refl _) (by omega)
theorem inv_vote {m : Ms} (h : n.inv k j) : (n.vote m).inv k (j + 1) := by
  unfold Nd.vote
  dsimp only
  have hs : ∀ (M : Nd), M.inv k j → (M.send { kd := 2, to := m.fr, ok := n.grants m }).inv k (j + 1) := by
    intro M h2
    rw [send_more]
    exact h2.more (l := [_]) (by simpa using fit_plain h2.toFit 2 m.fr (n.grants m))
  refine hs _ ?_
  split
  · have h2 : ({ n with hd := { n.hd with vote := m.fr } } : Nd).inv k j := ⟨{ h.toFit with }, h.ro, h.kn⟩
    split
    · exact inv_anew h2
    · exact h2
  · exact h
/-- what a leader knows of one who answered -/
def Pe.told (p : Pe) (m : Ms) (last : Int) : Pe :=
  let p := { p with hd := max p.hd m.sq }
  let p := if m.ok then { p with mt := max p.mt (min m.mt last) } else if m.mt < p.nx - 1 then { p with nx := m.mt + 1 } else p
  { p with nx := max p.nx (p.mt + 1) }
theorem fit_told {p : Pe} {m : Ms} {last : Int} (h : p.fit last) (hm : m.fit k) : (p.told m last).fit last := by
  obtain ⟨h1, h2, h3, h4⟩ := h
  have h5 := hm.m0
  unfold Pe.told
  dsimp only
  split
  · constructor <;> dsimp only <;> omega
  · split
    · constructor <;> dsimp only <;> omega
    · constructor <;> dsimp only <;> omega
theorem keys_set (l : List (Int × Pe)) (v : Int) (p : Pe) : (l.map fun q => if q.1 = v then (v, p) else q).map (·.1) = l.map (·.1) := by
  rw [List.map_map]
  refine List.map_congr_left fun q _ => ?_
  simp only [Function.comp_apply]
  split
  · rename_i h; exact h.symm
  · rfl
theorem inv_setPeer (h : n.inv k j) {v : Int} {p : Pe} (hp : p.fit n.last) : (n.setPeer v p).inv k j := by
  refine ⟨{ h.toFit with }, h.ro, fun hr => ?_⟩
  obtain ⟨l, h1, h2, h3, h4⟩ := h.kn hr
  refine ⟨l.map fun q => if q.1 = v then (v, p) else q, by show n.peers.map _ = _; rw [h1]; rfl, by rw [keys_set]; exact h2, fun q hq => ?_, fun w hw => by rw [keys_set]; exact h4 w hw⟩
  obtain ⟨q0, hq0, rfl⟩ := List.mem_map.1 hq
  split
  · exact hp
  · exact h3 q0 hq0
theorem peer_set (n : Nd) {v : Int} {p : Pe} {l : List (Int × Pe)} (hl : n.peers = some l) (hv : v ∈ l.map (·.1)) : (n.setPeer v p).peer v = p := by
  unfold Nd.peer Nd.setPeer
  rw [hl]
  show (((l.map fun q => if q.1 = v then (v, p) else q).find? fun q => q.1 == v).map (·.2)).getD _ = p
  induction l generalizing n with
  | nil => simp at hv
  | cons q r ih =>
    rw [List.map_cons, List.find?_cons]
    by_cases hq : q.1 = v
    · rw [if_pos hq]; simp
    · rw [if_neg hq]
      have : (q.1 == v) = false := by simpa using hq
      rw [this]
      rw [List.map_cons] at hv
      rcases List.mem_cons.1 hv with h | h
      · exact absurd h.symm hq
      · exact ih { n with peers := some r } rfl h
/-- what look and confirm leave as it was -/
structure Nd.alike (n n' : Nd) : Prop where
  me : n'.me = n.me
  log : n'.log = n.log
  peers : n'.peers = n.peers
theorem Nd.alike.rfl' (n : Nd) : n.alike n := ⟨rfl, rfl, rfl⟩
theorem Nd.alike.last {n n' : Nd} (h : n.alike n') : n'.last = n.last := by unfold Nd.last; rw [h.me, h.log]
theorem Nd.alike.peer {n n' : Nd} (h : n.alike n') (v : Int) : n'.peer v = n.peer v := by unfold Nd.peer; rw [h.peers]
theorem send_alike (n : Nd) (m : Ms) : n.alike (n.send m) := ⟨rfl, rfl, rfl⟩
theorem one_alike (n : Nd) (v : Int) : n.alike (n.one v) := by
  unfold Nd.one
  dsimp only
  split <;> exact send_alike _ _
theorem one_role (n : Nd) (v : Int) : (n.one v).role = n.role := by
  unfold Nd.one
  dsimp only
  split <;> rfl
theorem ones_alike : ∀ (vs : List Int) (n : Nd), n.alike (vs.foldl (fun n v => n.one v) n) ∧ (vs.foldl (fun n v => n.one v) n).role = n.role
  | [], n => ⟨.rfl' n, rfl⟩
  | v :: vs, n => by
    obtain ⟨h1, h2⟩ := ones_alike vs (n.one v)
    have h3 := one_alike n v
    exact ⟨⟨h1.me.trans h3.me, h1.log.trans h3.log, h1.peers.trans h3.peers⟩, h2.trans (one_role n v)⟩
theorem look1_alike (n : Nd) (i : Int) (h : (n.look1 i).role = 2) : n.alike (n.look1 i) := by
  unfold Nd.look1 at h ⊢
  dsimp only at h ⊢
  split at h
  · exact absurd h (show (0 : Int) ≠ 2 by decide)
  · rename_i hq
    rw [if_neg hq]
    have := (ones_alike (n.upto i).others (n.upto i)).1
    exact ⟨this.me, this.log, this.peers⟩
theorem lookI_alike (n : Nd) : ∀ (c : Nat) (i : Int), (n.lookI c i).role = 2 → n.alike (n.lookI c i)
  | 0, _, _ => .rfl' n
  | c + 1, i, h => by
    unfold Nd.lookI at h ⊢
    split at h
    · rename_i hq
      rw [if_pos hq]
      split at h
      · rename_i hq2
        rw [if_pos hq2]
        exact look1_alike n i h
      · rename_i hq2
        rw [if_neg hq2]
        exact lookI_alike n c (i - 1) h
    · rename_i hq
      rw [if_neg hq]
      exact .rfl' n
theorem look_alike (n : Nd) (h : n.look.role = 2) : n.alike n.look := by
  unfold Nd.look at h ⊢
  split at h
  · rename_i hq
    rw [if_pos hq]
    exact .rfl' n
  · rename_i hq
    rw [if_neg hq]
    exact lookI_alike n _ _ h
theorem confirmI_alike : ∀ (c : Nat) (n : Nd), n.alike (n.confirmI c) ∧ (n.confirmI c).role = n.role
  | 0, n => ⟨.rfl' n, rfl⟩
  | c + 1, n => by
    unfold Nd.confirmI
    split
    · exact ⟨.rfl' n, rfl⟩
    · split
      · rename_i w ws _ _
        obtain ⟨h1, h2⟩ := confirmI_alike c ({ n with reads := n.reads ++ [(w.ctx, w.ix)], waits := ws } : Nd)
        exact ⟨⟨h1.me, h1.log, h1.peers⟩, h2⟩
      · exact ⟨.rfl' n, rfl⟩
theorem inv_one {v : Int} (h : n.inv k j) (hd : (n.peer v).fit n.last) : (n.one v).inv k (j + 1) := by
  obtain ⟨m, h1, h2⟩ := one_more h.toFit hd
  rw [h1]
  exact h.more (l := [m]) (by simpa using h2)
theorem find_key {l : List (Int × Pe)} {v : Int} (h : (l.find? fun p => p.1 == v).isSome = true) : ∃ p, (l.find? fun p => p.1 == v) = some (v, p) ∧ (v, p) ∈ l := by
  cases hf : l.find? (fun p => p.1 == v) with
  | none => rw [hf] at h; cases h
  | some q =>
    obtain ⟨a, p⟩ := q
    have h1 := List.find?_some hf
    have h2 := List.mem_of_find?_eq_some hf
    have : a = v := by simpa using h1
    subst this
    exact ⟨p, rfl, h2⟩
/-- the three steps of what is heard -/
theorem heard_eq (n : Nd) (m : Ms) : n.heard m =
    (let p := (n.peer m.fr).told m n.last
     let n1 := (n.setPeer m.fr p).look
     let n2 := if n1.role = 2 then n1.confirm else n1
     if n2.role = 2 ∧ p.mt < n2.last then n2.one m.fr else n2) := rfl
theorem heard_facts {m : Ms} (h : n.inv k j) (hm : m.fit k) (hr : n.role = 2) (hk : ((n.peers.getD []).find? fun p => p.1 == m.fr).isSome = true) :
    ∃ l p, n.peers = some l ∧ (l.find? fun p => p.1 == m.fr) = some (m.fr, p) ∧ n.peer m.fr = p ∧ p.fit n.last ∧ (p.told m n.last).fit n.last ∧ (n.setPeer m.fr (p.told m n.last)).inv k j ∧ (n.setPeer m.fr (p.told m n.last)).peer m.fr = p.told m n.last := by
  obtain ⟨l, h1, h2, h3, h4⟩ := h.kn hr
  rw [h1, Option.getD_some] at hk
  obtain ⟨p, hf, hmem⟩ := find_key hk
  have hp : n.peer m.fr = p := by unfold Nd.peer; rw [h1, Option.getD_some, hf]; rfl
  have hpf : p.fit n.last := h3 _ hmem
  have ht := fit_told hpf hm
  exact ⟨l, p, h1, hf, hp, hpf, ht, inv_setPeer h ht, peer_set n h1 (List.mem_map.2 ⟨_, hmem, rfl⟩)⟩
theorem inv_heard {m : Ms} (h : n.inv k j) (hm : m.fit k) (hr : n.role = 2) (hk : ((n.peers.getD []).find? fun p => p.1 == m.fr).isSome = true) : (n.heard m).inv k (j + 8) := by
  obtain ⟨l, p, h1, hf, hp, hpf, ht, hs, hq⟩ := heard_facts h hm hr hk
  rw [heard_eq, hp]
  dsimp only
  have hl := inv_look hs
  have hla : (n.setPeer m.fr (p.told m n.last)).last = n.last := rfl
  generalize hN : n.setPeer m.fr (p.told m n.last) = N at hs hq hl hla ⊢
  by_cases hr1 : N.look.role = 2
  · have hal := look_alike N hr1
    rw [if_pos hr1]
    have hc := confirmI_alike N.look.waits.length N.look
    have hal2 : N.alike N.look.confirm := ⟨hc.1.me.trans hal.me, hc.1.log.trans hal.log, hc.1.peers.trans hal.peers⟩
    split
    · refine inv_one (inv_confirm hl) ?_
      rw [hal2.peer, hq, hal2.last, hla]
      exact ht
    · exact (inv_confirm hl).mono (Nat.le_refl _) (by omega)
  · rw [if_neg hr1, if_neg (fun q => hr1 q.1)]
    exact hl.mono (Nat.le_refl _) (by omega)
/-- of a later term -/
def Nd.later (n : Nd) (t : Int) : Nd := ({ n with hd := { n.hd with tm := t, vote := -1 } } : Nd).follow
theorem inv_later (h : n.fit k j) {t : Int} (h0 : 0 ≤ t) (h1 : t ≤ k) : (n.later t).inv k j := inv_follow { h with h0 := h0, h1 := h1 }
theorem later_fine (n : Nd) (t : Int) (m : Ms) : (n.later t).fine m = n.fine m := rfl
theorem step_eq (n : Nd) (m : Ms) : n.step m = if n.fine m = false then n else
    (let n := if n.hd.tm < m.tm then n.later m.tm else n
     if m.tm < n.hd.tm then n.old m
     else if m.kd = 1 then n.vote m
     else if m.kd = 2 then (if n.role = 1 ∧ m.ok = true ∧ n.votes.contains m.fr = false ∧ n.voters.contains m.fr = true then ({ n with votes := n.votes ++ [m.fr] } : Nd).elected else n)
     else if m.kd = 4 then (if ((n.peers.getD []).find? fun (p : Int × Pe) => p.1 == m.fr).isSome = true ∧ n.role = 2 then n.heard m else n)
     else n.led m) := rfl
theorem inv_step {m : Ms} (h : n.inv k j) (hm : m.fit k) : (n.step m).inv (k + 2) (j + 21) := by
  rw [step_eq]
  split
  · exact h.mono (by omega) (by omega)
  · rename_i hf
    have hf : n.fine m = true := by simpa using hf
    have h1 : (if n.hd.tm < m.tm then n.later m.tm else n).inv k j := by
      split
      · exact inv_later h.toFit hm.t0 hm.t1
      · exact h
    have hf1 : (if n.hd.tm < m.tm then n.later m.tm else n).fine m = true := by
      split
      · exact hf
      · exact hf
    dsimp only
    generalize (if n.hd.tm < m.tm then n.later m.tm else n) = N at h1 hf1 ⊢
    split
    · exact (inv_old h1 hm).mono (by omega) (by omega)
    · split
      · exact (inv_vote h1).mono (by omega) (by omega)
      · split
        · split
          · have h2 : ({ N with votes := N.votes ++ [m.fr] } : Nd).inv (k + 1) j :=
              ⟨{ (h1.mono (Nat.le_succ k) (Nat.le_refl j)).toFit with vt := by have := h1.vt; simp only [List.length_append, List.length_singleton]; omega }, h1.ro, h1.kn⟩
            exact (inv_elected h2).mono (by omega) (by omega)
          · exact h1.mono (by omega) (by omega)
        · split
          · split
            · rename_i hq
              exact (inv_heard h1 hm hq.2 hq.1).mono (by omega) (by omega)
            · exact h1.mono (by omega) (by omega)
          · exact (fit_led h1 hm hf1 (fine_facts hf1).2.1).mono (by omega) (by omega)
end Go.SX.Rf

/- Raft: a snapshot is taken, entries are appended, by the plain model. -/
namespace Go.SX
open Go.Proofs
set_option maxRecDepth 1000000
variable {E : Env}

/-- a node whose log begins at a snapshot -/
def NL.restarted (n : NL) (mi mm : Int) (ma : Option Addr) (mc : Nat) (mv : List Int) (da : Option Addr) (dc : Nat) (d : List UInt8) (la : Option Addr) (lc : Nat) : NL :=
  { n with s := { n.s with mIx := mi, mTm := mm, la := la, lc := lc, es := n.rs.stays mi mm }, o := { n.o with ma := ma, mc := mc, mv := mv }, dt := ⟨da, dc, d⟩ }
theorem nd_restarted (n : NL) (mi mm : Int) (ma : Option Addr) (mc : Nat) (mv : List Int) (da : Option Addr) (dc : Nat) (d : List UInt8) (la : Option Addr) (lc : Nat) : (n.restarted mi mm ma mc mv da dc d la lc).nd = n.nd.restart ⟨mi, mm, mv⟩ d := by
  unfold Rf.Nd.restart
  have e : (n.rs.stays mi mm).map Ent.pl = if mi ≤ n.nd.last ∧ n.nd.me.ix < mi ∧ n.nd.term mi = mm then n.nd.log.drop (mi - n.nd.me.ix).toNat else [] := by
    unfold RS.stays
    rw [nd_last, nd_term]
    show _ = if mi ≤ n.rs.last ∧ n.rs.mIx < mi ∧ n.rs.term mi = mm then _ else _
    split
    · rw [List.map_drop]; rfl
    · rfl
  show ({ (n.restarted mi mm ma mc mv da dc d la lc).nd with log := (n.rs.stays mi mm).map Ent.pl } : Rf.Nd) = _
  rw [e]
  rfl
theorem c86p (b : Nat) (n : NL) (mi mm : Int) (ma : Option Addr) (mc : Nat) (mv : List Int) (da : Option Addr) (dc : Nat) (d : List UInt8) (hs : n.rs.small) (h0 : 0 ≤ mi) (h1 : mi ≤ 2 ^ 60) (hm1 : n.s.mIx ≤ 2 ^ 60) (hv : mv.length ≤ 1000) (hd : d.length ≤ 2 ^ 40) :
    Spec Try.prog E 86 [.ptr 0 b 0, .agg [I mi, I mm, vI ma mc mv], vB da dc d] (nO b n) (fun _ hp => ∃ ma' mc' da' dc' la lc, hp = nO b (n.restarted mi mm ma' mc' mv da' dc' d la lc)) := by
  refine ((c86 b n.rs mi mm ma mc mv da dc d hs h0 h1 hm1 hv hd).beside _).post ?_
  rintro v hp ⟨hp', ⟨a1, a2, a3, a4, a5, a6, rfl⟩, rfl⟩
  exact ⟨a1, a2, a3, a4, a5, a6, rfl⟩
def NL.took (n : NL) (i : Int) : NL := { n with s := { n.s with hC := i, applied := i, snap := true } }
set_option maxHeartbeats 2000000 in
theorem c78p (b : Nat) (n : NL) (m : MsL) {k j : Nat} (h : n.nd.fit k j) (hm : m.pl.fit k) (hk1 : k ≤ 2 ^ 30) :
    Spec Try.prog E 78 [.ptr 0 b 0, .agg (encM m)] (nO b n) (fun v hp => v = I (n.nd.take m.pl).1 ∧ ∃ n' : NL, n'.nd = (n.nd.take m.pl).2 ∧ hp = nO b n') := by
  refine Spec.see2 ?_
  generalize hP : SeeP _ = P
  have fin : ∀ (n' : NL) (r : Int × Rf.Nd) {X : List Chunk}, n.nd.take m.pl = r → n'.nd = r.2 → P (I r.1) (nO b n' ++ X) := by
    intro n' r X h1 h2
    rw [← hP]
    refine ⟨_, _, rfl, fun _ h => h, Sees.left, ?_, n', ?_, rfl⟩
    · rw [h1]
    · rw [h1, h2]
  have hg := fit_good h hk1
  have hx0 : 0 ≤ m.mi := hm.x0
  have hx1 : m.mi ≤ k := hm.x1
  have hi0 : 0 ≤ n.s.mIx := h.i0
  have hlast : n.nd.last = n.nd.me.ix + n.nd.log.length := rfl
  have hi1 := h.i1
  have hmx : n.s.mIx ≤ k := by have e : n.nd.me.ix = n.s.mIx := rfl; omega
  refine spec_of (keep := k78) (args' := [.ptr 0 b 0, .agg (encM m)]) Try.func78 rfl Try.ntmps78 s78_ok (by simp) ⟨rfl, fun _ h => h⟩ (fun _ _ h => h) (go_ok _ 100 _ _ ?_)
  simp only [go_sem, s78, k78, Nat.reduceBEq, Nat.reduceAdd, Nat.zero_add, Try.results78]
  intro b1
  refine ⟨fun hc => ?_, fun hc => ?_⟩
  · have hc0 : m.mi ≤ n.rs.hC := of_decide_eq_true hc
    have hc' : m.pl.me.ix ≤ n.nd.hd.cm := hc0
    exact fin n (n.nd.hd.cm, n.nd) (X := [_]) (by unfold Rf.Nd.take; rw [if_pos hc']) rfl
  have hc0 : ¬ m.mi ≤ n.rs.hC := of_decide_eq_false hc
  have hc' : ¬ m.pl.me.ix ≤ n.nd.hd.cm := hc0
  refine (stp_call [0, 1, 2, 3, 4, 5, 6] (args := [.ptr 0 b 0, .agg [I m.mi, I m.mm, vI m.mv.a m.mv.cap m.mv.xs], vB m.d.a m.d.cap m.d.xs]) rfl rfl rfl ⟨_, Try.func86, rfl, rfl⟩
    (c86p b n m.mi m.mm m.mv.a m.mv.cap m.mv.xs m.d.a m.d.cap m.d.xs hg.sm hx0 (by omega) (by omega) (by have := hm.vl; have e : m.pl.me.vs = m.mv.xs := rfl; rw [e] at this; omega) (by have := hm.dl; have e : m.pl.d = m.d.xs := rfl; rw [e] at this; omega)) rfl (fun _ h => h) rfl (fun _ _ h => h) ?_).safe trivial
  rintro v hp ⟨a1, a2, a3, a4, a5, a6, rfl⟩
  have hnd := nd_restarted n m.mi m.mm a1 a2 m.mv.xs a3 a4 m.d.xs a5 a6
  have htk : n.nd.take m.pl = (m.mi, ((n.restarted m.mi m.mm a1 a2 m.mv.xs a3 a4 m.d.xs a5 a6).took m.mi).nd) := by
    unfold Rf.Nd.take
    rw [if_neg hc']
    have e : (n.restarted m.mi m.mm a1 a2 m.mv.xs a3 a4 m.d.xs a5 a6).nd = n.nd.restart m.pl.me m.pl.d := hnd
    rw [← e]
    rfl
  generalize n.restarted m.mi m.mm a1 a2 m.mv.xs a3 a4 m.d.xs a5 a6 = N at *
  refine ⟨trivial, go_ok _ 100 _ _ ?_⟩
  simp only [go_sem, List.cons_append, List.nil_append, Nat.reduceBEq, Nat.reduceAdd, Nat.zero_add, Try.results78]
  exact fin (N.took m.mi) _ (X := [_]) htk rfl
end Go.SX

/- Raft: entries are appended, by the plain model. -/
namespace Go.SX
open Go.Proofs
set_option maxRecDepth 1000000
variable {E : Env}

theorem safe_code_mid {S : Setup} {k : List Frag} {st : St} {c : SCode} {ι : Type} (mid : ι → St) (hrest : ∀ x, Safe S k (mid x)) (h : (∀ x, Safe S k (mid x)) → Safe S (.code c :: k) st) : Safe S (.code c :: k) st := h hrest
theorem safe_unblk {S : Setup} {k : List Frag} {st : St} {id : Nat} (h : Safe S (.blk id :: k) st) : Safe S k st := fun ro0 F a w hg => by
  have := h ro0 F a w hg
  simpa only [contK] using this
theorem nd_lay (n : NL) {e : Ent} {r : List Ent} {la : Option Addr} {lc : Nat} {es' : List Ent} (h : Same (n.rs.es.take (e.ix - n.rs.mIx - 1).toNat ++ e :: r) es') :
    (n.logged la lc es' (if n.rs.fresh = 0 ∨ e.ix < n.rs.fresh then e.ix else n.rs.fresh)).nd = n.nd.lay ((e :: r).map Ent.pl) := by
  unfold Rf.Nd.lay
  rw [List.map_cons]
  have e2 : es'.map Ent.pl = n.nd.log.take (e.pl.ix - n.nd.me.ix - 1).toNat ++ e.pl :: r.map Ent.pl := by
    rw [h.pl, List.map_append, List.map_take]
    rfl
  show ({ (n.logged la lc es' _).nd with log := es'.map Ent.pl } : Rf.Nd) = _
  rw [e2]
  rfl
theorem pl_drop (l : List Ent) (i : Nat) : (l.drop i).map Ent.pl = (l.map Ent.pl).drop i := List.map_drop ..
def NL.cmd (n : NL) (i : Int) : NL := { n with s := { n.s with hC := i } }
structure W79 (n : NL) (xs : List Ent) where
  i : Nat
  hi : i ≤ xs.length
  eq : n.nd.lacks (xs.map Ent.pl) = n.nd.lacks ((xs.drop i).map Ent.pl)
  lo : i < xs.length → ∃ ix : Int, (xs.getD i default).ix = ix + 1 ∧ ix ≤ n.rs.last
set_option maxHeartbeats 4000000 in
theorem c79p (b : Nat) (n : NL) (m : MsL) {k j : Nat} (h : n.nd.fit k j) (hm : m.pl.fit k) (hr : Rf.row m.pl.es m.pl.ix m.pl.lt m.pl.tm = true) (hk1 : k ≤ 2 ^ 30) :
    Spec Try.prog E 79 [.ptr 0 b 0, .agg (encM m)] (nO b n) (fun v hp => v = .tup [Bl (n.nd.append m.pl).1.1, I (n.nd.append m.pl).1.2] ∧ ∃ n' : NL, n'.nd = (n.nd.append m.pl).2 ∧ hp = nO b n') := by
  refine Spec.see2 ?_
  generalize hP : SeeP _ = P
  have fin : ∀ (n' : NL) (r : (Bool × Int) × Rf.Nd) {X : List Chunk}, n.nd.append m.pl = r → n'.nd = r.2 → P (.tup [Bl r.1.1, I r.1.2]) (nO b n' ++ X) := by
    intro n' r X h1 h2
    rw [← hP]
    refine ⟨_, _, rfl, fun _ h => h, Sees.left, ?_, n', ?_, rfl⟩
    · rw [h1]
    · rw [h1, h2]
  have hg := fit_good h hk1
  have hla := nd_last n
  have hlk : n.rs.last ≤ k := by rw [← hla]; exact h.i1
  have hla0 : 0 ≤ n.rs.last := by
    obtain ⟨m0, m1, m2⟩ := hg.sm
    simp only [RS.last]
    omega
  have hix0 : 0 ≤ m.ix := hm.i0
  have hixk : m.ix + m.es.xs.length ≤ k := by have := hm.i1; have e : m.pl.es.length = m.es.xs.length := by show (m.es.xs.map Ent.pl).length = _; rw [List.length_map]
                                              rw [e] at this; exact this
  have hrow := Rf.row_ix hr
  have hcs : n.rs.hC = n.s.hC := rfl
  have hc0 : 0 ≤ n.s.hC := h.c0
  have hcl : n.s.hC ≤ n.rs.last := by rw [← hla]; exact h.c1
  refine Spec.of_ok fun ⟨ro, hro⟩ => ?_
  have hcap : m.es.xs.length ≤ m.es.cap := by
    have := oks_iff.1 hro _ (List.mem_cons_of_mem _ (List.mem_singleton.2 rfl))
    simp only [SV.ok] at this
    have := oks_iff.1 this (vE m.es.a m.es.cap m.es.xs) (by simp [encM])
    simp only [SV.ok] at this
    exact this.1
  clear hro
  refine spec_of (keep := k79) (args' := [.ptr 0 b 0, .agg (encM m)]) Try.func79 rfl Try.ntmps79 s79_ok (by simp) ⟨rfl, fun _ h => h⟩ (fun _ _ h => h) (go_ok _ 100 _ _ ?_)
  simp only [go_sem, s79, k79, Nat.reduceBEq, Nat.reduceAdd, Nat.zero_add, Try.results79]
  intro b1
  refine ⟨fun hc => ?_, fun hc => ?_⟩
  · have hc1 : m.ix < n.rs.hC := of_decide_eq_true hc
    have hc' : m.pl.ix < n.nd.hd.cm := hc1
    exact fin n ((true, n.nd.hd.cm), n.nd) (X := [_]) (by unfold Rf.Nd.append; rw [if_pos hc']) rfl
  have hc1 : ¬ m.ix < n.rs.hC := of_decide_eq_false hc
  have hc' : ¬ m.pl.ix < n.nd.hd.cm := hc1
  refine (stp_call [0] rfl rfl rfl ⟨_, Try.func40, rfl, rfl⟩ (c40 b n.rs hg.sm) rfl (fun _ h => h) rfl (fun _ _ h => h) ?_).safe trivial
  rintro v hp ⟨rfl, rfl⟩
  refine ⟨by simp only [recheck, recheck1, go_sem, Nat.reduceBEq, Nat.reduceAdd, Nat.zero_add], ?_⟩
  refine safe_ops_mid ⟨[(0, .ptr 0 b 0), (3, .ptr 7 b1 0), (4, Bl false), (5, I 0), (23, Bl (decide (n.rs.last < m.ix) || decide (n.rs.term m.ix ≠ m.lt)))], nO b n ++ [.cells b1 54 (encM m)]⟩ ?_ ?_
  · refine go_ok _ 100 _ _ ?_
    simp only [go_sem, Nat.reduceBEq, Nat.reduceAdd, Nat.zero_add, Try.results79]
    refine ⟨fun hd => ?_, fun hd => ?_⟩
    · have hd' : n.nd.last < m.pl.ix ∨ n.nd.term m.pl.ix ≠ m.pl.lt := by
        rw [nd_last, nd_term]
        show n.rs.last < m.ix ∨ n.rs.term m.ix ≠ m.lt
        simpa using hd
      refine ⟨by simp only [inI64]; omega, ?_⟩
      refine (stp_call [0] rfl rfl rfl ⟨_, Try.func40, rfl, rfl⟩ (c40 b n.rs hg.sm) rfl (fun _ h => h) rfl (fun _ _ h => h) ?_).safe trivial
      rintro v hp ⟨rfl, rfl⟩
      refine ⟨by simp only [recheck, recheck1, go_sem, Nat.reduceBEq, Nat.reduceAdd, Nat.zero_add]; simp only [inI64]; omega, go_ok _ 100 _ _ ?_⟩
      simp only [go_sem, Nat.reduceBEq, Nat.reduceAdd, Nat.zero_add, Try.results79]
      refine ⟨by simp only [inI64]; omega, ?_⟩
      exact fin n ((false, min n.rs.last (m.ix - 1)), n.nd) (X := [_]) (by unfold Rf.Nd.append; rw [if_neg hc', if_pos hd', hla]; rfl) rfl
    have hd' : ¬ (n.nd.last < m.pl.ix ∨ n.nd.term m.pl.ix ≠ m.pl.lt) := by
      rw [nd_last, nd_term]
      show ¬ (n.rs.last < m.ix ∨ n.rs.term m.ix ≠ m.lt)
      simpa using hd
    have hlm : m.ix ≤ n.rs.last := by
      rw [nd_last] at hd'
      have : ¬ n.rs.last < m.ix := fun q => hd' (.inl q)
      omega
    have hap : n.nd.append m.pl = ((true, m.ix + m.es.xs.length), { n.nd.lay (n.nd.lacks m.pl.es) with hd := { (n.nd.lay (n.nd.lacks m.pl.es)).hd with cm := max (n.nd.lay (n.nd.lacks m.pl.es)).hd.cm (min m.cm (m.ix + m.es.xs.length)) } }) := by
      unfold Rf.Nd.append
      rw [if_neg hc', if_neg hd']
      have e : m.pl.es.length = m.es.xs.length := by show (m.es.xs.map Ent.pl).length = _; rw [List.length_map]
      rw [e]
      rfl
    refine safe_code_mid (ι := {N : NL // N.nd = n.nd.lay (n.nd.lacks m.pl.es)}) (fun N => ⟨[(0, .ptr 0 b 0), (3, .ptr 7 b1 0)], nO b N.1 ++ [.cells b1 54 (encM m)]⟩) ?_ ?_
    · rintro ⟨N, hN⟩
      rw [← hN] at hap
      refine go_ok _ 100 _ _ ?_
      simp only [go_sem, List.cons_append, List.nil_append, Nat.reduceBEq, Nat.reduceAdd, Nat.zero_add, Try.results79]
      refine ⟨by simp only [inI64]; omega, ?_⟩
      exact fin (N.cmd (max N.s.hC (min m.cm (m.ix + m.es.xs.length)))) ((true, m.ix + m.es.xs.length), _) (X := [_]) hap rfl
    · intro hrest
      have hrest' := fun x => safe_unblk (hrest x)
      clear hrest
      refine safe_loop (ι := W79 n m.es.xs) (fun g => ⟨[(0, .ptr 0 b 0), (3, .ptr 7 b1 0), (51, vE m.es.a m.es.cap m.es.xs), (52, I m.es.xs.length), (53, I g.i)], nO b n ++ [.cells b1 54 (encM m)]⟩) (fun g => m.es.xs.length - g.i)
        ⟨0, Nat.zero_le _, by rw [List.drop_zero], fun hp => ⟨m.ix, by
          have := hrow 0 (by show 0 < (m.es.xs.map Ent.pl).length; rw [List.length_map]; exact hp)
          have e : (m.pl.es.getD 0 default).ix = (m.es.xs.getD 0 default).ix := by
            show ((m.es.xs.map Ent.pl).getD 0 default).ix = _
            rw [List.getD_eq_getElem?_getD, List.getD_eq_getElem?_getD, List.getElem?_map, List.getElem?_eq_getElem hp]
            rfl
          rw [← e, this]
          show m.ix + (0 : Nat) + 1 = m.ix + 1
          omega, hlm⟩⟩ (Sub.front (X := []) ⟨rfl, rfl, rfl, rfl, rfl, trivial⟩ rfl) ?_
      rintro ⟨i, hi, heq, hlo⟩
      refine go_ok _ 100 _ _ ?_
      simp only [go_sem, List.cons_append, List.nil_append, Nat.reduceBEq, Nat.reduceAdd, Nat.zero_add, Int.toNat_natCast, Try.results79]
      refine ⟨fun hcc => ?_, fun hcc => ?_⟩
      · have hlt : i < m.es.xs.length := by simpa using hcc
        obtain ⟨ix, hix, hixl⟩ := hlo hlt
        refine ⟨by omega, by decide, fun b2 => ?_⟩
        obtain ⟨hef, he0, he1⟩ : (m.es.xs.getD i default).pl.fit k ∧ 0 ≤ (m.es.xs.getD i default).ix ∧ (m.es.xs.getD i default).ix ≤ k := by
          have hmm : (m.es.xs.getD i default).pl ∈ m.pl.es := List.mem_map_of_mem (Rf.mem_getD hlt)
          exact hm.es _ hmm
        generalize hE : m.es.xs.getD i default = e at hix hef he0 he1 ⊢
        have hdr : (m.es.xs.drop i).map Ent.pl = e.pl :: (m.es.xs.drop (i + 1)).map Ent.pl := by
          rw [List.drop_eq_getElem_cons hlt, List.map_cons, ← hE, List.getD_eq_getElem?_getD, List.getElem?_eq_getElem hlt]
          rfl
        refine (stp_call [0] rfl rfl rfl ⟨_, Try.func40, rfl, rfl⟩ (c40 b n.rs hg.sm) rfl (fun _ h => h) rfl (fun _ _ h => h) ?_).safe trivial
        rintro v hp ⟨rfl, rfl⟩
        refine ⟨by simp only [recheck, recheck1, go_sem, Nat.reduceBEq, Nat.reduceAdd, Nat.zero_add], ?_⟩
        refine safe_ops_mid ⟨[(0, .ptr 0 b 0), (3, .ptr 7 b1 0), (6, I i), (51, vE m.es.a m.es.cap m.es.xs), (52, I m.es.xs.length), (53, I i), (75, Bl (decide (n.rs.last < e.ix) || decide (n.rs.term e.ix ≠ e.tm)))], nO b n ++ [.cells b1 54 (encM m), .cells b2 43 (encE e)]⟩ ?_ ?_
        · refine go_ok _ 100 _ _ ?_
          simp only [go_sem, List.cons_append, List.nil_append, Nat.reduceBEq, Nat.reduceAdd, Nat.zero_add, Int.toNat_natCast, Try.results79]
          refine ⟨fun hd => ?_, fun hd => ?_⟩
          · have hd' : n.nd.last < e.pl.ix ∨ n.nd.term e.pl.ix ≠ e.pl.tm := by
              rw [nd_last, nd_term]
              show n.rs.last < e.ix ∨ n.rs.term e.ix ≠ e.tm
              simpa using hd
            have hla2 : n.nd.lacks m.pl.es = (m.es.xs.drop i).map Ent.pl := by
              rw [show m.pl.es = m.es.xs.map Ent.pl from rfl, heq, hdr]
              unfold Rf.Nd.lacks
              rw [if_pos hd']
            rw [hla2] at hrest'
            rw [rows_drop, ← List.length_drop]
            refine ⟨by omega, ?_⟩
            have hde : m.es.xs.drop i = e :: m.es.xs.drop (i + 1) := by
              rw [List.drop_eq_getElem_cons hlt, ← hE, List.getD_eq_getElem?_getD, List.getElem?_eq_getElem hlt]
              rfl
            have hdl : (m.es.xs.drop i).length = m.es.xs.length - i := List.length_drop ..
            rw [hde] at hdl hrest' ⊢
            have hdd : ∀ x ∈ e :: m.es.xs.drop (i + 1), x.d.xs.length ≤ 2 ^ 40 := fun x hx => by
              rw [← hde] at hx
              have hmm : x.pl ∈ m.pl.es := List.mem_map_of_mem (List.mem_of_mem_drop hx)
              exact Nat.le_trans (hm.es _ hmm).1.d.1 (by decide)
            have hmI : n.rs.mIx ≤ k := by unfold RS.last at hlk; omega
            have hesl : (n.rs.es.length : Int) ≤ k := by have := hg.sm.m0; unfold RS.last at hlk; omega
            have hcm : n.rs.mIx ≤ n.s.hC := Int.le_trans h.a0 h.a1
            have hxe : m.ix < e.ix := by
              have := hrow i (by show i < (m.es.xs.map Ent.pl).length; rw [List.length_map]; exact hlt)
              have e2 : (m.pl.es.getD i default).ix = e.ix := by
                show ((m.es.xs.map Ent.pl).getD i default).ix = _
                rw [← hE, List.getD_eq_getElem?_getD, List.getD_eq_getElem?_getD, List.getElem?_map, List.getElem?_eq_getElem hlt]
                rfl
              rw [e2] at this
              have e3 : m.pl.ix = m.ix := rfl
              omega
            refine (stp_call [0] rfl rfl rfl ⟨_, Try.func72, rfl, rfl⟩ (c72m b n.rs e (m.es.xs.drop (i + 1)) _ _ hg.sm (fun e he => (hg.ok e he).1) hdd (by omega) (by omega) (by rw [hdl]; omega) (by omega)) rfl (fun _ h => h) rfl (fun _ _ h => h) ?_).safe trivial
            rintro v hp ⟨la, lc, es', hsame, rfl⟩
            refine ⟨trivial, go_ok _ 2 _ _ ?_⟩
            simp only [go_sem, Nat.reduceBEq, Nat.reduceAdd, Nat.zero_add, Try.results79]
            refine Safe.sub ?_ (hrest' ⟨n.logged la lc es' (if n.rs.fresh = 0 ∨ e.ix < n.rs.fresh then e.ix else n.rs.fresh), nd_lay n hsame⟩)
            exact Sub.front (X := [_]) ⟨rfl, rfl, trivial⟩ rfl
          · have hd' : ¬ (n.nd.last < e.pl.ix ∨ n.nd.term e.pl.ix ≠ e.pl.tm) := by
              rw [nd_last, nd_term]
              show ¬ (n.rs.last < e.ix ∨ n.rs.term e.ix ≠ e.tm)
              simpa using hd
            have hla2 : n.nd.lacks (m.es.xs.map Ent.pl) = n.nd.lacks ((m.es.xs.drop (i + 1)).map Ent.pl) := by
              rw [heq, hdr]
              show (if _ then _ else n.nd.lacks _) = _
              rw [if_neg hd']
            have hel : e.ix ≤ n.rs.last := by
              have : ¬ n.nd.last < e.pl.ix := fun q => hd' (.inl q)
              have e3 : e.pl.ix = e.ix := rfl
              omega
            refine ⟨by simp only [inI64]; omega, ?_⟩
            refine safe_lend (⟨i + 1, hlt, hla2, fun hl2 => ⟨e.ix, ?_, hel⟩⟩ : W79 n m.es.xs) ?_ ?_
            · have h1 := hrow i (by show i < (m.es.xs.map Ent.pl).length; rw [List.length_map]; exact hlt)
              have h2 := hrow (i + 1) (by show i + 1 < (m.es.xs.map Ent.pl).length; rw [List.length_map]; exact hl2)
              have e2 : ∀ c, c < m.es.xs.length → (m.pl.es.getD c default).ix = (m.es.xs.getD c default).ix := by
                intro c hc
                show ((m.es.xs.map Ent.pl).getD c default).ix = _
                rw [List.getD_eq_getElem?_getD, List.getD_eq_getElem?_getD, List.getElem?_map, List.getElem?_eq_getElem hc]
                rfl
              rw [e2 i hlt, hE] at h1
              rw [e2 _ hl2] at h2
              omega
            · simp only; omega
            · exact Sub.front (X := [_]) ⟨rfl, rfl, rfl, rfl, rfl, trivial⟩ rfl
        · intro hr2
          refine go_ok _ 13 _ _ ?_
          simp only [go_sem, Nat.reduceBEq, Nat.reduceAdd, Nat.zero_add]
          refine ⟨fun hd => ?_, fun hd => ?_, rfl⟩
          · have hd' : decide (n.rs.last < e.ix) = false := by simpa using hd
            refine (stp_call [0] (args := [.ptr 0 b 0, I e.ix]) rfl rfl rfl ⟨_, Try.func39, rfl, rfl⟩ (c39 b n.rs e.ix hg.sm (by omega) (by omega)) (by simp [SV.dens, SV.den, hd']) (fun _ h => by simp [SV.oks, SV.ok]) rfl (fun _ _ h => h) ?_).safeOn trivial
            rintro v hp ⟨rfl, rfl⟩
            refine ⟨by simp only [recheck, recheck1, go_sem, Nat.reduceBEq, Nat.reduceAdd, Nat.zero_add, hd'], go_ok _ 3 _ _ ?_⟩
            simp only [go_sem, Nat.reduceBEq, Nat.reduceAdd, Nat.zero_add, hd']
            rw [hd', Bool.false_or] at hr2
            refine Safe.sub ?_ hr2
            exact Sub.front (X := []) ⟨rfl, rfl, rfl, rfl, rfl, rfl, rfl, trivial⟩ rfl
          · have hd' : decide (n.rs.last < e.ix) = true := by simpa using hd
            rw [hd', Bool.true_or] at hr2
            simp only [hd']
            refine ⟨fun h => (by cases h), ?_⟩
            refine Safe.sub ?_ hr2
            exact Sub.front (X := []) ⟨rfl, rfl, rfl, rfl, rfl, rfl, rfl, trivial⟩ rfl
      · have hii : i = m.es.xs.length := by have : ¬ (i : Int) < m.es.xs.length := of_decide_eq_false hcc; omega
        subst hii
        have hla2 : n.nd.lacks m.pl.es = [] := by
          rw [show m.pl.es = m.es.xs.map Ent.pl from rfl, heq, List.drop_length]
          rfl
        rw [hla2] at hap
        refine ⟨by simp only [inI64]; omega, ?_⟩
        exact fin (n.cmd (max n.s.hC (min m.cm (m.ix + m.es.xs.length)))) ((true, m.ix + m.es.xs.length), _) (X := [_]) hap rfl
  · intro hrest
    refine go_ok _ 14 _ _ ?_
    simp only [go_sem, Nat.reduceBEq, Nat.reduceAdd, Nat.zero_add]
    refine ⟨fun hd => ?_, fun hd => ?_, rfl⟩
    · have hd' : decide (n.rs.last < m.ix) = false := by simpa using hd
      refine (stp_call [0] (args := [.ptr 0 b 0, I m.ix]) rfl rfl rfl ⟨_, Try.func39, rfl, rfl⟩ (c39 b n.rs m.ix hg.sm (by omega) (by omega)) (by simp [SV.dens, SV.den, hd']) (fun _ h => by simp [SV.oks, SV.ok]) rfl (fun _ _ h => h) ?_).safeOn trivial
      rintro v hp ⟨rfl, rfl⟩
      refine ⟨by simp only [recheck, recheck1, go_sem, Nat.reduceBEq, Nat.reduceAdd, Nat.zero_add, hd'], go_ok _ 4 _ _ ?_⟩
      simp only [go_sem, Nat.reduceBEq, Nat.reduceAdd, Nat.zero_add, hd']
      rw [hd', Bool.false_or] at hrest
      refine Safe.sub ?_ hrest
      exact Sub.front (X := []) ⟨rfl, rfl, rfl, rfl, rfl, trivial⟩ rfl
    · have hd' : decide (n.rs.last < m.ix) = true := by simpa using hd
      rw [hd', Bool.true_or] at hrest
      simp only [hd']
      refine ⟨fun h => (by cases h), ?_⟩
      refine Safe.sub ?_ hrest
      exact Sub.front (X := []) ⟨rfl, rfl, rfl, rfl, rfl, trivial⟩ rfl
end Go.SX
