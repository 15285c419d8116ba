/- Contracts of the raft package: entries told and laid. -/
import Derived.Test.YtpbbpmhahkeekaaSxR6
namespace Go.SX
open Go.Proofs
set_option maxRecDepth 1000000
variable {E : Env}

theorem c88 (a : Option Addr) (cap : Nat) (es : List Ent) : Spec Try.prog E 88 [vE a cap es] [] (fun v hp => hp = [] ∧ ∃ a', v = vE a' es.length es) := by
  refine Spec.of_ok fun ⟨ro, hro⟩ => ?_
  have hv := oks_iff.1 hro _ (List.mem_singleton.2 rfl)
  simp only [vE, SV.ok] at hv
  have hcap := hv.1
  refine spec_of (keep := k88) (args' := [vE a cap es]) Try.func88 rfl Try.ntmps88 s88_ok (by simp) ⟨rfl, fun _ h => h⟩ (fun _ _ h => h) (go_ok _ 100 _ _ ?_)
  simp only [go_sem, s88, k88, Nat.reduceBEq, Nat.reduceAdd, Nat.zero_add, Try.results88]
  refine ⟨⟨by omega, by omega, by omega, by omega, by omega, fun _ => rfl⟩, (if ((es.length : Nat) : Int) = 0 then a else a.map (fun x => x.add (Int.toNat 0 * 4))), ?_⟩
  simp only [Int.toNat_zero, Nat.sub_zero, Nat.add_zero, Int.toNat_natCast]

/-- big data are none -/
def RS.fitsD (s : RS) : Prop := ∀ e ∈ s.es, e.d.xs.length ≤ 2 ^ 40

theorem c44 (b : Nat) (s : RS) (hs : s.small) (hd : s.fitsD) (h0 : 0 ≤ s.fresh) (h1 : s.fresh ≤ 2 ^ 61) :
    Spec Try.prog E 44 [.ptr 0 b 0] [rC b s] (fun v hp => hp = [rC b { s with fresh := 0 }] ∧ ∃ a' cap' es', v = vE a' cap' es' ∧ Same (if s.fresh = 0 then [] else s.es.drop (min (max (s.fresh - s.mIx - 1) 0) s.es.length).toNat) es') := by
  refine Spec.conv (Post := fun v hp => hp = [rC b { s with fresh := 0 }] ∧ ((s.fresh = 0 ∧ v = nilS) ∨ s.fresh ≠ 0 ∧ ∃ a' cap' es', v = vE a' cap' es' ∧ Same (s.es.drop (min (max (s.fresh - s.mIx - 1) 0) s.es.length).toNat) es')) ?_ ?_
  · refine spec_of (keep := k44) (args' := [.ptr 0 b 0]) Try.func44 rfl Try.ntmps44 s44_ok (by simp) ⟨rfl, fun _ h => h⟩ (fun _ _ h => h) (go_ok _ 100 _ _ ?_)
    simp only [go_sem, s44, k44, Nat.reduceBEq, Nat.reduceAdd, Nat.zero_add, Try.results44]
    refine ⟨fun h => ?_, fun h => ?_⟩
    · have h' : s.fresh = 0 := by simpa using h
      refine ⟨?_, .inl ⟨h', rfl⟩⟩
      rw [← h']
    · have h' : s.fresh ≠ 0 := by simpa using h
      have hlen := hs.len
      refine (stp_call [0] rfl rfl rfl ⟨_, Try.func45, rfl, rfl⟩ (c45 b s s.fresh s.es.length hs hd (by omega) h1 (by omega)) rfl (fun _ h => h) rfl (fun _ _ h => h) ?_).safe trivial
      rintro v hp ⟨rfl, a', cap', es', rfl, hsame⟩
      refine ⟨trivial, go_ok _ 100 _ _ ?_⟩
      simp only [go_sem, Nat.reduceBEq, Nat.reduceAdd, Nat.zero_add, Try.results44]
      refine ⟨rfl, .inr ⟨h', a', cap', es', rfl, ?_⟩⟩
      rw [List.take_of_length_le (by simp)] at hsame
      exact hsame
  · rintro v hp ⟨rfl, ⟨h, rfl⟩ | ⟨h, a', cap', es', rfl, hsame⟩⟩
    · exact ⟨vE none 0 [], _, [], Eqv.nil 0 1 4 _ _, HEqv.refl _, rfl, none, 0, [], rfl, by rw [if_pos h]; rfl⟩
    · exact ⟨_, _, [], Eqv.refl _, HEqv.refl _, rfl, a', cap', es', rfl, by rw [if_neg h]; exact hsame⟩

theorem c72 (b : Nat) (s : RS) (e : Ent) (a : Option Addr) (cap : Nat) (hs : s.small) (hd : s.fitsD) (he : e.d.xs.length ≤ 2 ^ 40) (hix : e.ix = s.last + 1) (hl : s.es.length < 2 ^ 40) :
    Spec Try.prog E 72 [.ptr 0 b 0, vE a cap [e]] [rC b s] (fun _ hp => ∃ la lc es', Same (s.es ++ [e]) es' ∧ hp = [rC b { s with la := la, lc := lc, es := es', fresh := if s.fresh = 0 ∨ e.ix < s.fresh then e.ix else s.fresh }]) := by
  refine spec_of (keep := k72) (args' := [.ptr 0 b 0, vE a cap [e]]) Try.func72 rfl Try.ntmps72 s72_ok (by simp) ⟨rfl, fun _ h => h⟩ (fun _ _ h => h) (safe_cellview (c := 0) (kk := 4) rfl rfl fun hcap => go_ok _ 100 _ _ ?_)
  simp only [go_sem, s72, k72, Nat.reduceBEq, Nat.reduceAdd, Nat.zero_add, List.length_singleton]
  refine ⟨fun h => absurd h (by simp), fun _ => ?_⟩
  obtain ⟨m0, m1, m2⟩ := hs
  simp only [RS.last] at hix
  have e0 : ([e] : List Ent).getD 0 default = e := rfl
  have e1 : e.ix - s.mIx - 1 = (s.es.length : Int) := by omega
  simp only [Int.toNat_zero, e0, e1, Int.toNat_natCast, Nat.sub_zero, Nat.add_zero, inI64]
  and_intros
  all_goals try (first | omega | (intro h; cases h; done))
  refine (stp_call [] rfl rfl rfl ⟨_, Try.func88, rfl, rfl⟩ (c88 (if (s.lc : Int) = 0 then s.la else s.la.map (fun x => x.add (0 * 4))) s.lc s.es) rfl (fun _ h => h) rfl (fun _ _ h => h) ?_).safe trivial
  rintro v hp ⟨rfl, a2, rfl⟩
  refine ⟨by simp only [go_sem, Nat.reduceBEq, Nat.reduceAdd, Nat.zero_add], ?_⟩
  refine (stp_call [] rfl rfl rfl ⟨_, Try.func37, rfl, rfl⟩ (c37 a cap [e] (by simp) (by simpa using he)) rfl (fun _ h => h) rfl (fun _ _ h => h) ?_).safe trivial
  rintro v hp ⟨rfl, a3, cap3, es3, rfl, hs3⟩
  refine ⟨by simp only [go_sem, Nat.reduceBEq, Nat.reduceAdd, Nat.zero_add], ?_⟩
  have hl3 : es3.length = 1 := by simpa using hs3.len
  refine (stp_appv (A0 := a2) (n := s.es.length) (cap := s.es.length) (sz0 := 4) (sz := 4) (bytes := 48) (m := es3.length) (f := rowsV encE s.es) (gx := rowsV encE es3) rfl rfl rfl rfl (.inr rfl) (by omega) (by omega) fun b' cap' => ?_).safe trivial
  refine ⟨by simp only [go_sem, Nat.reduceBEq, Nat.reduceAdd, Nat.zero_add], ?_⟩
  refine safe_frz (hp := [rC b s]) ?_
  rw [appF_rows]
  have hla : s.es.length + es3.length = (s.es ++ es3).length := by simp
  rw [hla]
  refine go_ok _ 100 _ _ ?_
  simp only [go_sem, Nat.reduceBEq, Nat.reduceAdd, Nat.zero_add, frz, Try.results72]
  have hsame : Same (s.es ++ [e]) (s.es ++ es3) := by
    unfold Same at hs3 ⊢
    simp only [List.map_append, hs3]
  refine ⟨fun h => by rw [h]; rfl, fun h => ⟨some ⟨b', 0, none⟩, cap', s.es ++ es3, hsame, ?_⟩, fun h => ⟨some ⟨b', 0, none⟩, cap', s.es ++ es3, hsame, ?_⟩⟩
  · have h' : s.fresh = 0 ∨ e.ix < s.fresh := by simpa using h
    rw [if_pos h']
    simp only [if_neg (show ¬ False by simp)]
    rfl
  · have h' : ¬ (s.fresh = 0 ∨ e.ix < s.fresh) := by simpa using h
    rw [if_neg h']
    simp only [if_neg (show ¬ False by simp)]
    rfl

theorem c46 (b : Nat) (s : RS) (kd : Int) (a : Option Addr) (cap : Nat) (xs : List UInt8) (hs : s.small) (hd : s.fitsD) (he : xs.length ≤ 2 ^ 40) (hl : s.es.length < 2 ^ 40) :
    Spec Try.prog E 46 [.ptr 0 b 0, I kd, vB a cap xs] [rC b s] (fun v hp => v = I (s.last + 1) ∧ ∃ la lc es', Same (s.es ++ [⟨s.last + 1, s.hT, kd, ⟨a, cap, xs⟩⟩]) es' ∧
      hp = [rC b { s with la := la, lc := lc, es := es', fresh := if s.fresh = 0 ∨ s.last + 1 < s.fresh then s.last + 1 else s.fresh }]) := by
  refine Spec.leave (Post := fun v hp => v = I (s.last + 1) ∧ ∃ la lc es' X, Same (s.es ++ [⟨s.last + 1, s.hT, kd, ⟨a, cap, xs⟩⟩]) es' ∧
      hp = rC b { s with la := la, lc := lc, es := es', fresh := if s.fresh = 0 ∨ s.last + 1 < s.fresh then s.last + 1 else s.fresh } :: X) ?_
    (fun v hp ⟨h1, la, lc, es', X, h2, h3⟩ => ⟨[_], X, by rw [h3]; rfl, h1, la, lc, es', h2, rfl⟩)
  refine spec_of (keep := k46) (args' := [.ptr 0 b 0, I kd, vB a cap xs]) Try.func46 rfl Try.ntmps46 s46_ok (by simp) ⟨rfl, fun _ h => h⟩ (fun _ _ h => h) (go_ok _ 100 _ _ ?_)
  simp only [go_sem, s46, k46, Nat.reduceBEq, Nat.reduceAdd, Nat.zero_add]
  refine (stp_call [0] rfl rfl rfl ⟨_, Try.func40, rfl, rfl⟩ (c40 b s hs) rfl (fun _ h => h) rfl (fun _ _ h => h) ?_).safe trivial
  rintro v hp ⟨rfl, rfl⟩
  refine ⟨by simp only [go_sem, Nat.reduceBEq, Nat.reduceAdd, Nat.zero_add], go_ok _ 100 _ _ ?_⟩
  simp only [go_sem, Nat.reduceBEq, Nat.reduceAdd, Nat.zero_add]
  have hlast : 0 ≤ s.last ∧ s.last ≤ 2 ^ 61 + 2 ^ 40 := by
    obtain ⟨m0, m1, m2⟩ := hs
    simp only [RS.last]
    omega
  refine ⟨by simp only [inI64]; omega, fun b1 => ?_⟩
  refine safe_frz (hp := [rC b s]) ?_
  refine (stp_call [0] (args := [.ptr 0 b 0, vE (some ⟨b1, 0, none⟩) 1 [⟨s.last + 1, s.hT, kd, ⟨a, cap, xs⟩⟩]]) rfl rfl rfl ⟨_, Try.func72, rfl, rfl⟩ (c72 b s ⟨s.last + 1, s.hT, kd, ⟨a, cap, xs⟩⟩ (some ⟨b1, 0, none⟩) 1 hs hd he rfl hl) rfl (fun ro h => ?_) rfl (fun _ _ h => h) ?_).safe trivial
  · rw [oks_iff] at h ⊢
    intro x hx
    simp only [List.mem_cons, List.not_mem_nil, or_false] at hx
    rcases hx with rfl | rfl
    · simp only [SV.ok]
    · have h1 := h (frz false b1 0 1 1 4 (litF 4 [I (s.last + 1), I s.hT, I kd, vB a cap xs])) (by simp)
      refine (Eqv.view (fun i j hi hj => ?_)).2 _ h1
      have : i = 0 := by simpa using hi
      subst this
      simp only [litF, rowsV, Nat.zero_mul, Nat.zero_add]
      rfl
  · rintro v hp ⟨la, lc, es', hsame, rfl⟩
    have hlen := hsame.len
    simp only [List.length_append, List.length_singleton] at hlen
    refine ⟨trivial, go_ok _ 100 _ _ ?_⟩
    simp only [go_sem, Nat.reduceBEq, Nat.reduceAdd, Nat.zero_add]
    refine (stp_call [0] rfl rfl rfl ⟨_, Try.func40, rfl, rfl⟩ (c40 b { s with la := la, lc := lc, es := es', fresh := if s.fresh = 0 ∨ s.last + 1 < s.fresh then s.last + 1 else s.fresh } ⟨hs.m0, hs.m1, show es'.length ≤ 2 ^ 40 by omega⟩) rfl (fun _ h => h) rfl (fun _ _ h => h) ?_).safe trivial
    rintro v hp ⟨rfl, rfl⟩
    refine ⟨trivial, go_ok _ 100 _ _ ?_⟩
    simp only [go_sem, Nat.reduceBEq, Nat.reduceAdd, Nat.zero_add, Try.results46]
    refine ⟨?_, la, lc, es', [], hsame, ?_⟩
    · have : s.mIx + (es'.length : Int) = s.mIx + (s.es.length : Int) + 1 := by omega
      simp only [RS.last, this]
    · rfl
end Go.SX
