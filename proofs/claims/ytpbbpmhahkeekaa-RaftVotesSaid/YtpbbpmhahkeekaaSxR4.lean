/- Contracts of the raft package: the state; the journal's small ones. -/
import Derived.Test.YtpbbpmhahkeekaaSxR3
import Derived.Test.YtpbbpmhahkeekaaSxSA
namespace Go.SX
open Go.Proofs
set_option maxRecDepth 1000000
variable {E : Env}

structure RS where
  mIx : Int
  mTm : Int
  mV : SV
  dat : SV
  la : Option Addr
  lc : Nat
  es : List Ent
  fi : SV
  fresh : Int
  ticks : Int
  taken : Int
  draw : Int
  beats : Int
  id : Int
  hT : Int
  hV : Int
  hC : Int
  tT : Int
  tV : Int
  tC : Int
  applied : Int
  role : Int
  leader : Int
  votes : SV
  peers : SV
  round : Int
  waits : SV
  reads : SV
  msgs : SV
  snap : Bool
@[go_sem] def RS.cs (s : RS) : List SV := [I s.mIx, I s.mTm, s.mV, s.dat, vE s.la s.lc s.es, s.fi, I s.fresh, I s.ticks, I s.taken, I s.draw, I s.beats, I s.id, I s.hT, I s.hV, I s.hC, I s.tT, I s.tV, I s.tC, I s.applied, I s.role, I s.leader,
  s.votes, s.peers, I s.round, s.waits, s.reads, s.msgs, Bl s.snap]
abbrev rC (b : Nat) (s : RS) : Chunk := .cells b 95 s.cs

/-- numbers that do not run over -/
structure RS.small (s : RS) : Prop where
  m0 : 0 ≤ s.mIx
  m1 : s.mIx ≤ 2 ^ 61
  len : s.es.length ≤ 2 ^ 40

def RS.last (s : RS) : Int := s.mIx + s.es.length
def RS.term (s : RS) (i : Int) : Int :=
  if 0 < i - s.mIx ∧ i - s.mIx ≤ s.es.length then (s.es.getD (i - s.mIx - 1).toNat default).tm else if i = s.mIx ∧ 0 < i then s.mTm else 0

theorem c40 (b : Nat) (s : RS) (h : s.small) : Spec Try.prog E 40 [.ptr 0 b 0] [rC b s] (fun v hp => v = I s.last ∧ hp = [rC b s]) := by
  refine spec_of (keep := k40) (args' := [.ptr 0 b 0]) Try.func40 rfl Try.ntmps40 s40_ok (by simp) ⟨rfl, fun _ h => h⟩ (fun _ _ h => h) (go_ok _ 100 _ _ ?_)
  simp only [go_sem, s40, k40, Nat.reduceBEq, Nat.reduceAdd, Nat.zero_add, Try.results40, inI64]
  obtain ⟨h1, h2, h3⟩ := h
  exact ⟨by omega, rfl⟩

theorem c39 (b : Nat) (s : RS) (i : Int) (h : s.small) (h0 : -(2 ^ 61) ≤ i) (h1 : i ≤ 2 ^ 61) : Spec Try.prog E 39 [.ptr 0 b 0, I i] [rC b s] (fun v hp => v = I (s.term i) ∧ hp = [rC b s]) := by
  refine spec_of (keep := k39) (args' := [.ptr 0 b 0, I i]) Try.func39 rfl Try.ntmps39 s39_ok (by simp) ⟨rfl, fun _ h => h⟩ (fun _ _ h => h) (go_ok _ 100 _ _ ?_)
  simp only [go_sem, s39, k39, Nat.reduceBEq, Nat.reduceAdd, Nat.zero_add, Try.results39, inI64]
  obtain ⟨m1, m2, m3⟩ := h
  refine ⟨by omega, fun h => by rw [h]; rfl, fun h => ?_, fun h => ⟨fun h' => ?_, fun h' => ?_⟩⟩
  all_goals simp only [Bool.and_eq_true, decide_eq_true_eq, Bool.and_eq_false_iff, decide_eq_false_iff_not] at *
  · refine ⟨by omega, by omega, by omega, ?_⟩
    unfold RS.term
    rw [if_pos h]
  · unfold RS.term
    rw [if_neg (by omega), if_pos h']
  · unfold RS.term
    rw [if_neg (by omega), if_neg (by omega)]

theorem c76 (a : Option Addr) (cap : Nat) (xs : List Int) (x : Int) (hl : xs.length < 2 ^ 62) : Spec Try.prog E 76 [vI a cap xs, I x] [] (fun v hp => ∃ r : Int, v = I r ∧ (0 ≤ r ↔ x ∈ xs) ∧ hp = []) := by
  refine spec_of (keep := k76) (args' := [vI a cap xs, I x]) Try.func76 rfl Try.ntmps76 s76_ok (by simp) ⟨rfl, fun _ h => h⟩ (fun _ _ h => h) (go_ok _ 100 _ _ ?_)
  simp only [go_sem, s76, k76, Nat.reduceBEq, Nat.reduceAdd, Nat.zero_add]
  refine safe_loop (fun i : {i : Nat // i ≤ xs.length ∧ ∀ k, k < i → x ≠ xs.getD k 0} => ⟨[(0, vI a cap xs), (1, I x), (7, I xs.length), (8, I i.1)], []⟩) (fun i => xs.length - i.1) ⟨0, by omega, by omega⟩
    (Sub.front (by simp [envSub, look]) rfl) ?_
  rintro ⟨i, hi, hall⟩
  refine go_ok _ 100 _ _ ?_
  simp only [go_sem, Nat.reduceBEq, Nat.reduceAdd, Nat.zero_add, Try.results76]
  rw [Int.toNat_natCast]
  refine ⟨fun h => ?_, fun h => ⟨-1, rfl, ?_⟩⟩
  · have hlt : i < xs.length := by simpa using h
    refine ⟨by omega, by omega, fun h => ⟨i, rfl, ⟨fun _ => ?_, fun _ => by omega⟩⟩, fun h => ⟨by simp only [inI64]; omega, ?_⟩⟩
    · have : x = xs.getD i 0 := by simpa using h
      rw [this, List.getD_eq_getElem?_getD, List.getElem?_eq_getElem hlt]
      exact List.getElem_mem _
    · have h : x ≠ xs.getD i 0 := by simpa using h
      refine safe_lend ⟨i + 1, hlt, fun k hk => ?_⟩ (by simp only; omega) (Sub.front (by simp [envSub, look]) rfl)
      rcases Nat.lt_or_eq_of_le (Nat.lt_succ_iff.1 hk) with h1 | rfl
      · exact hall k h1
      · exact h
  · have hi' : i = xs.length := by simp at h; omega
    refine ⟨fun h => by omega, fun hm => ?_⟩
    obtain ⟨k, hk, rfl⟩ := List.getElem_of_mem hm
    exact absurd (by simp [List.getD_eq_getElem?_getD, hk]) (hall k (by omega))

theorem c54 (a : Option Addr) (cap : Nat) (xs : List Int) (x : Int) (hl : xs.length < 2 ^ 62) : Spec Try.prog E 54 [vI a cap xs, I x] [] (fun v hp => v = Bl (decide (x ∈ xs)) ∧ hp = []) := by
  refine spec_of (keep := k54) (args' := [vI a cap xs, I x]) Try.func54 rfl Try.ntmps54 s54_ok (by simp) ⟨rfl, fun _ h => h⟩ (fun _ _ h => h) (go_ok _ 100 _ _ ?_)
  simp only [go_sem, s54, k54, Nat.reduceBEq, Nat.reduceAdd, Nat.zero_add]
  refine (stp_call [] rfl rfl rfl ⟨_, Try.func76, rfl, rfl⟩ (c76 a cap xs x hl) rfl (fun _ h => h) rfl (fun _ _ h => h) ?_).safe trivial
  rintro v hp ⟨r, rfl, hr, rfl⟩
  refine ⟨trivial, go_ok _ 100 _ _ ?_⟩
  simp only [go_sem, Nat.reduceBEq, Try.results54]
  simp [hr]

/-- a copy that is the caller's own -/
theorem c38o (c : Nat) (a : Option Addr) (cap : Nat) (xs : List Int) (hl : xs.length * 8 ≤ 140737488355328) (h0 : 0 < xs.length) :
    Spec Try.prog E 38 [vI a cap xs] [] (fun v hp => ∃ nl b off cap', v = .osl c nl b off xs.length cap' ∧ hp = [.row nl b 3 off 1 xs.length cap' (rowsV encI xs)]) := by
  refine Spec.of_ok fun ⟨ro, hro⟩ => ?_
  have ha := view_nil (oks_iff.1 hro _ (List.mem_singleton.2 rfl)) (by omega)
  refine Spec.conv (Post := fun v hp => ∃ nl b off cap', v = .osl 0 nl b off xs.length cap' ∧ hp = [.row nl b 3 off 1 xs.length cap' (rowsV encI xs)]) ?_ ?_
  · refine spec_of (keep := k38) (args' := [vI a cap xs]) Try.func38 rfl Try.ntmps38 s38_ok (by simp) ⟨rfl, fun _ h => h⟩ (fun _ _ h => h) (go_ok _ 100 _ _ ?_)
    simp only [go_sem, s38, k38, Nat.reduceBEq, Try.results38]
    refine ⟨fun h => absurd (ha h) (by omega), fun h b => ?_⟩
    refine (stp_app (c := 0) (x := vI a cap xs) (gx := rowsV encI xs) rfl rfl rfl rfl rfl (onesF_rows fun x => ⟨rfl, by simp [encI, ones, one, Value.oneCell']⟩) (by omega) fun nl' b' off' cap' => ?_).safe trivial
    refine ⟨trivial, ?_⟩
    rw [Nat.zero_add, appF_zero]
    refine go_ok _ 100 _ _ ?_
    simp only [go_sem, Nat.reduceBEq, Try.results38]
    exact ⟨nl', b', off', cap', rfl, rfl⟩
  · rintro v hp ⟨nl, b, off, cap', rfl, rfl⟩
    exact ⟨.osl c nl b off xs.length cap', _, [], ⟨rfl, fun _ h => h⟩, HEqv.refl _, nl, b, off, cap', rfl, rfl⟩

/-- who votes, where no entry says it and there is no snapshot -/
structure RS.lone (s : RS) (id : Int) : Prop where
  ix : s.mIx = 0
  kd : ∀ e ∈ s.es, e.kd ≠ 2
  fi : ∃ a cap, s.fi = vI a cap [id]

theorem RS.lone.chg {s : RS} {id : Int} (h : s.lone id) (u : Int) : chg s.es u = 0 :=
  chg_false u _ _ fun e he => by simp [isCh, h.kd e he]

theorem c64 (c b : Nat) (s : RS) (id u : Int) (hs : s.small) (hl : s.lone id) : Spec Try.prog E 64 [.ptr 0 b 0, I u] [rC b s] (fun v hp => ∃ nl b' off cap', v = .osl c nl b' off 1 cap' ∧ hp = [rC b s, .row nl b' 3 off 1 1 cap' (rowsV encI [id])]) := by
  obtain ⟨fa, fc, hfi⟩ := hl.fi
  have h0 := hl.ix
  refine spec_of (keep := k64) (args' := [.ptr 0 b 0, I u]) Try.func64 rfl Try.ntmps64 s64_ok (by simp) ⟨rfl, fun _ h => h⟩ (fun _ _ h => h) (go_ok _ 100 _ _ ?_)
  simp only [go_sem, s64, k64, Nat.reduceBEq, Nat.reduceAdd, Nat.zero_add]
  have hlen := hs.len
  refine (stp_call [0] rfl rfl rfl ⟨_, Try.func61, rfl, rfl⟩ (c61 b u 95 s.cs s.la s.lc s.es rfl (by omega)) rfl (fun _ h => h) rfl (fun _ _ h => h) ?_).safe trivial
  rintro v hp ⟨rfl, rfl⟩
  refine ⟨trivial, go_ok _ 100 _ _ ?_⟩
  rw [hl.chg]
  simp only [go_sem, Nat.reduceBEq, Nat.reduceAdd, Nat.zero_add, Int.lt_irrefl, decide_false, h0, hfi]
  refine (stp_call [] rfl rfl rfl ⟨_, Try.func38, rfl, rfl⟩ (c38o c fa fc [id] (by simp) (by simp)) rfl (fun _ h => h) rfl (fun _ _ h => h) ?_).safe trivial
  rintro v hp ⟨nl, b', off, cap', rfl, rfl⟩
  refine ⟨trivial, go_ok _ 100 _ _ ?_⟩
  simp only [go_sem, Nat.reduceBEq, Try.results64]
  exact ⟨nl, b', off, cap', rfl, by simp only [rC, RS.cs, h0, hfi]⟩

theorem c26 (c b : Nat) (s : RS) (id : Int) (hs : s.small) (hl : s.lone id) : Spec Try.prog E 26 [.ptr 0 b 0] [rC b s] (fun v hp => ∃ nl b' off cap', v = .osl c nl b' off 1 cap' ∧ hp = [rC b s, .row nl b' 3 off 1 1 cap' (rowsV encI [id])]) := by
  refine spec_of (keep := k26) (args' := [.ptr 0 b 0]) Try.func26 rfl Try.ntmps26 s26_ok (by simp) ⟨rfl, fun _ h => h⟩ (fun _ _ h => h) (go_ok _ 100 _ _ ?_)
  simp only [go_sem, s26, k26, Nat.reduceBEq, Nat.reduceAdd, Nat.zero_add]
  refine (stp_call [0] rfl rfl rfl ⟨_, Try.func40, rfl, rfl⟩ (c40 b s hs) rfl (fun _ h => h) rfl (fun _ _ h => h) ?_).safe trivial
  rintro v hp ⟨rfl, rfl⟩
  refine ⟨by simp only [go_sem, Nat.reduceBEq, Nat.reduceAdd, Nat.zero_add], ?_⟩
  refine (stp_call [0] rfl rfl rfl ⟨_, Try.func64, rfl, rfl⟩ (c64 c b s id s.last hs hl) rfl (fun _ h => h) rfl (fun _ _ h => h) ?_).safe trivial
  rintro v hp ⟨nl, b', off, cap', rfl, rfl⟩
  refine ⟨trivial, go_ok _ 100 _ _ ?_⟩
  simp only [go_sem, Nat.reduceBEq, Try.results26]
  exact ⟨nl, b', off, cap', rfl, rfl⟩

theorem c42 (b : Nat) (s : RS) (id : Int) (hs : s.small) (hl : s.lone id) (hid : s.id = id) : Spec Try.prog E 42 [.ptr 0 b 0] [rC b s] (fun v hp => v = Bl true ∧ hp = [rC b s]) := by
  refine spec_of (keep := k42) (args' := [.ptr 0 b 0]) Try.func42 rfl Try.ntmps42 s42_ok (by simp) ⟨rfl, fun _ h => h⟩ (fun _ _ h => h) (go_ok _ 100 _ _ ?_)
  simp only [go_sem, s42, k42, Nat.reduceBEq, Nat.reduceAdd, Nat.zero_add]
  refine (stp_call [0] rfl rfl rfl ⟨_, Try.func26, rfl, rfl⟩ (c26 1 b s id hs hl) rfl (fun _ h => h) rfl (fun _ _ h => h) ?_).safe trivial
  rintro v hp ⟨nl, b', off, cap', rfl, rfl⟩
  refine ⟨by simp only [go_sem, Nat.reduceBEq, Nat.reduceAdd, Nat.zero_add], ?_⟩
  refine safe_frz (hp := [rC b s]) ?_
  refine (stp_call [] rfl rfl rfl ⟨_, Try.func54, rfl, rfl⟩ (c54 _ _ [id] s.id (by simp)) rfl (fun _ h => h) rfl (fun _ _ h => h) ?_).safe trivial
  rintro v hp ⟨rfl, rfl⟩
  refine ⟨trivial, go_ok _ 100 _ _ ?_⟩
  simp only [go_sem, Nat.reduceBEq, Try.results42]
  simp [hid]
end Go.SX
