/- Contracts of the raft package: a single voter is elected. -/
import Derived.Test.YtpbbpmhahkeekaaSxR10
namespace Go.SX
open Go.Proofs
set_option maxRecDepth 1000000
variable {E : Env}

theorem Same.mem {es es' : List Ent} (h : Same es es') {e : Ent} (he : e ∈ es') : ∃ x ∈ es, x.core = e.core := by
  have : e.core ∈ es'.map Ent.core := List.mem_map_of_mem he
  rw [h] at this
  obtain ⟨x, hx, hx2⟩ := List.mem_map.1 this
  exact ⟨x, hx, hx2⟩
theorem Same.kd {es es' : List Ent} (h : Same es es') (hk : ∀ e ∈ es, e.kd ≠ 2) : ∀ e ∈ es', e.kd ≠ 2 := fun e he => by
  obtain ⟨x, hx, hc⟩ := h.mem he
  have : x.kd = e.kd := congrArg (fun c => c.2.2.1) hc
  rw [← this]
  exact hk x hx
theorem Same.fits {es es' : List Ent} (h : Same es es') (hk : ∀ e ∈ es, e.d.xs.length ≤ 2 ^ 40) : ∀ e ∈ es', e.d.xs.length ≤ 2 ^ 40 := fun e he => by
  obtain ⟨x, hx, hc⟩ := h.mem he
  have : x.d.xs = e.d.xs := congrArg (fun c => c.2.2.2) hc
  rw [← this]
  exact hk x hx

/-- a single voter leads -/
def RS.led (s : RS) (bm : Nat) (la : Option Addr) (lc : Nat) (es' : List Ent) : RS :=
  { s with role := 2, leader := s.id, beats := 0, peers := .val (.map (some bm)), la := la, lc := lc, es := es', fresh := if s.fresh = 0 ∨ s.last + 1 < s.fresh then s.last + 1 else s.fresh }

theorem c55 (b : Nat) (s : RS) (a : Option Addr) (cap : Nat) (hs : s.small) (hl : s.lone s.id) (hd : s.fitsD) (hlen : s.es.length < 2 ^ 40) (hv : s.votes = vI a cap [s.id]) (h0 : 0 ≤ s.hC) :
    Spec Try.prog E 55 [.ptr 0 b 0] [rC b s] (fun _ hp => ∃ bm la lc es' X, Same (s.es ++ [⟨s.last + 1, s.hT, 1, ⟨none, 0, []⟩⟩]) es' ∧ hp = rC b (s.led bm la lc es').looked :: X) := by
  refine spec_of (keep := k55) (args' := [.ptr 0 b 0]) Try.func55 rfl Try.ntmps55 s55_ok (by simp) ⟨rfl, fun _ h => h⟩ (fun _ _ h => h) (go_ok _ 100 _ _ ?_)
  simp only [go_sem, s55, k55, Nat.reduceBEq, Nat.reduceAdd, Nat.zero_add]
  intro bx
  refine (stp_call [0, 1] rfl rfl rfl ⟨_, Try.func73, rfl, rfl⟩ (c73a b 77 s [.ptr 1 bx 0] (.cells bx 24 [.ptr 0 b 0]) hs hl ⟨_, Try.func77, rfl, rfl⟩ (c77 b bx s a cap hv)) rfl (fun _ h => h) rfl (fun _ _ h => h) ?_).safe trivial
  rintro v hp ⟨rfl, rfl⟩
  refine ⟨trivial, go_ok _ 100 _ _ ?_⟩
  simp only [go_sem, Nat.reduceBEq, Nat.reduceAdd, Nat.zero_add, reduceCtorEq]
  refine Stp.safeE (stp_mkmap fun bm => ⟨trivial, ?_⟩) rfl
  refine go_ok _ 100 _ _ ?_
  simp only [go_sem, Nat.reduceBEq, Nat.reduceAdd, Nat.zero_add]
  have hsm : RS.small { s with role := 2, leader := s.id, beats := 0, peers := .val (.map (some bm)) } := ⟨hs.m0, hs.m1, hs.len⟩
  have hl1 : RS.lone { s with role := 2, leader := s.id, beats := 0, peers := .val (.map (some bm)) } s.id := ⟨hl.ix, hl.kd, hl.fi⟩
  refine (stp_call [0] rfl rfl rfl ⟨_, Try.func63, rfl, rfl⟩ (c63 b { s with role := 2, leader := s.id, beats := 0, peers := .val (.map (some bm)) } hsm hl1) rfl (fun _ h => h) rfl (fun _ _ h => h) ?_).safe trivial
  rintro v hp ⟨c, nl, br, off, cap', rfl, rfl⟩
  refine ⟨trivial, go_ok _ 100 _ _ ?_⟩
  simp only [go_sem, Nat.reduceBEq, Nat.reduceAdd, Nat.zero_add]
  refine safe_loop (ι := Unit) (fun _ => ⟨[(0, .ptr 0 b 0), (1, .ptr 1 bx 0), (28, I 0), (29, I 0)], [rC b { s with role := 2, leader := s.id, beats := 0, peers := .val (.map (some bm)) }, .cells bx 24 [.ptr 0 b 0]]⟩) (fun _ => 0) ()
    (Sub.front (by simp [envSub, look]) rfl) ?_
  intro _
  refine go_ok _ 100 _ _ ?_
  simp only [go_sem, Nat.reduceBEq, Nat.reduceAdd, Nat.zero_add]
  refine ⟨fun h => absurd h (by decide), fun _ => ?_⟩
  refine (stp_call [0] (args := [.ptr 0 b 0, I 1, vB none 0 []]) rfl rfl rfl ⟨_, Try.func46, rfl, rfl⟩ (c46 b { s with role := 2, leader := s.id, beats := 0, peers := .val (.map (some bm)) } 1 none 0 [] hsm hd (by simp) hlen) rfl (fun _ h => ?_) rfl (fun _ _ h => h) ?_).safe trivial
  · simp only [SV.oks, SV.ok, List.length_nil]
    exact ⟨trivial, trivial, ⟨Nat.le_refl _, fun i j hi => absurd hi (by omega)⟩, trivial⟩
  rintro v hp ⟨rfl, la, lc, es', hsame, rfl⟩
  refine ⟨trivial, go_ok _ 100 _ _ ?_⟩
  simp only [go_sem, Nat.reduceBEq, Nat.reduceAdd, Nat.zero_add]
  have hsame' : Same (s.es ++ [⟨s.last + 1, s.hT, 1, ⟨none, 0, []⟩⟩]) es' := hsame
  have hl2 := hsame'.len
  simp only [List.length_append, List.length_singleton] at hl2
  have hsm2 : (s.led bm la lc es').small := ⟨hs.m0, hs.m1, show es'.length ≤ 2 ^ 40 by omega⟩
  have hkd : ∀ e ∈ es', e.kd ≠ 2 := hsame'.kd fun e he => by
    rcases List.mem_append.1 he with he | he
    · exact hl.kd e he
    · rw [List.mem_singleton.1 he]; show (1 : Int) ≠ 2; decide
  have hlo2 : (s.led bm la lc es').lone (s.led bm la lc es').id := ⟨hl.ix, hkd, hl.fi⟩
  refine (stp_call [0] rfl rfl rfl ⟨_, Try.func41, rfl, rfl⟩ (c41 b (s.led bm la lc es') hsm2 hlo2) rfl (fun _ h => h) rfl (fun _ _ h => h) ?_).safe trivial
  rintro v hp rfl
  refine ⟨trivial, go_ok _ 100 _ _ ?_⟩
  simp only [go_sem, Nat.reduceBEq, Nat.reduceAdd, Nat.zero_add]
  refine (stp_call [0] rfl rfl rfl ⟨_, Try.func47, rfl, rfl⟩ (c47 b (s.led bm la lc es') hsm2 hlo2 h0) rfl (fun _ h => h) rfl (fun _ _ h => h) ?_).safe trivial
  rintro v hp rfl
  refine ⟨trivial, go_ok _ 100 _ _ ?_⟩
  simp only [go_sem, Nat.reduceBEq, Nat.reduceAdd, Nat.zero_add, Try.results55]
  exact ⟨bm, la, lc, es', _, hsame', rfl⟩
end Go.SX
