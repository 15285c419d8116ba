/- The disk: within, and what the laws know. -/
import Derived.Test.YthpnhfnilogflaaSxK9
namespace Go.SX
open Go.Proofs
set_option maxRecDepth 1000000
variable {E : Env}

theorem tmod_emod {x n : Int} (h : 0 < n) : (if Int.tmod x n < 0 then Int.tmod x n + n else Int.tmod x n) = x % n := by
  have h1 := Int.mul_tdiv_add_tmod x n
  have hlt : Int.tmod x n < n := Int.tmod_lt_of_pos x h
  have hgt : -n < Int.tmod x n := Int.neg_lt_of_neg_lt (Int.neg_tmod x n ▸ Int.tmod_lt_of_pos (-x) h)
  have e : x % n = Int.tmod x n % n := by
    conv => lhs; rw [← h1]
    rw [Int.add_comm, Int.add_mul_emod_self_left]
  rw [e]
  split
  · rw [← Int.add_emod_right, Int.emod_eq_of_lt (by omega) (by omega)]
  · rw [Int.emod_eq_of_lt (by omega) hlt]

theorem c15 (x n : Int) (h : 0 < n) (hn : n ≤ 2 ^ 62) : Spec Try.prog E 15 [I x, I n] [] (fun v hp => v = I (x % n) ∧ hp = []) := by
  have hlt : Int.tmod x n < n := Int.tmod_lt_of_pos x h
  have hgt : -n < Int.tmod x n := Int.neg_lt_of_neg_lt (Int.neg_tmod x n ▸ Int.tmod_lt_of_pos (-x) h)
  refine spec_of (keep := k15) (args' := [I x, I n]) Try.func15 rfl Try.ntmps15 s15_ok (by simp) ⟨rfl, fun _ h => h⟩ (fun _ _ h => h) (go_ok _ 100 _ _ ?_)
  simp only [go_sem, s15, k15, Nat.reduceBEq, Nat.zero_add, Try.results15]
  have e := tmod_emod (x := x) h
  refine ⟨by omega, fun hc => ⟨by simp only [inI64]; omega, ?_⟩, fun hc => ?_⟩
  · rw [if_pos (by simpa using hc)] at e
    rw [e]
  · rw [if_neg (by simpa using hc)] at e
    rw [e]


theorem used_fs (L : List FL) : usedB L = ((L.map (·.toFS)).map fun f => f.xs.length).sum := by
  unfold usedB
  rw [List.map_map]
  rfl
/-- where a file stands, by what is known of the files -/
def fndF : List FS → List UInt8 → Option Nat
  | [], _ => none
  | f :: r, x => if f.nm = x then some 0 else (fndF r x).map (· + 1)
theorem fnd_fs : ∀ (L : List FL) (x : List UInt8), fnd L x = fndF (L.map (·.toFS)) x
  | [], _ => rfl
  | f :: r, x => by
    simp only [fnd, List.map_cons, fndF]
    rw [fnd_fs r x]
def readF (l : List FS) (dead : Bool) (x : List UInt8) : List UInt8 × Int :=
  if dead then ([], 13) else if nameB x then (match fndF l x with | none => ([], 2) | some i => ((l.getD i ⟨[], [], 0⟩).xs, 0)) else ([], 1)
theorem readL_fs (d : DS) (x : List UInt8) : readL d x = readF (d.L.map (·.toFS)) d.dead x := by
  unfold readL readF
  rw [fnd_fs]
  split
  · rfl
  · split
    · cases h : fndF (d.L.map (·.toFS)) x with
      | none => rfl
      | some i =>
        simp only
        rw [← fnd_fs] at h
        obtain ⟨f, hf, _⟩ := fnd_some h
        simp [List.getD_eq_getElem?_getD, hf]
    · rfl
def namesF (l : List FS) : List (List UInt8) := sortT (l.map (·.nm))
theorem names_fs (d : DS) : namesOf d.mp = namesF (d.L.map (·.toFS)) := by
  unfold namesOf namesF
  congr 1
  simp [DS.mp]
theorem sync_fs (d : DS) (h : ∀ f ∈ d.L.map (·.toFS), f.syn ≤ f.xs.length) : ∀ f ∈ d.L, f.syn ≤ f.xs.length := fun f hf => h f.toFS (List.mem_map.2 ⟨f, hf, rfl⟩)

def sumF (l : List FS) : Nat := (l.map fun f => f.xs.length).sum
/-- a disk that will not stop, by what is known of it -/
structure Alive (d : DS) (r o : Int) (fs : List FS) : Prop where
  room : d.room = r
  ops : d.ops = o
  left : d.left = 0
  dead : d.dead = false
  fs : d.L.map (·.toFS) = fs
theorem Alive.used {d : DS} {r o : Int} {fs : List FS} (h : Alive d r o fs) : usedB d.L = sumF fs := by rw [used_fs, h.fs]; rfl
theorem Alive.ok {d : DS} {r o : Int} {fs : List FS} (h : Alive d r o fs) (h1 : 0 ≤ r) (h2 : r < 2 ^ 63) (h3 : (sumF fs : Int) ≤ r) (h4 : sumF fs ≤ 2 ^ 30) (h5 : 0 ≤ o) (h6 : o < 2 ^ 60) : DOk d :=
  ⟨by rw [h.room]; exact h1, by rw [h.room]; exact h2, by rw [h.used, h.room]; exact h3, by rw [h.used]; exact h4, by rw [h.ops]; exact h5, by rw [h.ops]; exact h6, by rw [h.left]; simp only [inI64]; decide⟩
theorem Alive.begun {d : DS} {r o : Int} {fs : List FS} (h : Alive d r o fs) : d.begun = d := by
  rw [DS.begun, h.left]
  rfl
theorem Alive.did {d : DS} {r o : Int} {fs : List FS} (h : Alive d r o fs) {L' : List FL} {fs' : List FS} (hL : L'.map (·.toFS) = fs') : Alive { d.begun.did with L := L' } r (o + 1) fs' := by
  rw [h.begun]
  exact ⟨h.room, by show d.ops + 1 = _; rw [h.ops], h.left, h.dead, hL⟩
theorem Alive.app {b : Nat} {d : DS} {r o : Int} {fs : List FS} (h : Alive d r o fs) {x ys : List UInt8} {X : List Chunk} {v : SV} {hp : List Chunk} (hx : nameB x = true) (hf : (sumF fs : Int) + ys.length ≤ r) (hv : AppP b d x ys X v hp) :
    v = I 0 ∧ ∃ d', Alive d' r (o + 1) (addF fs x ys) ∧ hp = dO b d' ++ X := by
  have hdead : d.begun.dead = false := by rw [h.begun]; exact h.dead
  rcases hv with ⟨h1, _⟩ | ⟨_, h1, _⟩ | ⟨_, _, h1, _⟩ | ⟨_, _, _, rfl, L', hL, rfl⟩
  · rw [hdead] at h1; cases h1
  · rw [hx] at h1; cases h1
  · rw [h.room, h.used] at h1; omega
  · exact ⟨rfl, _, h.did (by rw [hL, h.fs]), rfl⟩
theorem Alive.one {b : Nat} {d : DS} {r o : Int} {fs : List FS} (h : Alive d r o fs) {x : List UInt8} {g : List FS → List FS} {v : SV} {hp : List Chunk} (hx : nameB x = true) (hf : fndF fs x ≠ none) (hv : OneP b d x g v hp) :
    v = I 0 ∧ ∃ d', Alive d' r (o + 1) (g fs) ∧ hp = dO b d' := by
  have hdead : d.begun.dead = false := by rw [h.begun]; exact h.dead
  rcases hv with ⟨h1, _⟩ | ⟨_, h1, _⟩ | ⟨_, _, h1, _⟩ | ⟨_, _, _, rfl, L', hL, rfl⟩
  · rw [hdead] at h1; cases h1
  · rw [hx] at h1; cases h1
  · rw [fnd_fs, h.fs] at h1; exact absurd h1 hf
  · exact ⟨rfl, _, h.did (by rw [hL, h.fs]), rfl⟩
theorem Alive.crash {b : Nat} {d : DS} {r o : Int} {fs : List FS} (h : Alive d r o fs) {picks : List Int} {v : SV} {hp : List Chunk} (hv : CrashP b d picks v hp) :
    v = I (crashL fs picks (namesF fs)).2 ∧ ∃ d', Alive d' r o (crashL fs picks (namesF fs)).1 ∧ hp = dO b d' := by
  obtain ⟨L', h1, rfl, rfl⟩ := hv
  have e : crashD d picks = crashL fs picks (namesF fs) := by rw [crashD, names_fs, h.fs]
  rw [e] at h1 ⊢
  exact ⟨rfl, { d with left := 0, dead := false, L := L' }, ⟨h.room, h.ops, rfl, rfl, h1⟩, rfl⟩

def b3 : List UInt8 := [120, 121, 122]
def b2 : List UInt8 := [117, 118]
theorem c10 : Spec Try.prog E 10 [] [] (fun v hp => v = Bl true ∧ hp = []) := by
  refine Spec.leave (Post := fun v hp => v = Bl true ∧ ∃ X, hp = X) ?_ (fun v hp ⟨h1, X, h2⟩ => ⟨[], X, by simpa using h2, h1, rfl⟩)
  refine spec_of (keep := k10) (args' := []) Try.func10 rfl Try.ntmps10 s10_ok (by simp) ⟨rfl, fun _ h => h⟩ (fun _ _ h => h) (go_ok _ 100 _ _ ?_)
  simp only [go_sem, s10, k10, Nat.reduceBEq]
  refine (stp_call [] rfl rfl rfl ⟨_, Try.func11, rfl, rfl⟩ (c11 100 0) rfl (fun _ h => h) rfl (fun _ _ h => h) ?_).safe trivial
  rintro v hp (⟨h, _, _⟩ | ⟨_, b, M, rfl, rfl⟩)
  · exact absurd h (by decide)
  refine ⟨trivial, go_ok _ 100 _ _ ?_⟩
  simp only [go_sem, Nat.reduceBEq, Nat.reduceAdd, Nat.zero_add, Try.results10]
  refine ⟨fun h => absurd h (by decide), fun _ b1 => ?_⟩
  have A0 : Alive ⟨100, 0, 0, false, M, []⟩ 100 0 [] := ⟨rfl, rfl, rfl, rfl, rfl⟩
  generalize hd0 : (⟨100, 0, 0, false, M, []⟩ : DS) = d0 at A0
  have hdO : [Chunk.cells b 68 [I 100, .val (.map (some M)), I 0, I 0, Bl false], mpC kvS M d0.mp, sepC []] = dO b d0 := by rw [← hd0]; rfl
  refine Stp.safeE (stp_conv (xo := .t 16) (e := 5) (c := 3) (b := b1) (off := 0) (n := 3) (cap := 3) (off' := 0) (sz := 1) (n' := 3) (cap' := 3) (T := 5) (f := litF 1 [.val (.int .u8 120), .val (.int .u8 121), .val (.int .u8 122)]) rfl (by kernel_rfl) (by kernel_rfl) rfl rfl trivial ?_) rfl
  refine safe_frzC (c := 3) (f' := rowsV encB b3) (env' := [(17, frz false b1 0 3 3 1 (rowsV encB b3)), (16, frz false b1 0 3 3 1 (rowsV encB b3)), (15, .ptr 0 b 0), (14, Bl (decide ((0 : Int) ≠ 0))), (0, Bl false), (1, .ptr 0 b 0), (2, I 0)]) rfl (fun i j hi hj => ?_)
    ⟨rfl, .inr ⟨rfl, rfl⟩, rfl, .inr ⟨rfl, rfl⟩, rfl, .inl rfl, rfl, .inl rfl, rfl, .inl rfl, rfl, .inl rfl, rfl, .inl rfl, trivial⟩ ?_
  · obtain rfl : j = 0 := by omega
    rcases i with _ | _ | _ | i <;> first | omega | rfl
  refine (stp_call [0, 1, 2] (args := [.ptr 0 b 0, T [97], vB (some ⟨b1, 0, none⟩) 3 b3]) rfl rfl rfl ⟨_, Try.func12, rfl, rfl⟩ (c12v b d0 [97] (some ⟨b1, 0, none⟩) 3 b3 (A0.ok (by decide) (by decide) (by decide) (by decide) (by decide) (by decide)) (by decide)) rfl (fun _ h => h) rfl (fun ro H h => by rw [← hdO]; exact h) ?_).safe trivial
  rintro v hp hv
  obtain ⟨rfl, d1, A1, rfl⟩ := A0.app (by decide) (by decide) hv
  have e1 : addF [] [97] b3 = [⟨[97], b3, 0⟩] := rfl
  rw [e1] at A1
  clear hv hd0 hdO A0
  refine ⟨trivial, go_ok _ 100 _ _ ?_⟩
  simp only [go_sem, List.append_nil, Nat.reduceBEq]
  refine (stp_call [0, 1, 2] (args := [.ptr 0 b 0, T [97]]) rfl rfl rfl ⟨_, Try.func19, rfl, rfl⟩ (c19 b d1 [97] (A1.ok (by decide) (by decide) (by decide) (by decide) (by decide) (by decide))) rfl (fun _ h => h) rfl (fun _ _ h => h) ?_).safe trivial
  rintro v hp hv
  obtain ⟨rfl, d2, A2, rfl⟩ := A1.one (by decide) (by decide) hv
  have e2 : synF [⟨[97], b3, 0⟩] [97] = [⟨[97], b3, 3⟩] := rfl
  simp only [e2] at A2
  clear hv A1
  refine ⟨trivial, go_ok _ 100 _ _ ?_⟩
  simp only [go_sem, Nat.reduceBEq, Nat.reduceAdd, Nat.zero_add]
  intro b4
  refine Stp.safeE (stp_conv (xo := .t 22) (e := 5) (c := 4) (b := b4) (off := 0) (n := 2) (cap := 2) (off' := 0) (sz := 1) (n' := 2) (cap' := 2) (T := 5) (f := litF 1 [.val (.int .u8 117), .val (.int .u8 118)]) rfl (by kernel_rfl) (by kernel_rfl) rfl rfl trivial ?_) rfl
  refine safe_frzC (c := 4) (f' := rowsV encB b2) (env' := [(23, frz false b4 0 2 2 1 (rowsV encB b2)), (22, frz false b4 0 2 2 1 (rowsV encB b2)), (21, .ptr 0 b 0), (0, Bl false), (1, .ptr 0 b 0), (2, I 0)]) rfl (fun i j hi hj => ?_)
    ⟨rfl, .inr ⟨rfl, rfl⟩, rfl, .inr ⟨rfl, rfl⟩, rfl, .inl rfl, rfl, .inl rfl, rfl, .inl rfl, rfl, .inl rfl, trivial⟩ ?_
  · obtain rfl : j = 0 := by omega
    rcases i with _ | _ | i <;> first | omega | rfl
  refine (stp_call [0, 1, 2] (args := [.ptr 0 b 0, T [97], vB (some ⟨b4, 0, none⟩) 2 b2]) rfl rfl rfl ⟨_, Try.func12, rfl, rfl⟩ (c12v b d2 [97] (some ⟨b4, 0, none⟩) 2 b2 (A2.ok (by decide) (by decide) (by decide) (by decide) (by decide) (by decide)) (by decide)) rfl (fun _ h => h) rfl (fun _ _ h => h) ?_).safe trivial
  rintro v hp hv
  obtain ⟨rfl, d3, A3, rfl⟩ := A2.app (by decide) (by decide) hv
  have e3 : addF [⟨[97], b3, 3⟩] [97] b2 = [⟨[97], b3 ++ b2, 3⟩] := rfl
  rw [e3] at A3
  clear hv A2
  refine ⟨trivial, go_ok _ 100 _ _ ?_⟩
  simp only [go_sem, List.append_nil, Nat.reduceBEq, Nat.reduceAdd, Nat.zero_add]
  intro b5
  refine safe_frzC (c := 5) (f' := rowsV encI [1]) (env' := [(26, frz false b5 0 1 1 1 (rowsV encI [1])), (25, .ptr 0 b 0), (0, Bl false), (1, .ptr 0 b 0), (2, I 0)]) rfl (fun i j hi hj => ?_)
    ⟨rfl, .inr ⟨rfl, rfl⟩, rfl, .inl rfl, rfl, .inl rfl, rfl, .inl rfl, rfl, .inl rfl, trivial⟩ ?_
  · obtain rfl : j = 0 := by omega
    obtain rfl : i = 0 := by omega
    rfl
  have hL3 : d3.L.length ≤ 2 ^ 30 := by
    have := congrArg List.length A3.fs
    simp at this
    omega
  have hs3 : ∀ f ∈ d3.L, f.syn ≤ f.xs.length := sync_fs d3 (by rw [A3.fs]; intro f hf; simp at hf; subst hf; decide)
  refine (stp_call [0, 1, 2] (args := [.ptr 0 b 0, vI (some ⟨b5, 0, none⟩) 1 [1]]) rfl rfl rfl ⟨_, Try.func22, rfl, rfl⟩ (c22 b d3 (some ⟨b5, 0, none⟩) 1 [1] (by rw [A3.used]; decide) hL3 hs3) rfl (fun _ h => h) rfl (fun _ _ h => h) ?_).safe trivial
  rintro v hp hv
  obtain ⟨rfl, d4, A4, rfl⟩ := A3.crash hv
  have hnm : namesF [⟨[97], b3 ++ b2, 3⟩] = [[97]] := by simp [namesF, sortT]
  have e4 : crashL [⟨[97], b3 ++ b2, 3⟩] [1] [[97]] = ([⟨[97], [120, 121, 122, 117], 4⟩], 1) := by rfl
  rw [hnm, e4] at A4 ⊢
  clear hv A3 hL3 hs3
  refine ⟨trivial, go_ok _ 100 _ _ ?_⟩
  simp only [go_sem, Nat.reduceBEq]
  refine (stp_call [0, 1, 2] (args := [.ptr 0 b 0, T [97]]) rfl rfl rfl ⟨_, Try.func13, rfl, rfl⟩ (c13 b d4 6 [97] (by rw [A4.used]; decide)) rfl (fun _ h => h) rfl (fun _ _ h => h) ?_).safe trivial
  have hrd : readL d4 [97] = ([120, 121, 122, 117], 0) := by rw [readL_fs, A4.fs, A4.dead]; decide
  rintro v hp ⟨nl, b6, off, cap, rfl, rfl⟩
  rw [hrd]
  refine ⟨trivial, go_ok _ 9 _ _ ?_⟩
  simp only [go_sem, List.cons_append, List.nil_append, Nat.reduceBEq, Nat.reduceAdd, Nat.zero_add]
  refine safe_frzC (c := 6) (f' := rowsV encB [120, 121, 122, 117]) (env' := [(33, I 1), (0, Bl false), (1, .ptr 0 b 0), (2, I 0), (3, I 1), (4, .view (if nl then none else some ⟨b6, off, none⟩) 4 cap 1 (rowsV encB [120, 121, 122, 117]))]) rfl (fun i j hi hj => rfl)
    ⟨rfl, .inl rfl, rfl, .inl rfl, rfl, .inl rfl, rfl, .inl rfl, rfl, .inl rfl, rfl, .inr ⟨rfl, rfl⟩, trivial⟩ ?_
  have q1 : decide ((1 : Int) = 1) = true := by decide
  have q2 : decide ((0 : Int) = 0) = true := by decide
  refine go_ok _ 100 _ _ ?_
  simp only [go_sem, Nat.reduceBEq, Try.results10]
  refine ⟨?_, fun h => absurd h (by decide), rfl⟩
  refine safe_othOn (oth_str (e := 5) (xs := [120, 121, 122, 117]) (ad := if nl then none else some ⟨b6, off, none⟩) (n := 4) (cap := cap) (f := rowsV encB [120, 121, 122, 117]) (xo := .t 40) rfl (by kernel_rfl) (by kernel_rfl) (by kernel_rfl) rfl rfl (fun ro h => by simp only [SV.ok] at h ⊢; exact h trivial) rfl fun i _ => rfl) (show 41 < 44 by decide) trivial ?_
  refine go_ok _ 100 _ _ ?_
  simp only [go_sem, Nat.reduceBEq, Try.results10]
  exact ⟨_, rfl⟩
end Go.SX
