/- The disk: Crash. -/
import Derived.Test.YthpnhfnilogflaaSxK8
namespace Go.SX
open Go.Proofs
set_option maxRecDepth 1000000
variable {E : Env}

def crashK (picks : List Int) (n lost : Nat) : Int := if n < picks.length then (((picks.getD n 0).tmod ((lost : Int) + 1) + lost) + 1).tmod ((lost : Int) + 1) else 0
theorem tmod_bd (p : Int) (m : Nat) : -((m : Int) + 1) < p.tmod ((m : Int) + 1) ∧ p.tmod ((m : Int) + 1) < (m : Int) + 1 := by
  refine ⟨?_, Int.tmod_lt_of_pos p (by omega)⟩
  rcases Int.le_total 0 p with h0 | h0
  · have := Int.tmod_nonneg ((m : Int) + 1) h0
    omega
  · rw [show p = -(-p) by omega, Int.neg_tmod]
    have := Int.tmod_lt_of_pos (-p) (b := (m : Int) + 1) (by omega)
    omega
theorem crashK_le (picks : List Int) (n lost : Nat) : 0 ≤ crashK picks n lost ∧ crashK picks n lost ≤ lost := by
  unfold crashK
  split
  · obtain ⟨h2, h1⟩ := tmod_bd (picks.getD n 0) lost
    generalize (picks.getD n 0).tmod ((lost : Int) + 1) = q at h1 h2
    have h3 : 0 ≤ q + lost + 1 := by omega
    have h4 := Int.tmod_nonneg ((lost : Int) + 1) h3
    have h5 := Int.tmod_lt_of_pos (q + lost + 1) (b := (lost : Int) + 1) (by omega)
    exact ⟨h4, by omega⟩
  · omega
/-- a file behind a crash -/
def FS.crashed (f : FS) (picks : List Int) (n : Nat) : FS := { f with xs := f.xs.take (f.syn + (crashK picks n (f.xs.length - f.syn)).toNat), syn := f.syn + (crashK picks n (f.xs.length - f.syn)).toNat }
def crashF : List FS → List Int → Nat → List UInt8 → List FS × Nat
  | [], _, n, _ => ([], n)
  | f :: r, picks, n, x => if f.nm = x then (if f.xs.length = f.syn then (f :: r, n) else (f.crashed picks n :: r, n + 1)) else ((f :: (crashF r picks n x).1), (crashF r picks n x).2)
def crashL (l : List FS) (picks : List Int) (xs : List (List UInt8)) : List FS × Nat := xs.foldl (fun s x => crashF s.1 picks s.2 x) (l, 0)
def crashD (d : DS) (picks : List Int) : List FS × Nat := crashL (d.L.map (·.toFS)) picks (namesOf d.mp)
def CrashP (b : Nat) (d : DS) (picks : List Int) (v : SV) (hp : List Chunk) : Prop :=
  ∃ L', L'.map (·.toFS) = (crashD d picks).1 ∧ v = I (crashD d picks).2 ∧ hp = dO b { d with left := 0, dead := false, L := L' }

theorem crashF_skip : ∀ {L : List FL} {picks : List Int} {n : Nat} {x : List UInt8} {j : Nat} {f : FL}, fnd L x = some j → L[j]? = some f → f.xs.length = f.syn → crashF (L.map (·.toFS)) picks n x = (L.map (·.toFS), n)
  | [], _, _, _, _, _, h, _, _ => by cases h
  | g :: r, picks, n, x, j, f, h, hf, he => by
    simp only [fnd] at h
    split at h
    · rename_i hg
      injection h with h
      subst h
      simp only [List.getElem?_cons_zero, Option.some.injEq] at hf
      subst hf
      simp [crashF, hg, he]
    · rename_i hg
      cases hr : fnd r x with
      | none => rw [hr] at h; cases h
      | some k =>
        rw [hr] at h
        injection h with h
        subst h
        simp only [List.getElem?_cons_succ] at hf
        simp only [List.map_cons, crashF, if_neg hg]
        rw [crashF_skip hr hf he]
theorem crashF_hit : ∀ {L : List FL} {picks : List Int} {n : Nat} {x : List UInt8} {j : Nat} {f f' : FL}, fnd L x = some j → L[j]? = some f → f.xs.length ≠ f.syn → f'.toFS = f.toFS.crashed picks n → crashF (L.map (·.toFS)) picks n x = ((L.set j f').map (·.toFS), n + 1)
  | [], _, _, _, _, _, _, h, _, _, _ => by cases h
  | g :: r, picks, n, x, j, f, f', h, hf, he, he' => by
    simp only [fnd] at h
    split at h
    · rename_i hg
      injection h with h
      subst h
      simp only [List.getElem?_cons_zero, Option.some.injEq] at hf
      subst hf
      simp [crashF, hg, he, he']
    · rename_i hg
      cases hr : fnd r x with
      | none => rw [hr] at h; cases h
      | some k =>
        rw [hr] at h
        injection h with h
        subst h
        simp only [List.getElem?_cons_succ] at hf
        simp only [List.map_cons, crashF, if_neg hg, List.set_cons_succ]
        rw [crashF_hit hr hf he he']

theorem row_shrink {ro : RO} {H : Hp} {nl : Bool} {b : Nat} {t : TypeId} {off n' cap : Nat} {xs : List UInt8} (h : n' ≤ xs.length) (hs : (Chunk.row nl b t off 1 xs.length cap (rowsV encB xs)).sat ro H) : (Chunk.row nl b t off 1 n' n' (rowsV encB (xs.take n'))).sat ro H := by
  cases nl with
  | true =>
    obtain ⟨rfl, h1, h2⟩ := hs
    exact ⟨rfl, by omega, by omega⟩
  | false =>
    obtain ⟨arr, fz, rfl, h0, h1, h2, h3⟩ := hs
    refine ⟨arr, fz, rfl, h0, Nat.le_refl _, by omega, fun i j hi hj => ?_⟩
    have e : rowsV encB (xs.take n') i j = rowsV encB xs i j := by
      simp only [rowsV, List.getD_eq_getElem?_getD, List.getElem?_take, hi, if_true]
    rw [e]
    exact h3 i j (by omega) hj

structure CI (d : DS) (picks : List Int) where
  i : Nat
  n : Nat
  L : List FL
  hi : i ≤ (namesOf d.mp).length
  hn : n ≤ i
  hm : L.map (fun f => (f.nm, SV.ptr 0 f.fb 0)) = d.mp
  hs : crashL (d.L.map (·.toFS)) picks ((namesOf d.mp).take i) = (L.map (·.toFS), n)
  sy : ∀ f ∈ L, f.syn ≤ f.xs.length
  hx : ∀ f ∈ L, f.xs.length ≤ 2 ^ 30
theorem CI.found {d : DS} {picks : List Int} (g : CI d picks) (h : g.i < (namesOf d.mp).length) : ∃ j f, fnd g.L ((namesOf d.mp).getD g.i []) = some j ∧ g.L[j]? = some f ∧ f.nm = (namesOf d.mp).getD g.i [] := by
  have hx : (namesOf d.mp).getD g.i [] ∈ d.mp.map (·.1) := by
    have h1 : (namesOf d.mp).getD g.i [] ∈ namesOf d.mp := by
      rw [List.getD_eq_getElem?_getD, List.getElem?_eq_getElem h]
      exact List.getElem_mem h
    exact (List.mergeSort_perm _ _).mem_iff.1 h1
  have hx' : (namesOf d.mp).getD g.i [] ∈ (g.L.map (fun f => (f.nm, SV.ptr 0 f.fb 0))).map (·.1) := by rw [g.hm]; exact hx
  cases hf : fnd g.L ((namesOf d.mp).getD g.i []) with
  | none =>
    exfalso
    simp only [List.map_map, List.mem_map] at hx'
    obtain ⟨f, hf1, hf2⟩ := hx'
    exact fnd_none hf f hf1 hf2
  | some j =>
    obtain ⟨f, h1, h2⟩ := fnd_some hf
    exact ⟨j, f, rfl, h1, h2⟩

theorem c22 (b : Nat) (d : DS) (a : Option Addr) (cap : Nat) (picks : List Int) (hu : usedB d.L ≤ 2 ^ 30) (hl : d.L.length ≤ 2 ^ 30) (hsy : ∀ f ∈ d.L, f.syn ≤ f.xs.length) : Spec Try.prog E 22 [.ptr 0 b 0, vI a cap picks] (dO b d) (CrashP b d picks) := by
  refine Spec.see2 ?_
  generalize hP : SeeP (CrashP b d picks) = P
  refine spec_of (keep := k22) (args' := [.ptr 0 b 0, vI a cap picks]) Try.func22 rfl Try.ntmps22 s22_ok (by simp) ⟨rfl, fun _ h => h⟩ (fun _ _ h => h) (go_ok _ 100 _ _ ?_)
  simp only [go_sem, s22, k22, Nat.reduceBEq, Nat.zero_add]
  refine (stp_call [] rfl rfl rfl ⟨_, Try.func40, rfl, rfl⟩ (c40 d.M) rfl (fun _ h => h) rfl (fun _ _ h => h) ?_).safe trivial
  rintro v hp ⟨bx, rfl, rfl⟩
  refine ⟨trivial, go_ok _ 100 _ _ ?_⟩
  simp only [go_sem]
  refine (stp_call [3, 1] (args := [.fn (.func 48) [] [.ptr 0 bx 0]]) rfl rfl rfl ⟨_, Try.func39, rfl, rfl⟩ (c39 bx d.M 4 d.mp (by simpa using hl)) rfl (fun _ h => ?_) rfl (fun _ _ h => h) ?_).safe trivial
  · simp [SV.oks, SV.ok]
  rintro v hp ⟨nl, b', off, cap', rfl, rfl⟩
  refine ⟨trivial, go_ok _ 100 _ _ ?_⟩
  simp only [go_sem, kbox, List.cons_append, List.nil_append, Nat.reduceBEq]
  have hmx : ∀ f ∈ d.L, f.xs.length ≤ 2 ^ 30 := fun f hf => Nat.le_trans (le_used hf) hu
  generalize hns : namesOf d.mp = ns
  have hnl : ns.length ≤ 2 ^ 30 := by
    rw [← hns, namesOf, sortT_len]
    simpa using hl
  refine safe_loop (ι := CI d picks) (fun g => ⟨[(0, .ptr 0 b 0), (1, vI a cap picks), (5, I g.n), (16, .osl 4 nl b' off ns.length cap'), (17, I ns.length), (18, I g.i)],
    [.cells b 68 [I d.room, .val (.map (some d.M)), I d.ops, I d.left, Bl d.dead], mpC kvS d.M d.mp, sepC (g.L.map fC), .cells bx 66 [.val (.map (some d.M))], .row nl b' 9 off 1 ns.length cap' (rowsV encT ns)]⟩) (fun g => ns.length - g.i)
    ⟨0, 0, d.L, Nat.zero_le _, Nat.le_refl _, rfl, rfl, hsy, hmx⟩ (Sub.front (X := []) ⟨rfl, rfl, rfl, rfl, rfl, rfl, trivial⟩ rfl) ?_
  intro g
  refine go_ok _ 100 _ _ ?_
  simp only [go_sem, Nat.reduceBEq, Nat.zero_add, Try.results22, Int.toNat_natCast]
  refine ⟨fun h => ?_, fun h => ?_⟩
  · have hlt : g.i < ns.length := by simpa using h
    refine ⟨by omega, by omega, ?_⟩
    obtain ⟨j, f, hf, hfi, hfn⟩ := g.found (by rw [hns]; exact hlt)
    rw [hns] at hf hfn
    refine safe_oth (oth_lookup1 (K := kvS) (x := ns.getD g.i []) (b := d.M) (es := d.mp) (z := .pointer none) (mo := .t 25) (ko := .t 26) 1 rfl rfl Try.underlying66 (by kernel_rfl) rfl rfl rfl (by kernel_rfl)) trivial ?_
    have hlk : lookE d.mp (ns.getD g.i []) = some (.ptr 0 f.fb 0) := by
      rw [← g.hm, look_mp, hf]
      simp [List.getD_eq_getElem?_getD, hfi]
    rw [hlk]
    refine go_ok _ 4 _ _ ?_
    simp only [go_sem, Option.getD_some, Nat.reduceBEq]
    refine safe_env (env' := [(0, .ptr 0 b 0), (1, vI a cap picks), (5, I g.n), (7, T (ns.getD g.i [])), (8, .ptr 5 f.fb 0), (16, .osl 4 nl b' off ns.length cap'), (17, I ns.length), (18, I g.i)]) ⟨seen _ _ _ rfl, seen _ _ _ rfl, seen _ _ _ rfl, seen _ _ _ rfl, seenP _ _ _ _ _ _ rfl rfl, seen _ _ _ rfl, seen _ _ _ rfl, seen _ _ _ rfl, trivial⟩ ?_
    refine safe_sees (Sees.file (c := 2) (i := j) (L := g.L) (f := f) 6 rfl hfi) ?_
    have hfm := List.mem_of_getElem? hfi
    have hfs := g.sy f hfm
    have hfx := g.hx f hfm
    have hgn := g.hn
    have hgi : g.i ≤ 2 ^ 30 := by omega
    have hsnext : crashL (d.L.map (·.toFS)) picks (ns.take (g.i + 1)) = crashF (g.L.map (·.toFS)) picks g.n (ns.getD g.i []) := by
      have h1 := g.hs
      rw [hns] at h1
      rw [List.take_add_one, List.getElem?_eq_getElem hlt]
      simp only [crashL, Option.toList_some, List.foldl_append, List.foldl_cons, List.foldl_nil] at h1 ⊢
      rw [h1]
      simp [List.getD_eq_getElem?_getD, hlt]
    refine go_ok _ 32 _ _ ?_
    simp only [go_sem, fcell, frow, Nat.reduceBEq, Nat.zero_add]
    refine ⟨by simp only [inI64]; omega, fun h0 => ?_, fun h0 => ?_⟩
    · have h0 : f.xs.length = f.syn := by simp at h0; omega
      refine ⟨by simp only [inI64]; omega, ?_⟩
      refine safe_sees (Sees.trans (Sees.back (hp := [_, _, _, _, _]) (c := 2) (i := j) (L := g.L) (f := f) (f' := f) (q := 6) rfl hfi) (Sees.of_eq (by rw [set_same hfi]))) ?_
      refine safe_lend ⟨g.i + 1, g.n, g.L, by rw [hns]; omega, by omega, g.hm, ?_, g.sy, g.hx⟩ (by simp only; omega) (Sub.front (X := []) ⟨rfl, rfl, rfl, rfl, rfl, rfl, trivial⟩ rfl)
      rw [hns, hsnext]
      exact crashF_skip hf hfi h0
    · have hne : f.xs.length ≠ f.syn := by have := of_decide_eq_false h0; omega
      have hK := crashK_le picks g.n (f.xs.length - f.syn)
      refine safe_cond_mid (p := decide ((g.n : Int) < picks.length)) ⟨[(0, .ptr 0 b 0), (1, vI a cap picks), (5, I g.n), (8, .ptr 5 f.fb 0), (10, I (crashK picks g.n (f.xs.length - f.syn))), (16, .osl 4 nl b' off ns.length cap'), (17, I ns.length), (18, I g.i)],
        [.cells b 68 [I d.room, .val (.map (some d.M)), I d.ops, I d.left, Bl d.dead], mpC kvS d.M d.mp, sepC (setC (g.L.map fC) j .emp), .cells bx 66 [.val (.map (some d.M))], .row nl b' 9 off 1 ns.length cap' (rowsV encT ns), fcell 6 f, frow f]⟩ rfl ?_ ?_ ?_
      · have hcr : f.toFS.crashed picks g.n = ⟨f.nm, f.xs.take (f.syn + (crashK picks g.n (f.xs.length - f.syn)).toNat), f.syn + (crashK picks g.n (f.xs.length - f.syn)).toNat⟩ := rfl
        generalize crashK picks g.n (f.xs.length - f.syn) = K at hK hcr
        obtain ⟨k, rfl⟩ : ∃ k : Nat, K = k := ⟨K.toNat, by omega⟩
        rw [Int.toNat_natCast] at hcr
        refine safe_rowcap (c := 6) (n := f.xs.length) (cap := f.cap) rfl fun hcap => go_ok _ 100 _ _ ?_
        simp only [go_sem, fcell, frow, Nat.reduceBEq, Nat.zero_add]
        have e1 : ((f.syn : Int) + k).toNat - Int.toNat 0 = f.syn + k := by simp; omega
        have e2 : (if (f.syn : Int) + k = 0 then f.off else f.off + Int.toNat 0 * 1) = f.off := by split <;> simp
        rw [e1, e2]
        refine ⟨by simp only [inI64]; omega, by simp only [inI64]; omega, by simp only [inI64]; omega, ?_, by simp only [inI64]; omega, ?_⟩
        · and_intros
          all_goals (first | omega | rfl | (intro; omega) | trivial)
        have hlen : (f.xs.take (f.syn + k)).length = f.syn + k := by simp; omega
        refine safe_sees (hp' := [_, _, _, _, _] ++ [fcell 6 { f with xs := f.xs.take (f.syn + k), syn := f.syn + k, cap := f.syn + k }, frow { f with xs := f.xs.take (f.syn + k), syn := f.syn + k, cap := f.syn + k }])
          (Sees.same (Sees.same (Sees.same (Sees.same (Sees.same (Sees.cons (fun ro H h => ⟨H, [], by simp, by simpa only [fcell, hlen] using h⟩) (Sees.cons (fun ro H h => ⟨H, [], by simp, by simpa only [frow, hlen] using row_shrink (by omega) h⟩) (Sees.refl [])))))))) ?_
        refine safe_sees (Sees.back (hp := [_, _, _, _, _]) (c := 2) (i := j) (L := g.L) (f := f) (f' := { f with xs := f.xs.take (f.syn + k), syn := f.syn + k, cap := f.syn + k }) (q := 6) rfl hfi) ?_
        refine safe_lend ⟨g.i + 1, g.n + 1, g.L.set j { f with xs := f.xs.take (f.syn + k), syn := f.syn + k, cap := f.syn + k }, by rw [hns]; omega, by omega, ?_, ?_, ?_, ?_⟩ (by simp only; omega) (Sub.front (X := []) ⟨rfl, rfl, rfl, rfl, rfl, rfl, trivial⟩ rfl)
        · exact (mp_set (f' := { f with xs := f.xs.take (f.syn + k), syn := f.syn + k, cap := f.syn + k }) hfi rfl rfl).trans g.hm
        · rw [hns, hsnext]
          exact crashF_hit hf hfi hne hcr.symm
        · intro f1 h1
          rcases List.mem_or_eq_of_mem_set h1 with h1 | rfl
          · exact g.sy f1 h1
          · exact Nat.le_of_eq hlen.symm
        · intro f1 h1
          rcases List.mem_or_eq_of_mem_set h1 with h1 | rfl
          · exact g.hx f1 h1
          · show (f.xs.take (f.syn + k)).length ≤ 2 ^ 30
            rw [hlen]
            omega
      · intro h2 hrest
        have hnl : g.n < picks.length := by simpa using h2
        refine go_ok _ 16 _ _ ?_
        simp only [go_sem, Nat.reduceBEq, Int.toNat_natCast]
        obtain ⟨m, hm⟩ : ∃ m, f.xs.length - f.syn = m := ⟨_, rfl⟩
        have hmi : (f.xs.length : Int) - f.syn = m := by omega
        simp only [hmi]
        rw [hm] at hrest
        have hb := tmod_bd (picks.getD g.n 0) m
        have hk : crashK picks g.n m = (((picks.getD g.n 0).tmod ((m : Int) + 1) + m) + 1).tmod ((m : Int) + 1) := by rw [crashK, if_pos hnl]
        rw [← hk]
        refine ⟨by omega, by decide, by simp only [inI64]; omega, by omega, by simp only [inI64]; omega, by simp only [inI64]; omega, by simp only [inI64]; omega, by omega, ?_⟩
        refine Safe.sub ?_ hrest
        exact Sub.front (X := []) ⟨rfl, rfl, rfl, rfl, rfl, rfl, rfl, rfl, trivial⟩ rfl
      · intro h2 hrest
        have hnl : ¬ g.n < picks.length := by have := of_decide_eq_false h2; omega
        refine go_ok _ 1 _ _ ?_
        simp only [go_sem]
        refine Safe.sub ?_ hrest
        exact Sub.front (X := []) ⟨rfl, rfl, rfl, rfl, by rw [crashK, if_neg hnl]; rfl, rfl, rfl, rfl, trivial⟩ rfl
  · have hge : ns.length ≤ g.i := by have := of_decide_eq_false h; omega
    have hs := g.hs
    rw [List.take_of_length_le (by rw [hns]; exact hge)] at hs
    rw [← hP]
    refine ⟨I g.n, dO b { d with left := 0, dead := false, L := g.L }, rfl, fun _ h => h, ?_, g.L, ?_, ?_, rfl⟩
    · refine Sees.trans (Sees.left (a := [_, _, _]) (X := [_, _])) ?_
      exact Sees.of_eq (dO_set (d := { d with left := 0, dead := false }) g.hm).symm
    · rw [crashD, hs]
    · rw [crashD, hs]
end Go.SX
