/- The disk: List. -/
import Derived.Test.YthpnhfnilogflaaSxK7
import Derived.Sort.KeysCollected
namespace Go.SX
open Go.Proofs
set_option maxRecDepth 1000000
variable {E : Env}

def namesOf (es : List (List UInt8 × SV)) : List (List UInt8) := sortT (es.map (·.1))
theorem sortT_perm {xs ys : List (List UInt8)} (h : xs.Perm ys) : sortT xs = sortT ys := mergeSort_of_perm h
theorem keys_perm {es : List (List UInt8 × SV)} {dn : List Nat} (h1 : kdone es dn) (h2 : dn.Nodup) (h3 : ∀ i ∈ dn, i < es.length) : (dn.map (keyAt es)).Perm (es.map (·.1)) := by
  have hp : dn.Perm (List.range es.length) := (List.perm_ext_iff_of_nodup h2 List.nodup_range).2 fun i => ⟨fun hi => List.mem_range.2 (h3 i hi), fun hi => h1 i (List.mem_range.1 hi)⟩
  refine (hp.map (keyAt es)).trans (List.Perm.of_eq ?_)
  apply List.ext_getElem
  · simp
  · intro i q1 q2
    simp at q1
    simp [keyAt, q1]

theorem c46 (bx M : Nat) (es : List (List UInt8 × SV)) (hl : es.length ≤ 2 ^ 30) : Spec Try.prog E 46 [.fn (.func 48) [] [.ptr 0 bx 0]] (kbox bx M es) (fun v hp => ∃ dn nl b off cap, kdone es dn ∧ dn.Nodup ∧ (∀ i ∈ dn, i < es.length) ∧ v = .osl 2 nl b off (dn.map (keyAt es)).length cap ∧ hp = kbox bx M es ++ [.row nl b 9 off 1 (dn.map (keyAt es)).length cap (rowsV encT (dn.map (keyAt es)))]) := by
  refine spec_of (keep := k46) (args' := [.fn (.func 48) [] [.ptr 0 bx 0]]) Try.func46 rfl Try.ntmps46 s46_ok (by simp) ⟨rfl, fun _ h => h⟩ (fun _ _ h => h) (go_ok _ 100 _ _ ?_)
  simp only [go_sem, s46, k46, Nat.reduceBEq]
  refine (stp_call [0, 1] (args := [nilS, .fn (.func 48) [] [.ptr 0 bx 0]]) rfl rfl rfl ⟨_, Try.func49, rfl, rfl⟩ (c49 bx M es hl) rfl (fun _ h => h) rfl (fun _ _ h => h) ?_).safe trivial
  rintro v hp ⟨dn, nl, b, off, cap, h1, h2, h3, rfl, rfl⟩
  refine ⟨trivial, go_ok _ 100 _ _ ?_⟩
  simp only [go_sem, kbox, List.cons_append, List.nil_append, Nat.reduceBEq, Try.results46]
  exact ⟨dn, nl, b, off, cap, h1, h2, h3, rfl, rfl⟩

theorem c39 (bx M c : Nat) (es : List (List UInt8 × SV)) (hl : es.length ≤ 2 ^ 30) : Spec Try.prog E 39 [.fn (.func 48) [] [.ptr 0 bx 0]] (kbox bx M es) (fun v hp => ∃ nl b off cap, v = .osl c nl b off (namesOf es).length cap ∧ hp = kbox bx M es ++ [.row nl b 9 off 1 (namesOf es).length cap (rowsV encT (namesOf es))]) := by
  refine Spec.see2 ?_
  generalize hP : SeeP (fun v hp => ∃ nl b off cap, v = .osl c nl b off (namesOf es).length cap ∧ hp = kbox bx M es ++ [.row nl b 9 off 1 (namesOf es).length cap (rowsV encT (namesOf es))]) = P
  refine spec_of (keep := k39) (args' := [.fn (.func 48) [] [.ptr 0 bx 0]]) Try.func39 rfl Try.ntmps39 s39_ok (by simp) ⟨rfl, fun _ h => h⟩ (fun _ _ h => h) (go_ok _ 100 _ _ ?_)
  simp only [go_sem, s39, k39, Nat.reduceBEq]
  refine (stp_call [0, 1] rfl rfl rfl ⟨_, Try.func46, rfl, rfl⟩ (c46 bx M es hl) rfl (fun _ h => h) rfl (fun _ _ h => h) ?_).safe trivial
  rintro v hp ⟨dn, nl, b, off, cap, h1, h2, h3, rfl, rfl⟩
  have hns : sortT (dn.map (keyAt es)) = namesOf es := sortT_perm (keys_perm h1 h2 h3)
  have hln : (namesOf es).length = (dn.map (keyAt es)).length := by rw [← hns, sortT_len]
  have hlen : (dn.map (keyAt es)).length ≤ 2 ^ 60 := by
    have := (keys_perm h1 h2 h3).length_eq
    rw [this]
    simp
    omega
  have hc := c47 (E := E) 2 nl b 9 off cap (dn.map (keyAt es)) hlen
  rw [hns] at hc
  generalize (dn.map (keyAt es)) = ks at *
  refine ⟨trivial, go_ok _ 100 _ _ ?_⟩
  simp only [go_sem, kbox, List.cons_append, List.nil_append, Nat.reduceBEq]
  refine (stp_call [2] rfl rfl rfl ⟨_, Try.func47, rfl, rfl⟩ hc rfl (fun _ h => h) rfl (fun _ _ h => h) ?_).safe trivial
  rintro v hp ⟨rfl, rfl⟩
  refine ⟨trivial, go_ok _ 100 _ _ ?_⟩
  simp only [go_sem, Nat.reduceBEq, Try.results39]
  rw [← hP, ← hln]
  exact ⟨.osl c nl b off (namesOf es).length cap, _, rfl, fun _ _ => by simp only [SV.ok], Sees.refl _, nl, b, off, cap, rfl, rfl⟩

/-- what List tells -/
def listL (d : DS) : List (List UInt8) × Int := if d.dead then ([], 13) else (namesOf d.mp, 0)
def ListP (b : Nat) (d : DS) (c : Nat) (v : SV) (hp : List Chunk) : Prop :=
  ∃ nl b' off cap, v = .tup [.osl c nl b' off (listL d).1.length cap, I (listL d).2] ∧ hp = dO b d ++ [.row nl b' 9 off 1 (listL d).1.length cap (rowsV encT (listL d).1)]
theorem c14 (b : Nat) (d : DS) (c : Nat) (hl : d.L.length ≤ 2 ^ 30) : Spec Try.prog E 14 [.ptr 0 b 0] (dO b d) (ListP b d c) := by
  refine Spec.see2 ?_
  generalize hP : SeeP (ListP b d c) = P
  refine spec_of (keep := k14) (args' := [.ptr 0 b 0]) Try.func14 rfl Try.ntmps14 s14_ok (by simp) ⟨rfl, fun _ h => h⟩ (fun _ _ h => h) (go_ok _ 100 _ _ ?_)
  simp only [go_sem, s14, k14, Nat.reduceBEq, Nat.zero_add, Try.results14]
  refine ⟨fun hd => ?_, fun hd => ?_⟩
  · rw [← hP]
    refine ⟨.tup [.osl c true 0 0 0 0, I 13], dO b d ++ [.row true 0 9 0 1 0 0 (rowsV encT [])], rfl, fun _ _ => by simp [SV.ok, SV.oks], ?_, true, 0, 0, 0, by simp [listL, hd], by simp [listL, hd]⟩
    refine Sees.trans (Sees.new (x := .row true 0 9 0 1 0 0 (rowsV encT [])) (fun ro => rowB_nil ro 0 9 0 1 (rowsV encT [])) (Sees.refl (dO b d))) (Sees.perm ?_)
    exact (List.perm_append_singleton _ _).symm
  · refine (stp_call [] rfl rfl rfl ⟨_, Try.func40, rfl, rfl⟩ (c40 d.M) rfl (fun _ h => h) rfl (fun _ _ h => h) ?_).safe trivial
    rintro v hp ⟨bx, rfl, rfl⟩
    refine ⟨trivial, go_ok _ 100 _ _ ?_⟩
    simp only [go_sem]
    refine (stp_call [3, 1] (args := [.fn (.func 48) [] [.ptr 0 bx 0]]) rfl rfl rfl ⟨_, Try.func39, rfl, rfl⟩ (c39 bx d.M 4 d.mp (by simpa using hl)) rfl (fun _ h => ?_) rfl (fun _ _ h => h) ?_).safe trivial
    · simp [SV.oks, SV.ok]
    rintro v hp ⟨nl, b', off, cap, rfl, rfl⟩
    refine ⟨trivial, go_ok _ 100 _ _ ?_⟩
    simp only [go_sem, kbox, List.cons_append, List.nil_append, Nat.reduceBEq, Try.results14]
    rw [← hP]
    refine ⟨.tup [.osl c nl b' off (namesOf d.mp).length cap, I 0], dO b d ++ [.row nl b' 9 off 1 (namesOf d.mp).length cap (rowsV encT (namesOf d.mp))], rfl, fun _ _ => by simp [SV.ok, SV.oks], ?_, nl, b', off, cap, by simp [listL, hd], by simp [listL, hd]⟩
    exact Sees.same (Sees.same (Sees.same (Sees.trans (Sees.perm (List.Perm.swap _ _ _)) (Sees.left (a := [_]) (X := [_])))))
end Go.SX
