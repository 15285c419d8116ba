/- The disk: a file is looked into; Used, find. -/
import Derived.Test.YthpnhfnilogflaaSxK2
namespace Go.SX
open Go.Proofs
set_option maxRecDepth 1000000
variable {E : Env} {S : Setup} {k : List Frag} {env : List (Nat × SV)} {hp : List Chunk}

theorem fcell_see (c c' : Nat) (f : FL) (ro : RO) (H : Hp) (h : (fcell c f).sat ro H) : (fcell c' f).sat ro H := ⟨h.1, by simp [SV.oks, SV.ok]⟩
theorem getC_map {L : List FL} {i : Nat} {f : FL} (hi : L[i]? = some f) : getC (L.map fC) i = fC f := by
  induction L generalizing i with
  | nil => simp at hi
  | cons x L ih =>
    cases i with
    | zero => simp only [List.getElem?_cons_zero, Option.some.injEq] at hi; subst hi; rfl
    | succ i => exact ih (by simpa using hi)
theorem setC_map {L : List FL} {i : Nat} {f : FL} (hi : i < L.length) : setC (setC (L.map fC) i .emp) i (fC f) = (L.set i f).map fC := by
  induction L generalizing i with
  | nil => simp at hi
  | cons x L ih =>
    cases i with
    | zero => rfl
    | succ i =>
      show fC x :: setC (setC (L.map fC) i .emp) i (fC f) = fC x :: (L.set i f).map fC
      rw [ih (by simpa using hi)]
theorem getC_setC : ∀ {cs : List Chunk} {i : Nat} {d : Chunk}, i < cs.length → getC (setC cs i d) i = d
  | [], _, _, h => by simp at h
  | _ :: _, 0, _, _ => rfl
  | _ :: cs, i + 1, d, h => getC_setC (cs := cs) (by simpa using h)

/-- a file is taken out -/
theorem Sees.file {c i : Nat} {L : List FL} {f : FL} (q : Nat) (hc : getC hp c = sepC (L.map fC)) (hi : L[i]? = some f) : Sees hp (setC hp c (sepC (setC (L.map fC) i .emp)) ++ [fcell q f, frow f]) := by
  have hlt := (List.getElem?_eq_some_iff.1 hi).1
  refine Sees.trans (Sees.take c i hc (by simpa using hlt)) ?_
  rw [getC_map hi]
  refine Sees.app (Sees.refl _) (Sees.trans (Sees.unbag _) ?_)
  exact Sees.cons (fun ro H h => ⟨H, [], by simp, fcell_see 0 q f ro H h⟩) (Sees.refl _)
/-- and laid back, another -/
theorem Sees.back {c i : Nat} {L : List FL} {f f' : FL} {q : Nat} (hc : getC hp c = sepC (setC (L.map fC) i .emp)) (hi : L[i]? = some f) : Sees (hp ++ [fcell q f', frow f']) (setC hp c (sepC ((L.set i f').map fC))) := by
  have hlt := (List.getElem?_eq_some_iff.1 hi).1
  refine Sees.trans (Sees.app (Sees.refl hp) (Sees.trans (Sees.cons (fun ro H h => ⟨H, [], by simp, fcell_see q 0 f' ro H h⟩) (Sees.refl [frow f'])) (Sees.bag _))) ?_
  refine Sees.trans (Sees.give (d := fC f') c i hc (by rw [setC_len]; simpa using hlt) (getC_setC (by simpa using hlt))) ?_
  rw [setC_map hlt]
  exact Sees.refl _

/-- how many bytes there are -/
def usedB (L : List FL) : Nat := (L.map fun f => f.xs.length).sum
def lenAt (L : List FL) (i : Nat) : Nat := (L.getD i default).xs.length
theorem usedB_range (L : List FL) : usedB L = ((List.range L.length).map (lenAt L)).sum := by
  unfold usedB
  congr 1
  apply List.ext_getElem
  · simp
  · intro i h1 h2
    simp at h1
    simp [lenAt, h1]
structure Dn (L : List FL) (dn : List Nat) : Prop where
  nd : dn.Nodup
  lt : ∀ i ∈ dn, i < L.length
theorem Dn.sub {L : List FL} {dn : List Nat} (h : Dn L dn) : dn.Subset (List.range L.length) := fun i hi => List.mem_range.2 (h.lt i hi)
theorem set_same {α : Type} {L : List α} {i : Nat} {f : α} (hf : L[i]? = some f) : L.set i f = L := by
  apply List.ext_getElem?
  intro j
  rw [List.getElem?_set]
  split
  · rename_i e
    subst e
    have hil : i < L.length := (List.getElem?_eq_some_iff.1 hf).1
    first | exact hf.symm | (rw [if_pos hil]; exact hf.symm)
  · rfl
theorem nodup_split : ∀ {l l' : List Nat}, l.Nodup → l.Subset l' → ∃ r, l'.Perm (l ++ r)
  | [], l', _, _ => ⟨l', List.Perm.refl _⟩
  | x :: l, l', hn, hs => by
    simp only [List.nodup_cons] at hn
    have hx : x ∈ l' := hs (by simp)
    obtain ⟨r, hr⟩ := nodup_split (l' := l'.erase x) hn.2 fun y hy => by
      have : y ≠ x := fun e => hn.1 (e ▸ hy)
      exact (List.mem_erase_of_ne this).2 (hs (by simp [hy]))
    exact ⟨r, (List.perm_cons_erase hx).trans (by simpa using hr.cons x)⟩
theorem Dn.len {L : List FL} {dn : List Nat} (h : Dn L dn) : dn.length ≤ L.length := by
  obtain ⟨r, hr⟩ := nodup_split h.nd h.sub
  have := hr.length_eq
  simp at this
  omega
theorem Dn.all {L : List FL} {dn : List Nat} (h : Dn L dn) (ha : ∀ i, i < L.length → i ∈ dn) : dn.Perm (List.range L.length) :=
  (List.perm_ext_iff_of_nodup h.nd List.nodup_range).2 fun i => ⟨fun hi => h.sub hi, fun hi => ha i (List.mem_range.1 hi)⟩
theorem Dn.snoc {L : List FL} {dn : List Nat} (h : Dn L dn) {i : Nat} (hi : i < L.length) (hn : i ∉ dn) : Dn L (dn ++ [i]) :=
  ⟨List.nodup_append.2 ⟨h.nd, by simp, fun a ha b hb => by simp at hb; subst hb; exact fun e => hn (e ▸ ha)⟩, fun j hj => by
    rcases List.mem_append.1 hj with hj | hj
    · exact h.lt j hj
    · simp at hj; subst hj; exact hi⟩
theorem Dn.sum {L : List FL} {dn : List Nat} (h : Dn L dn) : (dn.map (lenAt L)).sum ≤ usedB L := by
  rw [usedB_range]
  obtain ⟨r, hr⟩ := nodup_split h.nd h.sub
  rw [(hr.map (lenAt L)).sum_nat]
  simp

theorem c16 (b : Nat) (d : DS) (hu : usedB d.L < 2 ^ 63) : Spec Try.prog E 16 [.ptr 0 b 0] (dO b d) (fun v hp => v = I (usedB d.L) ∧ hp = dO b d) := by
  refine Spec.sees (Post := fun v hp => v = I (usedB d.L) ∧ ∃ r dn, hp = [.cells b 68 [I d.room, .val (.map (some d.M)), I d.ops, I d.left, Bl d.dead], mpI kvS d.M d.mp r dn, sepC (d.L.map fC)]) ?_ fun v hp h => ?_
  · refine spec_of (keep := k16) (args' := [.ptr 0 b 0]) Try.func16 rfl Try.ntmps16 s16_ok (by simp) ⟨rfl, fun _ h => h⟩ (fun _ _ h => h) (go_ok _ 100 _ _ ?_)
    simp only [go_sem, s16, k16, Nat.reduceBEq, Nat.zero_add]
    refine (stp_maprange (K := kvS) (mo := .t 9) (b := d.M) (es := d.mp) 1 rfl Try.underlying66 rfl rfl fun r => ?_).safeE rfl
    refine ⟨trivial, go_ok _ 100 _ _ ?_⟩
    simp only [go_sem, Nat.reduceBEq]
    refine safe_loop (ι := {dn : List Nat // Dn d.L dn}) (fun dn => ⟨[(0, .ptr 0 b 0), (3, I ((dn.1.map (lenAt d.L)).sum : Nat)), (10, .val (.pointer (some ⟨r, 0, none⟩)))], [.cells b 68 [I d.room, .val (.map (some d.M)), I d.ops, I d.left, Bl d.dead], mpI kvS d.M d.mp r dn.1, sepC (d.L.map fC)]⟩) (fun dn => d.L.length - dn.1.length) ⟨[], List.nodup_nil, by simp⟩
      (Sub.front (X := []) ⟨rfl, rfl, rfl, trivial⟩ rfl) ?_
    rintro ⟨dn, hdn⟩
    refine go_ok _ 100 _ _ ?_
    simp only [go_sem]
    refine (stp_mapnext (K := kvS) (ito := .t 10) (b := d.M) (es := d.mp) (r := r) (dn := dn) 1 rfl rfl rfl (fun hall => ?_) (fun i x v hx hni => ?_)).safeE rfl
    · refine ⟨trivial, go_ok _ 100 _ _ ?_⟩
      simp only [go_sem, Nat.reduceBEq, Try.results16]
      refine ⟨?_, r, dn, rfl⟩
      have hp := hdn.all fun i hi => hall i (by simpa [DS.mp] using hi)
      rw [usedB_range, (hp.map (lenAt d.L)).sum_nat]
    · refine ⟨trivial, go_ok _ 100 _ _ ?_⟩
      simp only [go_sem, Nat.reduceBEq, Try.results16]
      refine ⟨?_, fun h => absurd h (by decide)⟩
      obtain ⟨f, hf, hfe⟩ : ∃ f, d.L[i]? = some f ∧ (f.nm, SV.ptr 0 f.fb 0) = (x, v) := by
        simp only [DS.mp, List.getElem?_map, Option.map_eq_some_iff] at hx
        exact hx
      simp only [Prod.mk.injEq] at hfe
      obtain ⟨rfl, rfl⟩ := hfe
      refine safe_oth (oth_entry (K := kvS) (ito := .t 10) (b := d.M) (es := d.mp) (r := r) (dn := dn) (i := i) 1 rfl rfl rfl hx) trivial ?_
      refine go_ok _ 4 _ _ ?_
      simp only [go_sem, Nat.reduceBEq]
      have hil : i < d.L.length := (List.getElem?_eq_some_iff.1 hf).1
      have hla : lenAt d.L i = f.xs.length := by simp [lenAt, List.getD_eq_getElem?_getD, hf]
      have hdn' := hdn.snoc hil hni
      have hsum := hdn'.sum
      have hsum' : ((dn ++ [i]).map (lenAt d.L)).sum = (dn.map (lenAt d.L)).sum + f.xs.length := by simp [hla]
      rw [hsum'] at hsum
      refine safe_env (env' := [(0, .ptr 0 b 0), (3, I ((dn.map (lenAt d.L)).sum : Nat)), (5, .ptr 3 f.fb 0), (10, .val (.pointer (some ⟨r, 0, none⟩)))]) ⟨seen _ _ _ rfl, seen _ _ _ rfl, seenP _ _ _ _ _ _ rfl rfl, seen _ _ _ rfl, trivial⟩ ?_
      refine safe_sees (Sees.file (c := 2) (i := i) (L := d.L) (f := f) 4 rfl hf) ?_
      refine go_ok _ 100 _ _ ?_
      simp only [go_sem, fcell, frow, Nat.reduceBEq, Nat.zero_add]
      refine ⟨by simp only [inI64]; omega, ?_⟩
      refine safe_sees (Sees.back (hp := [_, _, _]) (c := 2) (i := i) (L := d.L) (f := f) (f' := f) (q := 4) rfl hf) ?_
      rw [set_same hf]
      refine safe_lend ⟨dn ++ [i], hdn'⟩ ?_ (Sub.front (X := []) ⟨rfl, ?_, rfl, trivial⟩ rfl)
      · have h1 := hdn'.len
        simp only [List.length_append, List.length_singleton] at h1 ⊢
        omega
      · rw [hsum']
        rfl
  · obtain ⟨rfl, r, dn, rfl⟩ := h
    refine ⟨_, dO b d, rfl, fun _ h => h, Sees.same (Sees.cons (fun ro H h => ?_) (Sees.refl _)), rfl, rfl⟩
    obtain ⟨H', e, h'⟩ := mpI_mpC h
    exact ⟨H', _, by rw [← e], h'⟩
end Go.SX
