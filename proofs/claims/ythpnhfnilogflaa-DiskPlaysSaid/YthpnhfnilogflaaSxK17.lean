/- The disk: a file by its name, behind each operation. -/
import Derived.Test.YthpnhfnilogflaaSxK15
namespace Go.SX
open Go.Proofs
set_option maxRecDepth 1000000

def getF : List FS → List UInt8 → Option FS
  | [], _ => none
  | f :: r, x => if f.nm = x then some f else getF r x
theorem getF_nm : ∀ {l : List FS} {x : List UInt8} {f : FS}, getF l x = some f → f.nm = x ∧ f ∈ l
  | [], _, _, h => by cases h
  | g :: r, x, f, h => by
    unfold getF at h
    split at h
    · rename_i hg
      injection h with h
      subst h
      exact ⟨hg, by simp⟩
    · obtain ⟨h1, h2⟩ := getF_nm h
      exact ⟨h1, by simp [h2]⟩
theorem fndF_get : ∀ (l : List FS) (x : List UInt8), (fndF l x = none ↔ getF l x = none) ∧ ∀ i, fndF l x = some i → getF l x = some (l.getD i ⟨[], [], 0⟩)
  | [], _ => ⟨by simp [fndF, getF], fun i h => by cases h⟩
  | g :: r, x => by
    obtain ⟨h1, h2⟩ := fndF_get r x
    unfold fndF getF
    split
    · exact ⟨by simp, fun i h => by injection h with h; subst h; rfl⟩
    · refine ⟨by rw [Option.map_eq_none_iff]; exact h1, fun i h => ?_⟩
      cases hr : fndF r x with
      | none => rw [hr] at h; cases h
      | some j =>
        rw [hr] at h
        injection h with h
        subst h
        simpa using h2 j hr
theorem getF_none {l : List FS} {x : List UInt8} : getF l x = none ↔ x ∉ l.map (·.nm) := by
  rw [← (fndF_get l x).1]
  constructor
  · intro h hm
    obtain ⟨f, hf, e⟩ := List.mem_map.1 hm
    exact fnd_gone l x h f hf e
  · intro h
    induction l with
    | nil => rfl
    | cons g r ih =>
      simp only [List.map_cons, List.mem_cons, not_or] at h
      unfold fndF
      rw [if_neg (fun e => h.1 e.symm), ih h.2]
      rfl
theorem readF_get (l : List FS) {x : List UInt8} (hx : nameB x = true) : readF l false x = match getF l x with | none => ([], 2) | some f => (f.xs, 0) := by
  unfold readF
  simp only [Bool.false_eq_true, if_false, hx, if_true]
  obtain ⟨h1, h2⟩ := fndF_get l x
  cases h : fndF l x with
  | none => rw [h1.1 h]
  | some i => rw [h2 i h]
theorem get_add : ∀ (l : List FS) (x ys y : List UInt8), getF (addF l x ys) y = if x = y then some (match getF l x with | none => ⟨x, ys, 0⟩ | some f => { f with xs := f.xs ++ ys }) else getF l y
  | [], x, ys, y => by
    unfold addF getF
    split
    · rfl
    · simp [getF]
  | g :: r, x, ys, y => by
    have ih := get_add r x ys y
    unfold addF
    by_cases hg : g.nm = x
    · rw [if_pos hg]
      by_cases hxy : x = y
      · subst hxy; simp [getF, hg]
      · simp only [getF, hg]; simp [hxy]
    · rw [if_neg hg]
      by_cases hxy : x = y
      · subst hxy
        simp only [getF, if_neg hg]
        rw [ih]
        simp
      · simp only [getF, if_neg hxy]
        rw [ih, if_neg hxy]
theorem get_syn : ∀ (l : List FS) (x y : List UInt8), getF (synF l x) y = if x = y then (getF l y).map (fun f => { f with syn := f.xs.length }) else getF l y
  | [], x, y => by simp [synF, getF]
  | g :: r, x, y => by
    have ih := get_syn r x y
    unfold synF
    by_cases hg : g.nm = x
    · rw [if_pos hg]
      by_cases hxy : x = y
      · subst hxy; simp [getF, hg]
      · simp only [getF, hg]; simp [hxy]
    · rw [if_neg hg]
      by_cases hxy : x = y
      · subst hxy
        simp only [getF, if_neg hg]
        rw [ih]
        simp
      · simp only [getF, if_neg hxy]
        rw [ih, if_neg hxy]
theorem get_del : ∀ (l : List FS) (x y : List UInt8), (l.map (·.nm)).Nodup → getF (delF l x) y = if x = y then none else getF l y
  | [], x, y, _ => by simp [delF, getF]
  | g :: r, x, y, hn => by
    simp only [List.map_cons, List.nodup_cons] at hn
    have ih := get_del r x y hn.2
    unfold delF
    by_cases hg : g.nm = x
    · rw [if_pos hg]
      by_cases hxy : x = y
      · subst hxy
        rw [if_pos rfl, getF_none, ← hg]
        exact hn.1
      · rw [if_neg hxy]
        simp only [getF, hg, if_neg hxy]
    · rw [if_neg hg]
      by_cases hxy : x = y
      · subst hxy
        simp only [getF, if_neg hg]
        rw [ih]
        simp
      · simp only [getF, if_neg hxy]
        rw [ih, if_neg hxy]
theorem get_put : ∀ (l : List FS) (f : FS) (y : List UInt8), getF (putF l f) y = if f.nm = y then some f else getF l y
  | [], f, y => by simp [putF, getF]
  | g :: r, f, y => by
    have ih := get_put r f y
    unfold putF
    by_cases hg : g.nm = f.nm
    · rw [if_pos hg]
      by_cases hy : f.nm = y
      · simp [getF, hy]
      · simp only [getF, if_neg hy, hg]
    · rw [if_neg hg]
      by_cases hy : f.nm = y
      · have : ¬ g.nm = y := fun e => hg (e.trans hy.symm)
        simp only [getF, if_neg this]
        rw [ih]
      · simp only [getF, if_neg hy]
        rw [ih, if_neg hy]
theorem get_ren (l : List FS) (x y z : List UInt8) (hn : (l.map (·.nm)).Nodup) : getF (renF l x y) z = match getF l x with | none => getF l z | some f => if y = z then some { f with nm := y } else if x = z then none else getF l z := by
  unfold renF
  obtain ⟨h1, h2⟩ := fndF_get l x
  cases h : fndF l x with
  | none => rw [h1.1 h]
  | some i =>
    rw [h2 i h]
    simp only
    rw [get_put, get_del _ _ _ hn]
/-- a front of what was not synced -/
def Front (f f' : FS) : Prop := f'.nm = f.nm ∧ f.syn ≤ f'.syn ∧ f'.syn ≤ f'.xs.length ∧ ∃ m, f'.xs = f.xs.take m
theorem Front.refl {f : FS} (h : f.syn ≤ f.xs.length) : Front f f := ⟨rfl, Nat.le_refl _, h, f.xs.length, by simp⟩
theorem Front.trans {f g h : FS} (h1 : Front f g) (h2 : Front g h) : Front f h := by
  obtain ⟨a1, a2, a3, m, a4⟩ := h1
  obtain ⟨b1, b2, b3, k, b4⟩ := h2
  exact ⟨b1.trans a1, by omega, b3, min k m, by rw [b4, a4, List.take_take]⟩
theorem Front.same {f g : FS} (h : Front f g) (hs : f.syn = f.xs.length) : g = f := by
  obtain ⟨a1, a2, a3, m, a4⟩ := h
  have hl : g.xs.length ≤ f.xs.length := by rw [a4, List.length_take]; omega
  have hx : g.xs = f.xs := by
    have e : g.xs.length = f.xs.length := by omega
    rw [a4] at e ⊢
    rw [List.length_take] at e
    exact List.take_of_length_le (by omega)
  have hy : g.syn = f.syn := by omega
  obtain ⟨n, x, s⟩ := g
  obtain ⟨n', x', s'⟩ := f
  simp_all
theorem crashed_front {f : FS} (h : f.syn ≤ f.xs.length) (picks : List Int) (n : Nat) : Front f (f.crashed picks n) := by
  obtain ⟨h1, h2⟩ := crashK_le picks n (f.xs.length - f.syn)
  refine ⟨rfl, ?_, ?_, _, rfl⟩
  · simp only [FS.crashed]; omega
  · simp only [FS.crashed, List.length_take]; omega
theorem get_crashF (picks : List Int) : ∀ (l : List FS) (n : Nat) (y x : List UInt8), (∀ f ∈ l, f.syn ≤ f.xs.length) → match getF l x with | none => getF (crashF l picks n y).1 x = none | some f => ∃ f', getF (crashF l picks n y).1 x = some f' ∧ Front f f'
  | [], n, y, x, _ => by simp [getF, crashF]
  | g :: r, n, y, x, hs => by
    have hg := hs g (by simp)
    have ih := get_crashF picks r n y x (fun f hf => hs f (by simp [hf]))
    have keep : match getF (g :: r) x with | none => getF (g :: r) x = none | some f => ∃ f', getF (g :: r) x = some f' ∧ Front f f' := by
      cases h : getF (g :: r) x with
      | none => rfl
      | some f => exact ⟨f, rfl, Front.refl (hs f (getF_nm h).2)⟩
    unfold crashF
    by_cases hy : g.nm = y
    · rw [if_pos hy]
      by_cases he : g.xs.length = g.syn
      · rw [if_pos he]; exact keep
      · rw [if_neg he]
        by_cases hx : g.nm = x
        · simp only [getF, if_pos hx]
          rw [if_pos (show (g.crashed picks n).nm = x from hx)]
          exact ⟨_, rfl, crashed_front hg picks n⟩
        · simp only [getF, if_neg hx]
          rw [if_neg (show ¬ (g.crashed picks n).nm = x from hx)]
          simp only [getF, if_neg hx] at keep
          exact keep
    · rw [if_neg hy]
      by_cases hx : g.nm = x
      · simp only [getF, if_pos hx]
        exact ⟨g, rfl, Front.refl hg⟩
      · simp only [getF, if_neg hx]
        exact ih
theorem get_crashG (picks : List Int) : ∀ (xs : List (List UInt8)) (l : List FS) (n : Nat) (x : List UInt8), (∀ f ∈ l, f.syn ≤ f.xs.length) → match getF l x with | none => getF (xs.foldl (fun s x => crashF s.1 picks s.2 x) (l, n)).1 x = none | some f => ∃ f', getF (xs.foldl (fun s x => crashF s.1 picks s.2 x) (l, n)).1 x = some f' ∧ Front f f'
  | [], l, n, x, hs => by
    cases h : getF l x with
    | none => exact h
    | some f => exact ⟨f, h, Front.refl (hs f (getF_nm h).2)⟩
  | y :: xs, l, n, x, hs => by
    have h1 := get_crashF picks l n y x hs
    have h2 := get_crashG picks xs (crashF l picks n y).1 (crashF l picks n y).2 x ((crashF_facts picks l n y).2.2.1 hs)
    cases h : getF l x with
    | none =>
      rw [h] at h1
      simp only at h1
      rw [h1] at h2
      exact h2
    | some f =>
      rw [h] at h1
      obtain ⟨f', e, hf⟩ := h1
      rw [e] at h2
      obtain ⟨f2, e2, hf2⟩ := h2
      exact ⟨f2, e2, hf.trans hf2⟩
/-- behind a crash -/
theorem get_crash (p : PS) (picks : List Int) (x : List UInt8) (hs : ∀ f ∈ p.fs, f.syn ≤ f.xs.length) : match getF p.fs x with | none => getF (p.crash picks).2.fs x = none | some f => ∃ f', getF (p.crash picks).2.fs x = some f' ∧ Front f f' :=
  get_crashG picks (namesF p.fs) p.fs 0 x hs
theorem get_crash_some {p : PS} {picks : List Int} {x : List UInt8} {f : FS} (hs : ∀ f ∈ p.fs, f.syn ≤ f.xs.length) (h : getF p.fs x = some f) : ∃ f', getF (p.crash picks).2.fs x = some f' ∧ Front f f' := by
  have := get_crash p picks x hs
  rw [h] at this
  exact this
theorem safe_ops_midp {S : Setup} {k : List Frag} {st : St} {l : List (SOp × List SOp)} {ι : Type} (mid : ι → St) (hrest : ∀ x, Safe S k (mid x)) (h : (∀ x, Safe S k (mid x)) → Safe S (.ops l :: k) st) : Safe S (.ops l :: k) st := h hrest
theorem kRead {E : Env} {b n : Nat} {d : DS} (c : Nat) (x : List UInt8) (h : PInv d.ps n) (hn : n ≤ 2 ^ 19) : Spec Try.prog E 13 [.ptr 0 b 0, T x] (dO b d) (fun v hp => ∃ nl b' off cap, v = .tup [.osl c nl b' off (readF d.ps.fs d.ps.dead x).1.length cap, I (readF d.ps.fs d.ps.dead x).2] ∧
    hp = dO b d ++ [.row nl b' 5 off 1 (readF d.ps.fs d.ps.dead x).1.length cap (rowsV encB (readF d.ps.fs d.ps.dead x).1)]) :=
  (c13 b d c x (by rw [usedB_ps]; have := h.u2; omega)).post fun _ _ h => by unfold ReadP at h; rw [readL_fs] at h; exact h
end Go.SX
