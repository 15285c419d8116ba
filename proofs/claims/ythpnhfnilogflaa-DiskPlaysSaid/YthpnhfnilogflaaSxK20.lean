/- The law of the names: plain facts. -/
import Derived.Test.YthpnhfnilogflaaSxK19
namespace Go.SX
open Go.Proofs
set_option maxRecDepth 1000000

/-- the names that are there -/
def nmH (hs : List Bool) : List (List UInt8) := ((List.range 6).filter fun j => hs.getD j false).map nmJ
def cntH (hs : List Bool) (k : Nat) : Nat := ((List.range k).filter fun j => hs.getD j false).length
theorem nmJ_inj {i j : Nat} (hi : i < 6) (hj : j < 6) (h : nmJ i = nmJ j) : i = j := by
  have : ∀ i, i < 6 → ∀ j, j < 6 → nmJ i = nmJ j → i = j := by decide
  exact this i hi j hj h
theorem nmJ_lt : ∀ i, i < 6 → ∀ j, j < 6 → i < j → nmJ i ≤ nmJ j := by decide
theorem nmJ_ok : ∀ k, k < 6 → nameB (nmJ k) = true := by decide
theorem nmH_nodup (hs : List Bool) : (nmH hs).Nodup := by
  unfold nmH
  refine List.Pairwise.map (R := fun i j => i < 6 ∧ j < 6 ∧ i ≠ j) _ (fun i j h e => h.2.2 (nmJ_inj h.1 h.2.1 e)) ?_
  refine List.Pairwise.sublist List.filter_sublist ?_
  decide
theorem nmH_sorted (hs : List Bool) : sortT (nmH hs) = nmH hs := by
  unfold sortT
  refine List.mergeSort_of_pairwise ?_
  unfold nmH
  refine List.Pairwise.map (R := fun i j => i < 6 ∧ j < 6 ∧ i < j) _ (fun i j h => by simpa using nmJ_lt i h.1 j h.2.1 h.2.2) ?_
  refine List.Pairwise.sublist List.filter_sublist ?_
  decide
theorem mem_nmH {hs : List Bool} {x : List UInt8} : x ∈ nmH hs ↔ ∃ j, j < 6 ∧ x = nmJ j ∧ hs.getD j false = true := by
  unfold nmH
  simp only [List.mem_map, List.mem_filter, List.mem_range]
  constructor
  · rintro ⟨j, ⟨h1, h2⟩, rfl⟩; exact ⟨j, h1, rfl, h2⟩
  · rintro ⟨j, h1, rfl, h2⟩; exact ⟨j, ⟨h1, h2⟩, rfl⟩
/-- what is there, by the files -/
def Has (fs : List FS) (hs : List Bool) : Prop := ∀ x, getF fs x ≠ none ↔ ∃ j, j < 6 ∧ x = nmJ j ∧ hs.getD j false = true
theorem Has.names {fs : List FS} {hs : List Bool} (h : Has fs hs) (hn : (fs.map (·.nm)).Nodup) : namesF fs = nmH hs := by
  unfold namesF
  rw [← nmH_sorted]
  refine sortT_perm ((List.perm_ext_iff_of_nodup hn (nmH_nodup hs)).2 fun x => ?_)
  rw [mem_nmH, ← h x, ne_eq, getF_none, Classical.not_not]
theorem Has.at {fs : List FS} {hs : List Bool} (h : Has fs hs) {a : Nat} (ha : a < 6) : getF fs (nmJ a) ≠ none ↔ hs.getD a false = true := by
  rw [h]
  constructor
  · rintro ⟨j, h1, h2, h3⟩; rw [nmJ_inj ha h1 h2]; exact h3
  · exact fun h1 => ⟨a, ha, rfl, h1⟩
theorem getD_set {hs : List Bool} (hl : hs.length = 6) {a j : Nat} (ha : a < 6) (b : Bool) : (hs.set a b).getD j false = if a = j then b else hs.getD j false := by
  simp only [List.getD_eq_getElem?_getD, List.getElem?_set]
  by_cases h : a = j
  · subst h; simp [hl, ha]
  · simp [h]
theorem Has.add {fs : List FS} {hs : List Bool} (h : Has fs hs) (hl : hs.length = 6) {a : Nat} (ha : a < 6) (ys : List UInt8) : Has (addF fs (nmJ a) ys) (hs.set a true) := by
  intro x
  rw [get_add]
  by_cases e : nmJ a = x
  · rw [if_pos e]
    simp only [ne_eq, reduceCtorEq, not_false_eq_true, true_iff]
    exact ⟨a, ha, e.symm, by rw [getD_set hl ha, if_pos rfl]⟩
  · rw [if_neg e, h]
    constructor
    · rintro ⟨j, h1, rfl, h3⟩
      exact ⟨j, h1, rfl, by rw [getD_set hl ha, if_neg (fun e' => e (by rw [e']))]; exact h3⟩
    · rintro ⟨j, h1, rfl, h3⟩
      rw [getD_set hl ha, if_neg (fun e' => e (by rw [e']))] at h3
      exact ⟨j, h1, rfl, h3⟩
theorem Has.rem {fs : List FS} {hs : List Bool} (h : Has fs hs) (hn : (fs.map (·.nm)).Nodup) (hl : hs.length = 6) {a : Nat} (ha : a < 6) : Has (delF fs (nmJ a)) (hs.set a false) := by
  intro x
  rw [get_del _ _ _ hn]
  by_cases e : nmJ a = x
  · rw [if_pos e]
    simp only [ne_eq, not_true_eq_false, false_iff]
    rintro ⟨j, h1, h2, h3⟩
    rw [← e] at h2
    rw [← nmJ_inj ha h1 h2, getD_set hl ha, if_pos rfl] at h3
    cases h3
  · rw [if_neg e, h]
    constructor
    · rintro ⟨j, h1, rfl, h3⟩
      exact ⟨j, h1, rfl, by rw [getD_set hl ha, if_neg (fun e' => e (by rw [e']))]; exact h3⟩
    · rintro ⟨j, h1, rfl, h3⟩
      rw [getD_set hl ha, if_neg (fun e' => e (by rw [e']))] at h3
      exact ⟨j, h1, rfl, h3⟩
theorem Has.rem0 {fs : List FS} {hs : List Bool} (h : Has fs hs) (hl : hs.length = 6) {a : Nat} (ha : a < 6) (hg : getF fs (nmJ a) = none) : Has fs (hs.set a false) := by
  have h0 : hs.getD a false = false := by
    cases hc : hs.getD a false with
    | false => rfl
    | true => exact absurd hg ((h.at ha).2 hc)
  intro x
  rw [h]
  constructor
  · rintro ⟨j, h1, rfl, h3⟩
    refine ⟨j, h1, rfl, ?_⟩
    rw [getD_set hl ha]
    split
    · rename_i e; subst e; rw [h0] at h3; cases h3
    · exact h3
  · rintro ⟨j, h1, rfl, h3⟩
    refine ⟨j, h1, rfl, ?_⟩
    rw [getD_set hl ha] at h3
    split at h3
    · cases h3
    · exact h3
theorem Has.ren {fs : List FS} {hs : List Bool} (h : Has fs hs) (hn : (fs.map (·.nm)).Nodup) (hl : hs.length = 6) {a b : Nat} (ha : a < 6) (hb : b < 6) (hg : hs.getD a false = true) : Has (renF fs (nmJ a) (nmJ b)) ((hs.set a false).set b true) := by
  intro x
  rw [get_ren _ _ _ _ hn]
  cases hf : getF fs (nmJ a) with
  | none => exact absurd hf ((h.at ha).2 hg)
  | some f =>
    simp only
    have hl' : (hs.set a false).length = 6 := by simpa using hl
    by_cases e : nmJ b = x
    · rw [if_pos e]
      simp only [ne_eq, reduceCtorEq, not_false_eq_true, true_iff]
      exact ⟨b, hb, e.symm, by rw [getD_set hl' hb, if_pos rfl]⟩
    · rw [if_neg e]
      by_cases e2 : nmJ a = x
      · rw [if_pos e2]
        simp only [ne_eq, not_true_eq_false, false_iff]
        rintro ⟨j, h1, h2, h3⟩
        rw [getD_set hl' hb, if_neg (fun e' => e (by rw [h2, e'])), getD_set hl ha, if_pos (nmJ_inj ha h1 (e2.trans h2))] at h3
        cases h3
      · rw [if_neg e2, h]
        constructor
        · rintro ⟨j, h1, rfl, h3⟩
          exact ⟨j, h1, rfl, by rw [getD_set hl' hb, if_neg (fun e' => e (by rw [e'])), getD_set hl ha, if_neg (fun e' => e2 (by rw [e']))]; exact h3⟩
        · rintro ⟨j, h1, rfl, h3⟩
          rw [getD_set hl' hb, if_neg (fun e' => e (by rw [e'])), getD_set hl ha, if_neg (fun e' => e2 (by rw [e']))] at h3
          exact ⟨j, h1, rfl, h3⟩
theorem Has.crash {p : PS} {hs : List Bool} (h : Has p.fs hs) (picks : List Int) : Has (p.crash picks).2.fs hs := by
  intro x
  rw [← h, ne_eq, ne_eq, getF_none, getF_none]
  have e : (p.crash picks).2.fs.map (·.nm) = p.fs.map (·.nm) := (crashL_facts picks (namesF p.fs) p.fs 0).1
  rw [e]
theorem cnt_succ (hs : List Bool) (k : Nat) : cntH hs (k + 1) = cntH hs k + if hs.getD k false then 1 else 0 := by
  unfold cntH
  rw [List.range_succ, List.filter_append, List.length_append]
  congr 1
  cases h : hs.getD k false <;> simp only [List.filter_cons, List.filter_nil, h, if_true, if_false, Bool.false_eq_true] <;> rfl
theorem cnt_le (hs : List Bool) : ∀ k, cntH hs k ≤ k
  | 0 => by simp [cntH]
  | k + 1 => by rw [cnt_succ]; have := cnt_le hs k; split <;> omega
theorem nmH_at {hs : List Bool} {k : Nat} (hk : k < 6) (h : hs.getD k false = true) : cntH hs k < (nmH hs).length ∧ (nmH hs).getD (cntH hs k) [] = nmJ k := by
  have e : List.range 6 = List.range k ++ (k :: (List.range (5 - k)).map (· + (k + 1))) := by
    have : ∀ k, k < 6 → List.range 6 = List.range k ++ (k :: (List.range (5 - k)).map (· + (k + 1))) := by decide
    exact this k hk
  have e2 : nmH hs = ((List.range k).filter fun j => hs.getD j false).map nmJ ++ (nmJ k :: (((List.range (5 - k)).map (· + (k + 1))).filter fun j => hs.getD j false).map nmJ) := by
    unfold nmH
    rw [e, List.filter_append, List.map_append, List.filter_cons, if_pos h, List.map_cons]
  rw [e2]
  unfold cntH
  constructor
  · simp
  · rw [List.getD_eq_getElem?_getD, List.getElem?_append_right (by simp)]
    simp
theorem nmH_len (hs : List Bool) : (nmH hs).length = cntH hs 6 := by simp [nmH, cntH]
/-- a disk that will not stop -/
theorem begun_quiet {p : PS} (h : p.left = 0) : p.begun = p := by
  unfold PS.begun
  rw [h]
  rfl
theorem app_quiet {p : PS} {x ys : List UInt8} (h : p.left = 0) (hd : p.dead = false) (hx : nameB x = true) (hf : (ys.length : Int) ≤ p.room - sumF p.fs) : p.app x ys = (0, { p.did with fs := addF p.fs x ys }) := by
  rw [app_ok (by rw [begun_quiet h]; exact hd) hx hf, begun_quiet h]
theorem one_quiet {p : PS} {x : List UInt8} {g : List FS → List FS} (h : p.left = 0) (hd : p.dead = false) (hx : nameB x = true) : p.one x g = if getF p.fs x = none then (2, p.did) else (0, { p.did with fs := g p.fs }) := by
  unfold PS.one
  rw [begun_quiet h, if_neg (by simp [hd]), if_neg (by simp [hx])]
  by_cases hf : getF p.fs x = none
  · rw [if_pos hf, if_pos ((fndF_get p.fs x).1.2 hf)]
  · rw [if_neg hf, if_neg (fun h => hf ((fndF_get p.fs x).1.1 h))]
theorem ren_quiet {p : PS} {x y : List UInt8} (h : p.left = 0) (hd : p.dead = false) (hx : nameB x = true) (hy : nameB y = true) : p.ren x y = if getF p.fs x = none then (2, p.did) else (0, { p.did with fs := renF p.fs x y }) := by
  unfold PS.ren
  rw [begun_quiet h, if_neg (by simp [hd]), if_neg (by simp [hx, hy])]
  by_cases hf : getF p.fs x = none
  · rw [if_pos hf, if_pos ((fndF_get p.fs x).1.2 hf)]
  · rw [if_neg hf, if_neg (fun h => hf ((fndF_get p.fs x).1.1 h))]
theorem sum_ren (l : List FS) (x y : List UInt8) : sumF (renF l x y) ≤ sumF l := by
  unfold renF
  cases hi : fndF l x with
  | none => exact Nat.le_refl _
  | some i =>
    obtain ⟨f, h1, h2, h3, _⟩ := fndF_some hi
    have e : l.getD i ⟨[], [], 0⟩ = f := by simp [List.getD_eq_getElem?_getD, h1]
    simp only
    rw [e]
    have := (put_facts (delF l x) { f with nm := y }).1
    simp only at this
    omega
theorem sum_crash (p : PS) (picks : List Int) : sumF (p.crash picks).2.fs ≤ sumF p.fs := (crashL_facts picks (namesF p.fs) p.fs 0).2.1
end Go.SX
