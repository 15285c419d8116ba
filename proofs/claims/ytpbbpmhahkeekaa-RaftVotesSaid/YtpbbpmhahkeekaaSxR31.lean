/- The law of votes: plain facts. -/
import Derived.Test.YtpbbpmhahkeekaaSxR30
namespace Go.SX
open Go.Proofs
set_option maxRecDepth 1000000

/-- the log, its entries being data -/
def plain0 (es : List Ent) (i : Nat) : List Ent := (es.take i).map (fun e => { e with kd := 0 }) ++ es.drop i
theorem plain0_len (es : List Ent) (i : Nat) : (plain0 es i).length = es.length := by
  simp [plain0]
  omega
theorem plain0_get {es : List Ent} {i : Nat} (k : Nat) (hk : k < es.length) : (plain0 es i).getD k default = if k < i then { es.getD k default with kd := 0 } else es.getD k default := by
  have e1 : es.getD k default = es[k] := by simp [List.getD_eq_getElem?_getD, hk]
  unfold plain0
  split
  · rename_i h
    simp [List.getD_eq_getElem?_getD, List.getElem?_append_left, h, hk, List.getElem?_take, show k < min i es.length by omega]
  · rename_i h
    have : (List.map (fun e : Ent => { e with kd := 0 }) (List.take i es)).length = i := by simp; omega
    rw [List.getD_eq_getElem?_getD, List.getElem?_append_right (by omega), this, List.getElem?_drop, show i + (k - i) = k by omega, ← List.getD_eq_getElem?_getD]
theorem plain0_succ {es : List Ent} {i : Nat} (hi : i < es.length) : (plain0 es i).set i { (plain0 es i).getD i default with kd := 0 } = plain0 es (i + 1) := by
  apply List.ext_getElem?
  intro k
  rcases Nat.lt_or_ge k es.length with hk | hk
  · have h1 := plain0_get (es := es) (i := i) k hk
    have h2 := plain0_get (es := es) (i := i + 1) k hk
    have l1 : k < (plain0 es i).length := by rw [plain0_len]; exact hk
    have l2 : k < (plain0 es (i + 1)).length := by rw [plain0_len]; exact hk
    rw [List.getElem?_set]
    have g1 : (plain0 es i)[k]? = some ((plain0 es i).getD k default) := by simp [List.getD_eq_getElem?_getD, l1]
    have g2 : (plain0 es (i + 1))[k]? = some ((plain0 es (i + 1)).getD k default) := by simp [List.getD_eq_getElem?_getD, l2]
    rw [g1, g2, h2]
    by_cases h : i = k
    · subst h
      rw [if_pos rfl, if_pos l1, if_pos (by omega), h1, if_neg (by omega)]
    · rw [if_neg h, h1]
      by_cases h3 : k < i
      · rw [if_pos h3, if_pos (by omega)]
      · rw [if_neg h3, if_neg (by omega)]
  · rw [List.getElem?_eq_none (by rw [List.length_set, plain0_len]; exact hk), List.getElem?_eq_none (by rw [plain0_len]; exact hk)]

/-- such a log stands in a row -/
structure Lg (t : Int) (es : List Ent) : Prop where
  ix : ∀ k, k < es.length → (es.getD k default).ix = 1 + k
  lo : ∀ k, k < es.length → prevT 1 es k ≤ (es.getD k default).tm
  up : ∀ k, k < es.length → (es.getD k default).tm ≤ t
  kd : ∀ e ∈ es, e.kd = 0
  d : ∀ e ∈ es, okD e.d.xs ∧ e.d.xs.length ≤ 1000
  last : prevT 1 es es.length = t

theorem Md.lg {t : Int} {es : List Ent} (h : Md 1 t es) : Lg t (plain0 es es.length) := by
  have hl := plain0_len es es.length
  have hg : ∀ k, k < es.length → (plain0 es es.length).getD k default = { es.getD k default with kd := 0 } := fun k hk => by rw [plain0_get k hk, if_pos hk]
  have hp : ∀ k, k ≤ es.length → prevT 1 (plain0 es es.length) k = prevT 1 es k := fun k hk => by
    unfold prevT
    split
    · rfl
    · rw [hg (k - 1) (by omega)]
  have hm : ∀ e ∈ plain0 es es.length, ∃ x ∈ es, e = { x with kd := 0 } := fun e he => by
    simp only [plain0, List.take_length, List.drop_length, List.append_nil, List.mem_map] at he
    obtain ⟨x, hx, rfl⟩ := he
    exact ⟨x, hx, rfl⟩
  refine ⟨fun k hk => ?_, fun k hk => ?_, fun k hk => ?_, fun e he => ?_, fun e he => ?_, ?_⟩
  · rw [hl] at hk; rw [hg k hk]; exact h.ix k hk
  · rw [hl] at hk; rw [hg k hk, hp k (by omega)]; exact h.lo k hk
  · rw [hl] at hk; rw [hg k hk]; exact h.up k hk
  · obtain ⟨x, _, rfl⟩ := hm e he; rfl
  · obtain ⟨x, hx, rfl⟩ := hm e he; exact h.d x hx
  · rw [hl, hp _ (Nat.le_refl _)]; exact h.last

theorem Lg.row {t : Int} {es : List Ent} (h : Lg t es) (ht : t ≤ 2 ^ 40) : rowB 0 0 4611686018427387904 es = true := by
  have key : ∀ m i, i + m = es.length → rowB (prevI 0 es i) (prevT 0 es i) 4611686018427387904 (es.drop i) = true := by
    intro m
    induction m with
    | zero =>
      intro i hi
      rw [List.drop_eq_nil_of_le (by omega)]
      rfl
    | succ m ih =>
      intro i hi
      have hlt : i < es.length := by omega
      have hmem : es.getD i default ∈ es := by
        rw [List.getD_eq_getElem?_getD, List.getElem?_eq_getElem hlt]
        exact List.getElem_mem _
      rw [rowB_step hlt, ih (i + 1) (by omega), Bool.and_true]
      have h1 := h.ix i hlt
      have h2 := h.lo i hlt
      have h3 := h.up i hlt
      have h4 := h.kd _ hmem
      have h5 := (h.d _ hmem).2
      have hpi : prevI 0 es i = i := by
        unfold prevI
        split
        · omega
        · rw [h.ix (i - 1) (by omega)]; omega
      have hpt : prevT 0 es i ≤ (es.getD i default).tm := by
        unfold prevT at h2 ⊢
        split
        · rename_i h0
          rw [if_pos h0] at h2
          omega
        · rename_i h0
          rw [if_neg h0] at h2
          exact h2
      generalize es.getD i default = e at *
      generalize prevT 0 es i = pt at *
      simp only [badE, mayB, hpi, h1, h4]
      simp
      omega
  exact key es.length 0 (by omega)

/-- between two that ask -/
structure Vt (es : List Ent) (t : Int) (s : RS) (term granted : Int) : Prop where
  id : s.id = 0
  role : s.role = 0
  ix : s.mIx = 0
  es : s.es = es
  hC : s.hC = 0
  le : s.hT ≤ term
  hV1 : s.hT = term → s.hV = granted
  hV2 : s.hT < term → granted = -1
  ge : -1 ≤ granted
  fresh : s.fresh = 0
  app : s.applied = 0
  reads : s.reads = nilS
  msgs : s.msgs = nilS
  snap : s.snap = false

def wants (es : List Ent) (t granted : Int) (m : Ms) : Bool := (decide ((if 0 < es.length then t else 0) < m.lt) || decide (m.lt = (if 0 < es.length then t else 0)) && decide ((es.length : Int) ≤ m.ix)) && (decide (granted < 0) || decide (granted = m.fr))

theorem Vt.grants {es : List Ent} {t : Int} {s : RS} {term granted : Int} (h : Vt es t s term granted) (hlast : es = [] ∨ (es.getD (es.length - 1) default).tm = t) {m : Ms} (hm : m.tm = term) (hf : 0 ≤ m.fr) : (s.heard m.tm).grants m = wants es t granted m := by
  obtain ⟨e1, e2, _⟩ := s.heard_es m.tm
  have hl : (s.heard m.tm).last = es.length := by simp [RS.last, e1, e2, h.es, h.ix]
  have ht : (s.heard m.tm).term (s.heard m.tm).last = if 0 < es.length then t else 0 := by
    rw [hl]
    unfold RS.term
    rw [e1, e2, h.es, h.ix]
    split
    · rename_i hh
      have h0 : 0 < es.length := by omega
      rw [if_pos h0, show ((es.length : Int) - 0 - 1).toNat = es.length - 1 by omega]
      rcases hlast with h1 | h1
      · subst h1; simp at h0
      · exact h1
    · rename_i hh
      have h0 : ¬ 0 < es.length := by omega
      rw [if_neg h0, if_neg (by omega)]
  unfold RS.grants wants
  rw [ht, hl, Bool.and_comm]
  congr 1
  have hle := h.le
  have hge := h.ge
  rcases Int.lt_or_le s.hT term with hlt | hge2
  · have e : (s.heard m.tm).hV = -1 := by rw [RS.heard, if_pos (by omega)]; rfl
    have := h.hV2 hlt
    rw [e, this]
    simp
  · have e : (s.heard m.tm).hV = granted := by rw [RS.heard, if_neg (by omega)]; exact h.hV1 (by omega)
    rw [e]
    apply Bool.eq_iff_iff.2
    simp
    omega
theorem Vt.rest {es : List Ent} {t : Int} {s : RS} {term granted : Int} (h : Vt es t s term granted) (m : Ms) :
    ((s.heard m.tm).voted m).fresh = 0 ∧ ((s.heard m.tm).voted m).applied = 0 ∧ ((s.heard m.tm).voted m).reads = nilS ∧ ((s.heard m.tm).voted m).snap = false := by
  obtain ⟨e1, e2, e3, e4, e5, e6, e7, e8, e9, e10, e11⟩ := s.heard_es m.tm
  unfold RS.voted
  split <;> exact ⟨e7.trans h.fresh, e8.trans h.app, e9.trans h.reads, e10.trans h.snap⟩
theorem Vt.next {es : List Ent} {t : Int} {s : RS} {term granted : Int} (h : Vt es t s term granted) (hlast : es = [] ∨ (es.getD (es.length - 1) default).tm = t) {m : Ms} (hm : m.tm = term) (hf : 0 ≤ m.fr) {am : Option Addr} {cm : Nat} {m2 : Ms} :
    Vt es t (((s.heard m.tm).voted m).msg1 am cm m2).readied term (if wants es t granted m then m.fr else granted) ∧ (((s.heard m.tm).voted m).msg1 am cm m2).readied.hT = term ∧ (((s.heard m.tm).voted m).msg1 am cm m2).readied.hV = (if wants es t granted m then m.fr else granted) := by
  have hg := h.grants hlast hm hf
  obtain ⟨e1, e2, e3, e4, e5, e6, e7, e8, e9, e10, e11⟩ := s.heard_es m.tm
  have hle := h.le
  have hT : (s.heard m.tm).hT = term := by
    unfold RS.heard
    split
    · exact hm
    · omega
  have hVh : (s.heard m.tm).hV = granted := by
    rcases Int.lt_or_le s.hT term with hlt | hge2
    · rw [h.hV2 hlt, RS.heard, if_pos (by omega)]; rfl
    · rw [RS.heard, if_neg (by omega)]; exact h.hV1 (by omega)
  have hge := h.ge
  cases hw : wants es t granted m with
  | true =>
    have hv : (s.heard m.tm).voted m = { s.heard m.tm with hV := m.fr, ticks := 0, taken := (s.heard m.tm).draw } := by simp [RS.voted, hg, hw]
    rw [hv]
    simp only [if_true]
    exact ⟨⟨e4.trans h.id, e11 h.role, e2.trans h.ix, e1.trans h.es, e6.trans h.hC, Int.le_of_eq hT, fun _ => rfl, fun hh => absurd (show term < term from Int.lt_of_le_of_lt (Int.le_of_eq hT.symm) hh) (by omega), by omega, rfl, e6.trans h.hC, rfl, rfl, rfl⟩, hT, rfl⟩
  | false =>
    have hv : (s.heard m.tm).voted m = s.heard m.tm := by simp [RS.voted, hg, hw]
    rw [hv]
    simp only [Bool.false_eq_true, if_false]
    exact ⟨⟨e4.trans h.id, e11 h.role, e2.trans h.ix, e1.trans h.es, e6.trans h.hC, Int.le_of_eq hT, fun _ => hVh, fun hh => absurd (show term < term from Int.lt_of_le_of_lt (Int.le_of_eq hT.symm) hh) (by omega), hge, rfl, e6.trans h.hC, rfl, rfl, rfl⟩, hT, hVh⟩
end Go.SX
