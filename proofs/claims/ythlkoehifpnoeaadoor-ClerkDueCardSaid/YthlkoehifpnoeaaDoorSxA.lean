/- The any-order theorem: a drawn region may be walked in one canonical order (reads as early as they can be, effects in their order), if each read that an effect may overtake reads the same behind the effect. -/
import Derived.OrdersIn
import Derived.RangeFuncRecord
namespace Go.SX

section
variable {P : Program} {ops : Array Oper} {rr : Option Nat}

/-- 'i' stands behind 'j', by edges. -/
inductive Anc (ops : Array Oper) : Nat → Nat → Prop
  | direct {i j : Nat} {o : Oper} {e : Edge} (ho : ops[i]? = some o) (he : e ∈ o.after) (hb : Region.binds .any e = true) (hj : e.on = j) : Anc ops i j
  | trans {i k j : Nat} : Anc ops i k → Anc ops k j → Anc ops i j

def maskOf (acc : List Nat) (es : List Edge) : Nat :=
  es.foldl (fun s e => if Region.binds .any e then s ||| 2 ^ e.on ||| acc.getD e.on 0 else s) 0
def masksFrom : List Nat → List Oper → List Nat
  | acc, [] => acc
  | acc, o :: rest => masksFrom (acc ++ [maskOf acc o.after.toList]) rest
def masks (ops : Array Oper) : List Nat := masksFrom [] ops.toList

def MaskOk (ops : Array Oper) (acc : List Nat) : Prop := ∀ i j, (acc.getD i 0).testBit j = true → Anc ops i j

theorem maskOf_ok {acc : List Nat} (hacc : MaskOk ops acc) {i : Nat} {o : Oper} (ho : ops[i]? = some o) (es : List Edge) (hes : ∀ e ∈ es, e ∈ o.after) :
    ∀ s : Nat, (∀ j, s.testBit j = true → Anc ops i j) → ∀ j,
      (es.foldl (fun s e => if Region.binds .any e then s ||| 2 ^ e.on ||| acc.getD e.on 0 else s) s).testBit j = true → Anc ops i j := by
  induction es with
  | nil => intro s hs j hj; exact hs j hj
  | cons e es ih =>
    intro s hs j hj
    refine ih (fun e he => hes e (List.mem_cons_of_mem _ he)) _ ?_ j hj
    intro j hj
    dsimp only at hj
    split at hj
    · rename_i hb
      rw [Nat.testBit_or, Nat.testBit_or, Bool.or_eq_true, Bool.or_eq_true] at hj
      have hd : Anc ops i e.on := .direct ho (hes e (List.mem_cons_self ..)) hb rfl
      rcases hj with (hj | hj) | hj
      · exact hs j hj
      · rw [Nat.testBit_two_pow] at hj
        have : e.on = j := by simpa using hj
        exact this ▸ hd
      · exact .trans hd (hacc _ _ hj)
    · exact hs j hj

theorem masksFrom_ok (rest : List Oper) : ∀ acc : List Nat, MaskOk ops acc → (∀ k, rest[k]? = ops[acc.length + k]?) → MaskOk ops (masksFrom acc rest) := by
  induction rest with
  | nil => intro acc h _; exact h
  | cons o rest ih =>
    intro acc h hk
    have ho : ops[acc.length]? = some o := by simpa using (hk 0).symm
    refine ih _ ?_ ?_
    · intro i j hj
      rcases Nat.lt_trichotomy i acc.length with hi | hi | hi
      · refine h i j ?_
        rw [List.getD_eq_getElem?_getD] at hj ⊢
        rwa [List.getElem?_append_left hi] at hj
      · subst hi
        rw [List.getD_eq_getElem?_getD, List.getElem?_append_right (Nat.le_refl _)] at hj
        simp only [Nat.sub_self, List.getElem?_cons_zero, Option.getD_some] at hj
        exact maskOf_ok h ho _ (fun e he => by simpa using he) 0 (fun j hj => by simp at hj) j hj
      · rw [List.getD_eq_getElem?_getD, List.getElem?_eq_none (by simp; omega)] at hj
        simp at hj
    · intro k
      have := hk (k + 1)
      simp only [List.length_append, List.length_cons, List.length_nil] at this ⊢
      rw [List.getElem?_cons_succ] at this
      rw [this]
      congr 1
      omega
theorem masks_ok : MaskOk ops (masks ops) := masksFrom_ok _ [] (by intro i j h; simp at h) (by simp)

def Closed (ops : Array Oper) (listed : Array Bool) : Prop :=
  ∀ i o e, listed.getD i false = true → ops[i]? = some o → e ∈ o.after → Region.binds .any e = true → listed.getD e.on false = true
theorem Closed.anc {listed : Array Bool} (hc : Closed ops listed) {i j : Nat} (ha : Anc ops i j) : listed.getD i false = true → listed.getD j false = true := by
  induction ha with
  | direct ho he hb hj => intro h; exact hj ▸ hc _ _ _ h ho he hb
  | trans _ _ ih1 ih2 => intro h; exact ih2 (ih1 h)
theorem Closed.ready {listed : Array Bool} (hc : Closed ops listed) {i j : Nat} (ha : Anc ops i j) :
    (∀ o, ops[i]? = some o → ∀ e ∈ o.after, Region.binds .any e = true → listed.getD e.on false = true) → listed.getD j false = true := by
  induction ha with
  | direct ho he hb hj => intro h; exact hj ▸ h _ ho _ he hb
  | trans _ a2 ih1 _ => intro h; exact hc.anc a2 (ih1 h)

/-- Kinds of operations that look and change nothing (any choice is sound). -/
def kindReads : Op → Bool
  | .move _ | .pick .. | .fieldAddr .. | .field .. | .unOp .. | .extract .. | .load .. | .nilCheck _ | .binOp .. | .indexAddr .. | .index .. | .slice ..
  | .makeFunc .. | .build .. | .makeInterface .. | .typeAssert .. => true
  | .convert s d _ => !(s == d)
  | .call { callee := .builtin b, .. } => match b with | .len | .cap | .min | .max => true | _ => false
  | _ => false

def looks (ops : Array Oper) (i : Nat) : List Tmp := match ops[i]? with | some o => o.looksAt ops | none => []
def dstOf (ops : Array Oper) (i : Nat) : Option Tmp := (ops[i]?).bind (·.dst)
def bit (m : List Nat) (i j : Nat) : Bool := (m.getD i 0).testBit j

/-- nobody but its heirs looks at what 'r' writes; nobody else writes it -/
def ssa (ops : Array Oper) (m : List Nat) (r : Nat) : Bool :=
  match dstOf ops r with
  | none => true
  | some d => (List.range ops.size).all fun j => (j == r || (bit m j r || !(looks ops j).contains d) && dstOf ops j != some d) && (j != r || !(looks ops j).contains d)
def rd (ops : Array Oper) (m : List Nat) (r : Nat) : Bool :=
  (match ops[r]? with | some o => kindReads o.op | none => false) && ssa ops m r

/-- the fence that keeps nothing out; 'r': of a round of a loop's -/
def fw (r : Option Nat) : Fence := { Fence.wide with round := r }
def noDefer (ops : Array Oper) : Bool := ops.all fun o => match o.op with | .defer _ => false | _ => true
theorem noDefer_ok {ops : Array Oper} (h : noDefer ops = true) {i : Nat} {o : Oper} (ho : ops[i]? = some o) (r : Option Nat) (ρ : Operand → Value) : o.semAt r ρ = execOp ρ o := by
  refine Oper.semAt_eq _ _ _ fun c hc => ?_
  unfold noDefer at h
  rw [Array.all_eq_true_iff_forall_mem] at h
  have := h o (Array.mem_of_getElem? ho)
  rw [hc] at this
  cases this
theorem about_fw (r : Option Nat) (f : FuncId) : (fw r).fn f := trivial

/-- behind an effect 'i': a read stands behind it by edges, or behind an effect that comes after it -/
def betw (ops : Array Oper) (m : List Nat) : List Nat → List Nat → Bool
  | _, [] => true
  | seen, x :: xs => bif rd ops m x then seen.any (bit m x ·) && betw ops m seen xs else betw ops m (x :: seen) xs
def orderOk (ops : Array Oper) (m : List Nat) : List Nat → Bool
  | [] => true
  | i :: rest => (rest.all fun x => !bit m i x) && (rd ops m i || betw ops m [i] rest) && orderOk ops m rest

def chk (ops : Array Oper) (m : List Nat) (c : List Nat) : Bool :=
  c.length == ops.size && decide c.Nodup && c.all (· < ops.size) && (List.range ops.size).all (c.contains ·) && orderOk ops m c && (Region.noSelect ops && noDefer ops) &&
  ((List.range ops.size).all fun i => match ops[i]? with | some o => o.after.all (fun e => !Region.binds .any e || e.on < i) | none => true) &&
  (c.all fun r => !rd ops m r || c.all fun j => j == r || bit m r j || bit m j r || (match dstOf ops j with | some d => !(looks ops r).contains d | none => true))

def Idem (P : Program) (ops : Array Oper) (r : Nat) (a : Act) (w : World) : Prop :=
  ∃ o, ops[r]? = some o ∧
    if Region.wanted o (yielded ops a.tmps) then ∃ v, (execOp a.eval o).run P w = .ok (.value v) w ∧ (∀ d, o.dst = some d → d < a.tmps.size → a.tmps[d]? = some v)
    else ∀ d, o.dst = some d → d < a.tmps.size → a.tmps[d]? = some undef

/-- The canonical walk. 'pre': what has been done. -/
def VR (rr : Option Nat) (P : Program) (ops : Array Oper) (m : List Nat) (Q : Act → World → Prop) : List Nat → List Nat → Act → World → Prop
  | _, [], a, w => Q a w
  | pre, i :: rest, a, w =>
    match ops[i]? with
    | none => False
    | some o =>
      if Region.wanted o (yielded ops a.tmps) then
        if rd ops m i then ∃ v, (execOp a.eval o).run P w = .ok (.value v) w ∧ VR rr P ops m Q (pre ++ [i]) rest (a.put o.dst v) w
        else o.uponIn (fw rr) 0 P a (fun a' w' => (∀ r ∈ pre, rd ops m r = true → bit m i r = false → Idem P ops r a' w') ∧ VR rr P ops m Q (pre ++ [i]) rest a' w') (fun _ _ _ => False)
          ((execOp a.eval o).run P w)
      else VR rr P ops m Q (pre ++ [i]) rest (a.put o.dst undef) w

/-- two frames alike but for what is still to be written -/
def Like (ops : Array Oper) (pend : List Nat) (ap av : Act) : Prop :=
  ap.defers = av.defers ∧ ap.tmps.size = av.tmps.size ∧ ∀ t, (∀ r ∈ pend, dstOf ops r ≠ some t) → ap.tmps[t]? = av.tmps[t]?

theorem put_get (a : Act) (dst : Option Tmp) (v : Value) (t : Nat) :
    (a.put dst v).tmps[t]? = if dst = some t ∧ t < a.tmps.size then some v else a.tmps[t]? := by
  cases dst with
  | none => simp [Act.put]
  | some d =>
    simp only [Act.put, Array.getElem?_setIfInBounds, Option.some.injEq]
    by_cases h : d = t
    · subst h
      by_cases hs : d < a.tmps.size <;> simp [hs]
    · simp [h]
theorem put_size (a : Act) (dst : Option Tmp) (v : Value) : (a.put dst v).tmps.size = a.tmps.size := by cases dst <;> simp [Act.put]
theorem put_def (a : Act) (dst : Option Tmp) (v : Value) : (a.put dst v).defers = a.defers := by cases dst <;> rfl

theorem eval_same {o : Oper} {a b : Act} (hs : ∀ cs bb, o.op ≠ .select cs bb) (h : ∀ t ∈ o.looksAt ops, a.tmps[t]? = b.tmps[t]?) :
    execOp a.eval o = execOp b.eval o ∧ Region.wanted o (yielded ops a.tmps) = Region.wanted o (yielded ops b.tmps) := by
  constructor
  · refine execOp_congr o hs fun x hx => ?_
    cases x with
    | tmp t =>
      have := h t (List.mem_append_left _ (List.mem_filterMap.2 ⟨.tmp t, by simpa using hx, rfl⟩))
      simp [Act.eval, this]
    | _ => rfl
  · unfold Region.wanted
    cases hg : o.guard with
    | none => rfl
    | some gw =>
      obtain ⟨g, want⟩ := gw
      have hy : yielded ops a.tmps g = yielded ops b.tmps g := by
        unfold yielded
        cases ht : (ops[g]?).bind (·.dst) with
        | none => rfl
        | some t =>
          have := h t (by simp [Oper.looksAt, hg, ht])
          simp only [Option.bind_some, this]
      simp only [hy]

theorem upon_swap {o : Oper} {ap av : Act} {np nv : Act → World → Prop} {Q : Exit → Act → World → Prop} {rr : Option Nat} (hd : ap.defers = av.defers)
    (h : ∀ ds v w, nv (Act.put { av with defers := ds } o.dst v) w → np (Act.put { ap with defers := ds } o.dst v) w) {r : Result Next}
    (hr : o.uponIn (fw rr) 0 P av nv (fun _ _ _ => False) r) : o.uponIn (fw rr) 0 P ap np Q r := by
  have h' : ∀ v w, nv (av.put o.dst v) w → np (ap.put o.dst v) w := fun v w hh => by
    have := h av.defers v w (by cases av; exact hh)
    rw [← hd] at this
    cases ap; exact this
  cases r with
  | ok n w' =>
    cases n <;> simp only [Oper.uponIn] at hr ⊢ <;>
      first
        | exact h' _ _ hr
        | (rw [hd]; exact h _ _ _ hr)
        | exact ⟨hr.1, CallsIn.mono hr.2 (fun e w'' he => by
            cases e with
            | returned v => exact h' _ _ he
            | panicked c => exact he.elim
            | outgrown => obtain ⟨_, _, hf⟩ := he; exact hf.elim)⟩
        | exact ⟨hr.1, RoundIn.mono hr.2 (fun e w'' he => by
            cases e with
            | returned v => exact h' _ _ he
            | panicked c => exact he.elim
            | outgrown => obtain ⟨_, _, hf⟩ := he; exact hf.elim)⟩
        | exact ⟨hr.1, RowsIn.mono hr.2 (fun _ _ he => h' _ _ he)⟩
  | halt x w' => cases x <;> simp only [Oper.uponIn] at hr ⊢

structure Inv (rr : Option Nat) (P : Program) (ops : Array Oper) (m : List Nat) (Q : Act → World → Prop) (c : List Nat) (listed : Array Bool) (ap av : Act) (w : World) (pre c' pend : List Nat) : Prop where
  split : c = pre ++ c'
  sub : ∀ r ∈ pend, r ∈ pre ∧ rd ops m r = true
  nod : pend.Nodup
  size : listed.size = ops.size
  un : ∀ i, i < ops.size → (listed.getD i false = true ↔ (i ∉ c' ∧ i ∉ pend))
  closed : Closed ops listed
  like : Like ops pend ap av
  idem : ∀ r ∈ pend, Idem P ops r av w
  vr : VR rr P ops m Q pre c' av w

structure Chk (ops : Array Oper) (m : List Nat) (c : List Nat) : Prop where
  len : c.length = ops.size
  nod : c.Nodup
  lt : ∀ i ∈ c, i < ops.size
  all : ∀ i, i < ops.size → i ∈ c
  order : orderOk ops m c = true
  nosel : Region.noSelect ops = true
  nodef : noDefer ops = true
  back : ∀ i o, ops[i]? = some o → ∀ e ∈ o.after, Region.binds .any e = true → e.on < i
  two : ∀ r ∈ c, rd ops m r = true → ∀ j ∈ c, j ≠ r → bit m r j = false → bit m j r = false → ∀ d, dstOf ops j = some d → d ∉ looks ops r
  mask : MaskOk ops m

theorem chk_ok {c : List Nat} (h : chk ops (masks ops) c = true) : Chk ops (masks ops) c := by
  simp only [chk, Bool.and_eq_true, List.all_eq_true, decide_eq_true_eq, beq_iff_eq, Bool.or_eq_true, Bool.not_eq_true', List.mem_range, List.contains_eq_mem] at h
  obtain ⟨⟨⟨⟨⟨⟨⟨h1, h2⟩, h3⟩, h0⟩, h4⟩, h5, h5'⟩, h6⟩, h7⟩ := h
  refine ⟨h1, h2, h3, h0, h4, h5, h5', ?_, ?_, masks_ok⟩
  · intro i o ho e he hb
    have hi : i < ops.size := (Array.getElem?_eq_some_iff.1 ho).1
    have := h6 i hi
    rw [ho] at this
    simp only [Array.all_eq_true_iff_forall_mem, Bool.or_eq_true, Bool.not_eq_true', decide_eq_true_eq] at this
    rcases this e he with h | h
    · rw [hb] at h; cases h
    · exact h
  · intro r hr hrd j hj hne hb1 hb2 d hd
    rcases h7 r hr with h | h
    · rw [hrd] at h; cases h
    · rcases h j hj with ((h | h) | h) | h
      · exact absurd h hne
      · rw [hb1] at h; cases h
      · rw [hb2] at h; cases h
      · rw [hd] at h; simpa using h

theorem orderOk_split {m : List Nat} : ∀ (pre : List Nat) {i : Nat} {rest : List Nat}, orderOk ops m (pre ++ i :: rest) = true → ∀ r ∈ pre, bit m r i = false
  | [], i, rest, _ => by simp
  | p :: pre, i, rest, h => by
    simp only [List.cons_append, orderOk, Bool.and_eq_true, List.all_eq_true, Bool.not_eq_true'] at h
    have ih := orderOk_split pre h.2
    intro r hr
    rcases List.mem_cons.1 hr with rfl | hr
    · exact h.1.1 i (by simp)
    · exact ih r hr
theorem betw_split {m : List Nat} : ∀ (q : List Nat) (seen : List Nat) {j : Nat} {rest : List Nat}, betw ops m seen (q ++ j :: rest) = true → rd ops m j = true → ∃ e, (e ∈ seen ∨ e ∈ q) ∧ bit m j e = true
  | [], seen, j, rest, h, hj => by
    simp only [List.nil_append, betw, hj, cond_true, Bool.and_eq_true, List.any_eq_true] at h
    obtain ⟨e, he, hb⟩ := h.1
    exact ⟨e, .inl he, hb⟩
  | x :: q, seen, j, rest, h, hj => by
    simp only [List.cons_append, betw] at h
    cases hx : rd ops m x with
    | true =>
      rw [hx, cond_true, Bool.and_eq_true] at h
      obtain ⟨e, he, hb⟩ := betw_split q seen h.2 hj
      exact ⟨e, he.elim .inl (fun h => .inr (by simp [h])), hb⟩
    | false =>
      rw [hx, cond_false] at h
      obtain ⟨e, he, hb⟩ := betw_split q (x :: seen) h hj
      refine ⟨e, ?_, hb⟩
      rcases he with he | he
      · rcases List.mem_cons.1 he with rfl | he
        · exact .inr (by simp)
        · exact .inl he
      · exact .inr (by simp [he])
theorem orderOk_betw {m : List Nat} : ∀ (pre q : List Nat) {i j : Nat} {rest : List Nat}, orderOk ops m (pre ++ i :: (q ++ j :: rest)) = true → rd ops m i = false → rd ops m j = true → ∃ e, (e = i ∨ e ∈ q) ∧ bit m j e = true
  | [], q, i, j, rest, h, hi, hj => by
    simp only [List.nil_append, orderOk, Bool.and_eq_true, hi, Bool.false_or] at h
    obtain ⟨e, he, hb⟩ := betw_split q [i] h.1.2 hj
    exact ⟨e, by simpa using he, hb⟩
  | p :: pre, q, i, j, rest, h, hi, hj => by
    simp only [List.cons_append, orderOk, Bool.and_eq_true] at h
    exact orderOk_betw pre q h.2 hi hj

theorem rd_ssa {m : List Nat} {r : Nat} (h : rd ops m r = true) {d : Nat} (hd : dstOf ops r = some d) :
    d ∉ looks ops r ∧ ∀ j, j < ops.size → j ≠ r → (d ∈ looks ops j → bit m j r = true) ∧ dstOf ops j ≠ some d := by
  simp only [rd, Bool.and_eq_true] at h
  have hs := h.2
  have hlt : r < ops.size := by
    cases ho : ops[r]? with
    | none => rw [ho] at h; simp at h
    | some o => exact (Array.getElem?_eq_some_iff.1 ho).1
  simp only [ssa, hd, List.all_eq_true, List.mem_range, Bool.and_eq_true, Bool.or_eq_true, beq_iff_eq, Bool.not_eq_true', List.contains_eq_mem, decide_eq_false_iff_not, bne_iff_ne] at hs
  refine ⟨?_, fun j hj hne => ?_⟩
  · rcases (hs r hlt).2 with h | h
    · exact absurd rfl h
    · exact h
  · rcases (hs j hj).1 with h | h
    · exact absurd h hne
    · refine ⟨fun hin => ?_, h.2⟩
      rcases h.1 with h | h
      · exact h
      · exact absurd hin h

/-- what is put where 'r' does not look leaves 'r' alone -/
theorem Idem.put {r : Nat} {a : Act} {w : World} (h : Idem P ops r a w) (hsel : Region.noSelect ops = true) (dst : Option Tmp) (v : Value)
    (h1 : ∀ d, dst = some d → d ∉ looks ops r) (h2 : ∀ d, dst = some d → dstOf ops r ≠ some d) : Idem P ops r (a.put dst v) w := by
  obtain ⟨o, ho, h⟩ := h
  have hl : looks ops r = o.looksAt ops := by simp [looks, ho]
  have hdo : dstOf ops r = o.dst := by simp [dstOf, ho]
  rw [hl] at h1
  rw [hdo] at h2
  refine ⟨o, ho, ?_⟩
  rw [wanted_put o a dst v h1, execOp_put o (fun cs b => Region.noSelect_spec hsel r o cs b ho) a dst v h1]
  have keep : ∀ d, o.dst = some d → (a.put dst v).tmps[d]? = a.tmps[d]? := fun d hd => by
    rw [put_get, if_neg]
    rintro ⟨e, _⟩
    exact h2 d e hd
  split
  · rename_i hw
    rw [if_pos hw] at h
    obtain ⟨x, hx, hy⟩ := h
    exact ⟨x, hx, fun d hd hs => by rw [keep d hd]; exact hy d hd (by rwa [put_size] at hs)⟩
  · rename_i hw
    rw [if_neg hw] at h
    exact fun d hd hs => by rw [keep d hd]; exact h d hd (by rwa [put_size] at hs)

theorem Idem.self {r : Nat} {o : Oper} {a : Act} {w : World} (ho : ops[r]? = some o) (hsel : Region.noSelect ops = true) (h1 : ∀ d, o.dst = some d → d ∉ o.looksAt ops) (v : Value)
    (h : if Region.wanted o (yielded ops a.tmps) then (execOp a.eval o).run P w = .ok (.value v) w else v = undef) : Idem P ops r (a.put o.dst v) w := by
  refine ⟨o, ho, ?_⟩
  rw [wanted_put o a o.dst v h1, execOp_put o (fun cs b => Region.noSelect_spec hsel r o cs b ho) a o.dst v h1]
  split
  · rename_i hw
    rw [if_pos hw] at h
    exact ⟨v, h, fun d hd hs => by rw [put_get, if_pos ⟨hd, by rwa [put_size] at hs⟩]⟩
  · rename_i hw
    rw [if_neg hw] at h
    exact fun d hd hs => by rw [put_get, if_pos ⟨hd, by rwa [put_size] at hs⟩, h]

/-- the next read is done ahead -/
theorem Inv.hoist {m c : List Nat} {Q : Act → World → Prop} {listed : Array Bool} {ap av : Act} {w : World} {pre c' pend : List Nat} {r : Nat} (C : Chk ops m c)
    (I : Inv rr P ops m Q c listed ap av w pre (r :: c') pend) (hr : rd ops m r = true) : ∃ av', Inv rr P ops m Q c listed ap av' w (pre ++ [r]) c' (r :: pend) := by
  have hin : r ∈ c := by rw [I.split]; simp
  have hlt := C.lt r hin
  have hnd : (pre ++ r :: c').Nodup := I.split ▸ C.nod
  have hpre : r ∉ pre := fun h => (List.nodup_append.1 hnd).2.2 r h r (by simp) rfl
  have hc' : r ∉ c' := ((List.nodup_cons.1 (List.nodup_append.1 hnd).2.1)).1
  have hpend : r ∉ pend := fun h => hpre (I.sub r h).1
  have hord := orderOk_split pre (I.split ▸ C.order)
  obtain ⟨o, ho⟩ : ∃ o, ops[r]? = some o := ⟨_, Array.getElem?_eq_getElem hlt⟩
  have hdo : dstOf ops r = o.dst := by simp [dstOf, ho]
  have hself : ∀ d, o.dst = some d → d ∉ o.looksAt ops := fun d hd => by
    have := (rd_ssa hr (hdo.trans hd)).1
    simpa [looks, ho] using this
  have key : ∃ v, (if Region.wanted o (yielded ops av.tmps) then (execOp av.eval o).run P w = .ok (.value v) w else v = undef) ∧ VR rr P ops m Q (pre ++ [r]) c' (av.put o.dst v) w := by
    have h := I.vr
    simp only [VR, ho, hr, if_true] at h
    split at h
    · rename_i hw
      obtain ⟨v, h1, h2⟩ := h
      exact ⟨v, by rw [if_pos hw]; exact h1, h2⟩
    · rename_i hw
      exact ⟨undef, by rw [if_neg hw], h⟩
  obtain ⟨v, hv, hvr⟩ := key
  refine ⟨av.put o.dst v, ⟨by rw [I.split]; simp, ?_, List.nodup_cons.2 ⟨hpend, I.nod⟩, I.size, ?_, I.closed, ?_, ?_, hvr⟩⟩
  · intro x hx
    rcases List.mem_cons.1 hx with rfl | hx
    · exact ⟨by simp, hr⟩
    · exact ⟨by simp [(I.sub x hx).1], (I.sub x hx).2⟩
  · intro i hi
    rw [I.un i hi]
    simp only [List.mem_cons]
    constructor
    · rintro ⟨h1, h2⟩
      exact ⟨fun h => h1 (.inr h), fun h => h.elim (fun h => h1 (.inl h)) h2⟩
    · rintro ⟨h1, h2⟩
      exact ⟨fun h => h.elim (fun h => h2 (.inl h)) h1, fun h => h2 (.inr h)⟩
  · obtain ⟨l1, l2, l3⟩ := I.like
    refine ⟨by rw [put_def]; exact l1, by rw [put_size]; exact l2, fun t ht => ?_⟩
    rw [put_get, if_neg, l3 t fun x hx => ht x (List.mem_cons_of_mem _ hx)]
    rintro ⟨e, _⟩
    exact ht r (List.mem_cons_self ..) (hdo.trans e)
  · intro x hx
    rcases List.mem_cons.1 hx with rfl | hx
    · exact Idem.self ho C.nosel hself v hv
    · have hxp := (I.sub x hx).1
      have hxlt : x < ops.size := C.lt x (by rw [I.split]; simp [hxp])
      have hne : x ≠ r := fun h => hpend (h ▸ hx)
      refine (I.idem x hx).put C.nosel o.dst v (fun d hd hl => ?_) (fun d hd => ?_)
      · have := ((rd_ssa hr (hdo.trans hd)).2 x hxlt hne).1 hl
        rw [hord x hxp] at this
        cases this
      · exact ((rd_ssa hr (hdo.trans hd)).2 x hxlt hne).2

theorem Inv.hoistAll {m c : List Nat} {Q : Act → World → Prop} {listed : Array Bool} {ap : Act} {w : World} (C : Chk ops m c) (p1 : List Nat) : ∀ {av : Act} {pre c' pend : List Nat},
    Inv rr P ops m Q c listed ap av w pre (p1 ++ c') pend → (∀ r ∈ p1, rd ops m r = true) → ∃ av' pend', Inv rr P ops m Q c listed ap av' w (pre ++ p1) c' pend' ∧ pend'.length = pend.length + p1.length ∧ (∀ r ∈ pend', r ∈ pend ∨ r ∈ p1) := by
  induction p1 with
  | nil => intro av pre c' pend I _; exact ⟨av, pend, by simpa using I, by simp, fun r h => .inl h⟩
  | cons r p1 ih =>
    intro av pre c' pend I h
    obtain ⟨av1, I1⟩ := Inv.hoist C I (h r (by simp))
    obtain ⟨av2, pend2, I2, hl, hm⟩ := ih I1 fun x hx => h x (by simp [hx])
    refine ⟨av2, pend2, by simpa using I2, by simp only [hl, List.length_cons]; omega, fun x hx => ?_⟩
    rcases hm x hx with h | h
    · rcases List.mem_cons.1 h with rfl | h
      · exact .inr (by simp)
      · exact .inl h
    · exact .inr (by simp [h])

theorem closed_set {listed : Array Bool} {j : Nat} (hc : Closed ops listed) (hr : ∀ o, ops[j]? = some o → ∀ e ∈ o.after, Region.binds .any e = true → listed.getD e.on false = true) :
    Closed ops (listed.setIfInBounds j true) := by
  intro i o e hi ho he hb
  by_cases hij : j = i
  · subst hij
    exact getD_set_true (hr o ho e he hb)
  · rw [getD_set_ne false hij] at hi
    exact getD_set_true (hc i o e hi ho he hb)

/-- operands stand when an operation is ready -/
theorem Inv.looks_same {m c : List Nat} {Q : Act → World → Prop} {listed : Array Bool} {ap av : Act} {w : World} {pre c' pend : List Nat} {j : Nat} {o : Oper} (C : Chk ops m c)
    (I : Inv rr P ops m Q c listed ap av w pre c' pend) (hj : ops[j]? = some o)
    (hr : ∀ e ∈ o.after, Region.binds .any e = true → listed.getD e.on false = true) : ∀ t ∈ o.looksAt ops, ap.tmps[t]? = av.tmps[t]? := by
  intro t ht
  refine I.like.2.2 t fun r hrp hd => ?_
  have hrd := (I.sub r hrp).2
  have hjlt : j < ops.size := (Array.getElem?_eq_some_iff.1 hj).1
  have hl : looks ops j = o.looksAt ops := by simp [looks, hj]
  have hs := rd_ssa hrd hd
  by_cases hne : j = r
  · subst hne
    exact hs.1 (hl ▸ ht)
  · have hb := (hs.2 j hjlt hne).1 (hl ▸ ht)
    have ha : Anc ops j r := C.mask j r hb
    have hlist := I.closed.ready ha (fun o' ho' => by rw [hj] at ho'; injection ho' with ho'; subst ho'; exact hr)
    have hrlt : r < ops.size := C.lt r (by rw [I.split]; simp [(I.sub r hrp).1])
    exact ((I.un r hrlt).1 hlist).2 hrp

theorem getD_false_of {listed : Array Bool} {j : Nat} (h : listed.getD j true = false) : listed.getD j false = false := by
  rcases Nat.lt_or_ge j listed.size with hl | hl
  · simp only [Array.getD_eq_getD_getElem?, Array.getElem?_eq_getElem hl, Option.getD_some] at h ⊢
    exact h
  · simp [Array.getElem?_eq_none hl] at h

/-- a schedule: each one when it may -/
def Valid (ops : Array Oper) : Array Bool → List Nat → Prop
  | _, [] => True
  | listed, j :: l => listed.getD j false = false ∧ j < ops.size ∧ (∀ o, ops[j]? = some o → ∀ e ∈ o.after, Region.binds .any e = true → listed.getD e.on false = true) ∧ Valid ops (listed.setIfInBounds j true) l

def effs (ops : Array Oper) (m : List Nat) (l : List Nat) : List Nat := l.filter fun i => !rd ops m i

theorem VR_list {m c : List Nat} {Q : Exit → Act → World → Prop} (C : Chk ops m c) : ∀ (l : List Nat) (listed : Array Bool) (ap av : Act) (w : World) (pre c' pend : List Nat),
    Inv rr P ops m (Q .normal) c listed ap av w pre c' pend → l.length = c'.length + pend.length → Valid ops listed l → effs ops m l = effs ops m c' → wpOpsIn (fw rr) 0 P ops Q l ap w := by
  intro l
  induction l with
  | nil =>
    intro listed ap av w pre c' pend I hf _ _
    simp only [List.length_nil] at hf
    have hc' : c' = [] := List.eq_nil_of_length_eq_zero (by omega)
    have hp : pend = [] := List.eq_nil_of_length_eq_zero (by omega)
    subst hc' hp
    have hv := I.vr
    simp only [VR] at hv
    obtain ⟨l1, l2, l3⟩ := I.like
    have : ap = av := by
      cases ap; cases av
      simp only [Act.mk.injEq]
      exact ⟨Array.ext_getElem? fun t => l3 t (by simp), l1⟩
    rw [this]
    exact hv
  | cons j l ih =>
    intro listed ap av w pre c' pend I hf hval heff
    simp only [List.length_cons] at hf
    have hsplit := I.split
    have hnd : (pre ++ c').Nodup := hsplit ▸ C.nod
    have hdis : ∀ x, x ∈ pre → x ∉ c' := fun x hx hx' => (List.nodup_append.1 hnd).2.2 x hx x hx' rfl
    rw [wpOpsIn_cons]
    obtain ⟨hun, hlt, hedge0, hval'⟩ := hval
    obtain ⟨o, ho⟩ : ∃ o, ops[j]? = some o := ⟨_, Array.getElem?_eq_getElem hlt⟩
    have hedge := hedge0 o ho
    have hjs : j < listed.size := by rw [I.size]; exact hlt
    have hcl := closed_set (ops := ops) (j := j) I.closed (fun o' ho' => by rw [ho] at ho'; injection ho' with ho'; subst ho'; exact hedge)
    have hsel := fun cs b => Region.noSelect_spec C.nosel j o cs b ho
    have hdo : dstOf ops j = o.dst := by simp [dstOf, ho]
    have hwho : j ∈ c' ∨ j ∈ pend := by
      by_cases hc : j ∈ c'
      · exact .inl hc
      · by_cases hp : j ∈ pend
        · exact .inr hp
        · have := (I.un j hlt).2 ⟨hc, hp⟩
          rw [hun] at this
          cases this
    unfold wpOpIn
    simp only [ho]
    by_cases hp : j ∈ pend
    · -- what was promised is done now
      obtain ⟨o', ho', hid⟩ := I.idem j hp
      rw [ho] at ho'
      injection ho' with ho'
      subst ho'
      obtain ⟨he, hw⟩ := eval_same (ops := ops) hsel (Inv.looks_same C I ho hedge)
      have hrest : ∀ v, (∀ d, o.dst = some d → d < av.tmps.size → av.tmps[d]? = some v) →
          wpOpsIn (fw rr) 0 P ops Q l (ap.put o.dst v) w := by
        intro v hv
        refine ih _ _ av w pre c' (pend.erase j) ⟨hsplit, fun r hr => I.sub r (List.mem_of_mem_erase hr), I.nod.erase j, by simp [I.size], ?_, hcl, ?_, fun r hr => I.idem r (List.mem_of_mem_erase hr), I.vr⟩ ?_ hval' ?_
        · intro i hi
          by_cases hij : j = i
          · subst hij
            have h1 : (listed.setIfInBounds j true).getD j false = true := by simp [hjs]
            rw [h1]
            exact ⟨fun _ => ⟨hdis j (I.sub j hp).1, fun h => (List.Nodup.mem_erase_iff I.nod).1 h |>.1 rfl⟩, fun _ => rfl⟩
          · rw [getD_set_ne false hij, I.un i hi, List.Nodup.mem_erase_iff I.nod]
            exact ⟨fun ⟨h1, h2⟩ => ⟨h1, fun h => h2 h.2⟩, fun ⟨h1, h2⟩ => ⟨h1, fun h => h2 ⟨Ne.symm hij, h⟩⟩⟩
        · obtain ⟨l1, l2, l3⟩ := I.like
          refine ⟨by rw [put_def]; exact l1, by rw [put_size]; exact l2, fun t ht => ?_⟩
          rw [put_get]
          by_cases hd : o.dst = some t
          · by_cases hs : t < ap.tmps.size
            · rw [if_pos ⟨hd, hs⟩, hv t hd (by rw [← l2]; exact hs)]
            · rw [if_neg (fun h => hs h.2), Array.getElem?_eq_none (Nat.le_of_not_lt hs), Array.getElem?_eq_none (Nat.le_of_not_lt (by rw [← l2]; exact hs))]
          · rw [if_neg (fun h => hd h.1)]
            refine l3 t fun r hr hdr => ?_
            by_cases hrj : r = j
            · subst hrj; exact hd (hdo.symm.trans hdr)
            · exact ht r ((List.Nodup.mem_erase_iff I.nod).2 ⟨hrj, hr⟩) hdr
        · rw [List.length_erase_of_mem hp]
          have : 0 < pend.length := List.length_pos_of_mem hp
          omega
        · have hrd := (I.sub j hp).2
          unfold effs at heff ⊢
          simpa [List.filter_cons, hrd] using heff
      rw [hw]
      split
      · rename_i hwd
        rw [if_pos hwd] at hid
        obtain ⟨v, hv1, hv2⟩ := hid
        refine ⟨fun _ _ => trivial, ?_⟩
        rw [noDefer_ok C.nodef ho, he, hv1]
        exact hrest v hv2
      · rename_i hwd
        rw [if_neg hwd] at hid
        exact ⟨fun _ _ => trivial, hrest undef hid⟩
    · -- the next one of the canonical walk, behind some reads
      have hc : j ∈ c' := hwho.resolve_right hp
      obtain ⟨p1, p2, hps⟩ := List.append_of_mem hc
      have hnd0 : (p1 ++ j :: p2).Nodup := hps ▸ (List.nodup_append.1 hnd).2.1
      have hp1 : ∀ r ∈ p1, rd ops m r = true := by
        intro r hr
        cases hrr : rd ops m r with
        | true => rfl
        | false =>
          exfalso
          obtain ⟨q1, q2, hq⟩ := List.append_of_mem hr
          cases hje : rd ops m j with
          | false =>
            have hne : effs ops m p1 ≠ [] := fun hnil => by
              have hin : r ∈ effs ops m p1 := List.mem_filter.2 ⟨hr, by simp [hrr]⟩
              rw [hnil] at hin
              cases hin
            obtain ⟨x, xs, hx⟩ := List.exists_cons_of_ne_nil hne
            have hxm : x ∈ p1 := by
              have : x ∈ effs ops m p1 := by rw [hx]; simp
              exact (List.mem_filter.1 this).1
            have h2 : effs ops m (j :: l) = j :: effs ops m l := by simp [effs, hje]
            have h3 : effs ops m c' = x :: (xs ++ effs ops m (j :: p2)) := by
              rw [hps]
              unfold effs at hx ⊢
              rw [List.filter_append, hx, List.cons_append]
            rw [h2, h3] at heff
            injection heff with h4 _
            subst h4
            exact (List.nodup_append.1 hnd0).2.2 j hxm j (by simp) rfl
          | true =>
            obtain ⟨e, he, hb⟩ := orderOk_betw (ops := ops) (m := m) (pre ++ q1) q2 (i := r) (j := j) (rest := p2) (by have := C.order; rw [hsplit, hps, hq] at this; simpa using this) hrr hje
            have ha : Anc ops j e := C.mask j e hb
            have hlist := I.closed.ready ha (fun o' ho' => by rw [ho] at ho'; injection ho' with ho'; subst ho'; exact hedge)
            have hec : e ∈ c' := by
              rw [hps, hq]
              rcases he with rfl | he
              · simp
              · simp [he]
            exact ((I.un e (C.lt e (by rw [hsplit]; simp [hec]))).1 hlist).1 hec
      have heff2 : effs ops m l = effs ops m p2 := by
        have h1 : effs ops m p1 = [] := by
          unfold effs
          rw [List.filter_eq_nil_iff]
          intro x hx
          simp [hp1 x hx]
        have h2 : effs ops m c' = effs ops m (j :: p2) := by
          rw [hps]
          unfold effs at h1 ⊢
          rw [List.filter_append, h1, List.nil_append]
        rw [h2] at heff
        unfold effs at heff ⊢
        simp only [List.filter_cons] at heff
        split at heff
        · injection heff
        · exact heff
      obtain ⟨av, pend', I', hl', hm'⟩ := Inv.hoistAll C p1 (hps ▸ I) hp1
      clear I
      have hpend' : j ∉ pend' := fun h => by
        rcases hm' j h with h | h
        · exact hp h
        · have h2 : (p1 ++ j :: p2).Nodup := hps ▸ (List.nodup_append.1 hnd).2.1
          exact (List.nodup_append.1 h2).2.2 j h j (by simp) rfl
      obtain ⟨he, hw⟩ := eval_same (ops := ops) hsel (Inv.looks_same C I' ho hedge)
      have hnd' : (pre ++ p1 ++ j :: p2).Nodup := I'.split ▸ C.nod
      have hj2 : j ∉ p2 := (List.nodup_cons.1 (List.nodup_append.1 hnd').2.1).1
      have hord := orderOk_split (ops := ops) (m := m) (pre ++ p1) (i := j) (rest := p2) (I'.split ▸ C.order)
      have hlen : l.length = p2.length + pend'.length := by
        have : c'.length = p1.length + (p2.length + 1) := by rw [hps]; simp
        omega
      -- the state behind the step
      have hnext : ∀ (ap' av' : Act) (w' : World), Like ops pend' ap' av' → (∀ r ∈ pend', Idem P ops r av' w') → VR rr P ops m (Q .normal) (pre ++ p1 ++ [j]) p2 av' w' →
          wpOpsIn (fw rr) 0 P ops Q l ap' w' := by
        intro ap' av' w' hlike hidem hvr
        refine ih _ ap' av' w' (pre ++ p1 ++ [j]) p2 pend' ⟨by rw [I'.split]; simp, fun r hr => ⟨by simp only [List.mem_append]; exact .inl (List.mem_append.1 (I'.sub r hr).1), (I'.sub r hr).2⟩, I'.nod, by simp [I'.size], ?_, hcl, hlike, hidem, hvr⟩ hlen hval' heff2
        intro i hi
        by_cases hij : j = i
        · subst hij
          have h1 : (listed.setIfInBounds j true).getD j false = true := by simp [hjs]
          rw [h1]
          exact ⟨fun _ => ⟨hj2, hpend'⟩, fun _ => rfl⟩
        · rw [getD_set_ne false hij, I'.un i hi]
          simp only [List.mem_cons]
          exact ⟨fun ⟨h1, h2⟩ => ⟨fun h => h1 (.inr h), h2⟩, fun ⟨h1, h2⟩ => ⟨fun h => h.elim (fun h => hij h.symm) h1, h2⟩⟩
      have hlikeput : ∀ ds v, Like ops pend' (Act.put { ap with defers := ds } o.dst v) (Act.put { av with defers := ds } o.dst v) := by
        intro ds v
        obtain ⟨l1, l2, l3⟩ := I'.like
        refine ⟨by rw [put_def, put_def], by rw [put_size, put_size]; exact l2, fun t ht => ?_⟩
        rw [put_get, put_get]
        by_cases hd : o.dst = some t ∧ t < ap.tmps.size
        · rw [if_pos hd, if_pos ⟨hd.1, by rw [← l2]; exact hd.2⟩]
        · rw [if_neg hd, if_neg (fun h => hd ⟨h.1, by rw [l2]; exact h.2⟩)]
          exact l3 t ht
      have hputd : ∀ (a : Act) v, Act.put { a with defers := a.defers } o.dst v = a.put o.dst v := fun a v => by cases a; rfl
      have hdd : ap.defers = av.defers := I'.like.1
      have hlike1 : ∀ v, Like ops pend' (ap.put o.dst v) (av.put o.dst v) := fun v => by
        have := hlikeput ap.defers v
        rw [hputd] at this
        have h2 : Act.put { av with defers := ap.defers } o.dst v = av.put o.dst v := by rw [hdd]
        rwa [h2] at this
      -- a read of j's own kind leaves the promises
      have hkeep : rd ops m j = true → ∀ v, ∀ r ∈ pend', Idem P ops r (av.put o.dst v) w := by
        intro hrd v r hr
        have hrp := (I'.sub r hr).1
        have hrlt : r < ops.size := C.lt r (by rw [I'.split]; simp only [List.mem_append] at hrp ⊢; exact .inl hrp)
        have hne : r ≠ j := fun h => hpend' (h ▸ hr)
        refine (I'.idem r hr).put C.nosel o.dst v (fun d hd hl => ?_) (fun d hd => ?_)
        · have := ((rd_ssa hrd (hdo.trans hd)).2 r hrlt hne).1 hl
          rw [hord r hrp] at this
          cases this
        · exact ((rd_ssa hrd (hdo.trans hd)).2 r hrlt hne).2
      -- nor does one that is passed over
      have hkeep2 : ∀ v, (∀ r ∈ pend', Idem P ops r (av.put o.dst v) w) := by
        intro v r hr
        by_cases hrd : rd ops m j = true
        · exact hkeep hrd v r hr
        · have hrp := (I'.sub r hr).1
          have hrlt : r < ops.size := C.lt r (by rw [I'.split]; simp only [List.mem_append] at hrp ⊢; exact .inl hrp)
          have hne : j ≠ r := fun h => hpend' (h ▸ hr)
          have hb1 : bit m r j = false := hord r hrp
          have hb2 : bit m j r = false := by
            cases hb : bit m j r
            · rfl
            · exfalso
              have ha : Anc ops j r := C.mask j r hb
              have hlist := I'.closed.ready ha (fun o' ho' => by rw [ho] at ho'; injection ho' with ho'; subst ho'; exact hedge)
              exact ((I'.un r hrlt).1 hlist).2 hr
          refine (I'.idem r hr).put C.nosel o.dst v (fun d hd => ?_) (fun d hd hd' => ?_)
          · exact C.two r (by rw [I'.split]; simp only [List.mem_append] at hrp ⊢; exact .inl hrp) (I'.sub r hr).2 j (by rw [I'.split]; simp) hne hb1 hb2 d (hdo.trans hd)
          · exact ((rd_ssa (I'.sub r hr).2 hd').2 j hlt hne).2 (hdo.trans hd)
      have hvr := I'.vr
      simp only [VR, ho] at hvr
      rw [hw]
      split
      · rename_i hwd
        rw [if_pos hwd] at hvr
        refine ⟨fun _ _ => trivial, ?_⟩
        rw [noDefer_ok C.nodef ho, he]
        by_cases hrd : rd ops m j = true
        · rw [if_pos hrd] at hvr
          obtain ⟨v, hv1, hv2⟩ := hvr
          rw [hv1]
          exact hnext _ _ _ (hlike1 v) (hkeep hrd v) hv2
        · rw [if_neg hrd] at hvr
          refine upon_swap hdd (fun ds v w' hh => ?_) hvr
          refine hnext _ _ _ (hlikeput ds v) (fun r hr => ?_) hh.2
          have hrp := (I'.sub r hr).1
          have hrlt : r < ops.size := C.lt r (by rw [I'.split]; simp only [List.mem_append] at hrp ⊢; exact .inl hrp)
          refine hh.1 r (by simpa using hrp) (I'.sub r hr).2 ?_
          cases hb : bit m j r
          · rfl
          · exfalso
            have ha : Anc ops j r := C.mask j r hb
            have hlist := I'.closed.ready ha (fun o' ho' => by rw [ho] at ho'; injection ho' with ho'; subst ho'; exact hedge)
            exact ((I'.un r hrlt).1 hlist).2 hr
      · rename_i hwd
        rw [if_neg hwd] at hvr
        exact ⟨fun _ _ => trivial, hnext _ _ _ (hlike1 undef) (hkeep2 undef) hvr⟩



/-- all orders of the effects that the edges allow -/
def lin (m : List Nat) : Nat → List Nat → List (List Nat)
  | 0, _ => [[]]
  | _ + 1, [] => [[]]
  | f + 1, x :: l => ((x :: l).filter fun i => (x :: l).all fun y => !bit m i y).flatMap fun i => (lin m f ((x :: l).erase i)).map (i :: ·)

theorem lin_mem {m : List Nat} : ∀ (p E : List Nat) (f : Nat), p.Perm E → E.length ≤ f → p.Nodup → p.Pairwise (fun x y => bit m x y = false) → (∀ x ∈ E, bit m x x = false) → p ∈ lin m f E
  | [], E, f, hp, _, _, _, _ => by
    have : E = [] := hp.symm.eq_nil
    subst this
    cases f <;> simp [lin]
  | i :: p, E, f, hp, hl, hn, hpw, hself => by
    have hiE : i ∈ E := hp.mem_iff.1 (by simp)
    cases f with
    | zero =>
      have : E = [] := List.eq_nil_of_length_eq_zero (by omega)
      subst this
      cases hiE
    | succ f =>
      cases E with
      | nil => cases hiE
      | cons x E =>
        simp only [lin, List.mem_flatMap, List.mem_filter, List.all_eq_true, Bool.not_eq_true', List.mem_map]
        obtain ⟨hpw1, hpw2⟩ := List.pairwise_cons.1 hpw
        obtain ⟨hn1, hn2⟩ := List.nodup_cons.1 hn
        refine ⟨i, ⟨hiE, fun y hy => ?_⟩, p, ?_, rfl⟩
        · by_cases hyi : y = i
          · subst hyi
            exact hself y hy
          · have : y ∈ i :: p := hp.mem_iff.2 hy
            exact hpw1 y (by simpa [hyi] using this)
        · refine lin_mem p _ f ?_ ?_ hn2 hpw2 (fun z hz => hself z (List.mem_of_mem_erase hz))
          · have := hp.erase i
            simpa using this
          · rw [List.length_erase_of_mem hiE]
            simp only [List.length_cons] at hl ⊢
            omega

theorem mem_ready_of {listed : Array Bool} {j : Nat} (hj : j ∈ Region.ready .any ops listed) :
    listed.getD j false = false ∧ j < ops.size ∧ ∀ o, ops[j]? = some o → ∀ e ∈ o.after, Region.binds .any e = true → listed.getD e.on false = true := by
  rw [mem_ready] at hj
  obtain ⟨h0, o, ho, h⟩ := hj
  exact ⟨getD_false_of h0, (Array.getElem?_eq_some_iff.1 ho).1, fun o' ho' => by rw [ho] at ho'; injection ho' with ho'; subst ho'; exact h⟩

/-- the model's schedules are such -/
theorem linearise_valid (back : ∀ i o, ops[i]? = some o → ∀ e ∈ o.after, Region.binds .any e = true → e.on < i) : ∀ (u : List Nat) (t : Nat) (listed : Array Bool), listed.size = ops.size → u.Nodup →
    (∀ i, i < ops.size → (listed.getD i false = false ↔ i ∈ u)) → (∀ i ∈ u, i < ops.size) →
    Valid ops listed (Region.linearise.go .any ops u.length t listed []) ∧ (Region.linearise.go .any ops u.length t listed []).Perm u := by
  intro u
  induction hu : u.length generalizing u with
  | zero =>
    intro t listed _ _ _ _
    have : u = [] := List.eq_nil_of_length_eq_zero hu
    subst this
    simp [Region.linearise.go, Valid]
  | succ n ih =>
    intro t listed hsz hn hun hlt
    simp only [Region.linearise.go]
    change Valid ops listed (match (Region.ready .any ops listed)[t % (Region.ready .any ops listed).length]? with
      | some i => Region.linearise.go .any ops n (t / (Region.ready .any ops listed).length) (listed.setIfInBounds i true) [i]
      | none => [].reverse) ∧ (match (Region.ready .any ops listed)[t % (Region.ready .any ops listed).length]? with
      | some i => Region.linearise.go .any ops n (t / (Region.ready .any ops listed).length) (listed.setIfInBounds i true) [i]
      | none => [].reverse).Perm u
    cases hi : (Region.ready .any ops listed)[t % (Region.ready .any ops listed).length]? with
    | none =>
      exfalso
      have hnil : Region.ready .any ops listed = [] := by
        cases hr : Region.ready .any ops listed with
        | nil => rfl
        | cons x xs =>
          rw [hr] at hi
          have hlt : t % (x :: xs).length < (x :: xs).length := Nat.mod_lt _ (by simp)
          rw [List.getElem?_eq_getElem hlt] at hi
          cases hi
      -- the least one is ready
      have least : ∀ k, (∃ i, i < k ∧ i ∈ u) → ∃ i, i ∈ u ∧ ∀ j, j < i → j ∉ u := by
        intro k
        induction k with
        | zero => rintro ⟨i, h, _⟩; omega
        | succ k ihk =>
          rintro ⟨i, h1, h2⟩
          by_cases hsm : ∃ i, i < k ∧ i ∈ u
          · exact ihk hsm
          · refine ⟨i, h2, fun j hj hju => hsm ⟨j, by omega, hju⟩⟩
      obtain ⟨x, xs, hx⟩ : ∃ x xs, u = x :: xs := by
        cases u with
        | nil => simp at hu
        | cons x xs => exact ⟨x, xs, rfl⟩
      obtain ⟨i, h1, h2⟩ := least (x + 1) ⟨x, by omega, by rw [hx]; simp⟩
      have hil := hlt i h1
      have hmem : i ∈ Region.ready .any ops listed := by
        rw [mem_ready]
        refine ⟨?_, ops[i], Array.getElem?_eq_getElem hil, fun e he hb => ?_⟩
        · have := (hun i hil).2 h1
          have hl : i < listed.size := by rw [hsz]; exact hil
          simp only [Array.getD_eq_getD_getElem?, Array.getElem?_eq_getElem hl, Option.getD_some] at this ⊢
          exact this
        · have hb2 := back i _ (Array.getElem?_eq_getElem hil) e he hb
          cases hle : listed.getD e.on false with
          | true => rfl
          | false => exact absurd ((hun e.on (by omega)).1 hle) (h2 _ hb2)
      rw [hnil] at hmem
      cases hmem
    | some i =>
      simp only []
      rw [linearise_go_acc, List.reverse_singleton, List.singleton_append]
      have hm := List.mem_of_getElem? hi
      obtain ⟨m1, m2, m3⟩ := mem_ready_of hm
      have hiu : i ∈ u := (hun i m2).1 m1
      have hlen : (u.erase i).length = n := by rw [List.length_erase_of_mem hiu]; omega
      obtain ⟨i1, i2⟩ := ih (u.erase i) hlen (t / (Region.ready .any ops listed).length) (listed.setIfInBounds i true) (by simp [hsz]) (hn.erase i) (fun j hj => by
        rw [List.Nodup.mem_erase_iff hn]
        by_cases hij : i = j
        · subst hij
          have : i < listed.size := by rw [hsz]; exact m2
          simp [this]
        · rw [getD_set_ne false hij, hun j hj]
          exact ⟨fun h => ⟨fun e => hij e.symm, h⟩, fun h => h.2⟩) (fun j hj => hlt j (List.mem_of_mem_erase hj))
      exact ⟨⟨m1, m2, m3, i1⟩, (List.Perm.cons i i2).trans (List.perm_cons_erase hiu).symm⟩

theorem valid_pairwise {m : List Nat} (hm : MaskOk ops m) : ∀ (l : List Nat) (listed : Array Bool), listed.size = ops.size → Closed ops listed → Valid ops listed l →
    l.Pairwise (fun x y => bit m x y = false) ∧ (∀ x ∈ l, listed.getD x false = false) ∧ l.Nodup ∧ ∀ x ∈ l, bit m x x = false
  | [], _, _, _, _ => by simp
  | j :: l, listed, hsz, hc, ⟨h1, h2, h3, h4⟩ => by
    have hjs : j < listed.size := by rw [hsz]; exact h2
    obtain ⟨k1, k2, k3, k4⟩ := valid_pairwise hm l (listed.setIfInBounds j true) (by simp [hsz]) (closed_set hc h3) h4
    have hjl : j ∉ l := fun h => by
      have := k2 j h
      simp [hjs] at this
    have key : ∀ y, bit m j y = true → listed.getD y false = true := fun y hb => hc.ready (hm j y hb) (fun o ho => h3 o ho)
    have old : ∀ x ∈ l, listed.getD x false = false := fun x hx => by
      have := k2 x hx
      have hne : j ≠ x := fun e => hjl (e ▸ hx)
      rwa [getD_set_ne false hne] at this
    refine ⟨List.pairwise_cons.2 ⟨fun y hy => ?_, k1⟩, fun x hx => ?_, List.nodup_cons.2 ⟨hjl, k3⟩, fun x hx => ?_⟩
    · cases hb : bit m j y with
      | false => rfl
      | true =>
        have := key y hb
        rw [old y hy] at this
        cases this
    · rcases List.mem_cons.1 hx with rfl | hx
      · exact h1
      · exact old x hx
    · rcases List.mem_cons.1 hx with rfl | hx
      · cases hb : bit m x x with
        | false => rfl
        | true =>
          have := key x hb
          rw [h1] at this
          cases this
      · exact k4 x hx

def chkAll (ops : Array Oper) (m : List Nat) (cs : List (List Nat)) : Bool :=
  (!cs.isEmpty) && (cs.all fun c => chk ops m c) && (lin m ops.size (effs ops m (List.range ops.size))).all fun p => cs.any fun c => effs ops m c == p

theorem region_alts {cs : List (List Nat)} {Q : Exit → Act → World → Prop} {id : Nat} {a : Act} {w : World} (hm : P.follows .mixedOrders = true) (hc : chkAll ops (masks ops) cs = true)
    (h : ∀ c ∈ cs, VR rr P ops (masks ops) (Q .normal) [] c a { w with drawn := w.drawn + 1 }) : (Code.region id ops true).wpIn (fw rr) 0 P Q a w := by
  simp only [chkAll, Bool.and_eq_true, List.all_eq_true, List.any_eq_true, beq_iff_eq, Bool.not_eq_true', List.isEmpty_eq_false_iff] at hc
  obtain ⟨⟨hne, hchk⟩, hall⟩ := hc
  obtain ⟨c0, hc0⟩ := List.exists_mem_of_ne_nil cs hne
  have C0 := chk_ok (hchk c0 hc0)
  refine wpIn_region_draw fun t => ?_
  simp only [Region.schedule, hm, Bool.true_or, if_true]
  have hz : (Array.replicate ops.size false).size = ops.size := by simp
  have hun0 : ∀ i, i < ops.size → ((Array.replicate ops.size false).getD i false = false ↔ i ∈ List.range ops.size) := fun i hi => by simp [hi]
  have hcl : Closed ops (Array.replicate ops.size false) := by
    intro i o e hi
    rcases Nat.lt_or_ge i ops.size with h | h
    · simp [h] at hi
    · simp [h] at hi
  obtain ⟨v1, v2⟩ := linearise_valid C0.back (List.range ops.size) t (Array.replicate ops.size false) hz List.nodup_range hun0 (by simp)
  rw [List.length_range] at v1 v2
  obtain ⟨w1, _, w3, w4⟩ := valid_pairwise (masks_ok (ops := ops)) _ _ hz hcl v1
  have hl : Region.linearise .any ops t = Region.linearise.go .any ops ops.size t (Array.replicate ops.size false) [] := rfl
  rw [hl]
  generalize Region.linearise.go .any ops ops.size t (Array.replicate ops.size false) [] = l at *
  have hp : effs ops (masks ops) l ∈ lin (masks ops) ops.size (effs ops (masks ops) (List.range ops.size)) := by
    refine lin_mem _ _ _ (v2.filter _) ?_ (w3.filter _) (w1.filter _) (fun x hx => ?_)
    · have := List.length_filter_le (fun i => !rd ops (masks ops) i) (List.range ops.size)
      simpa [effs] using this
    · exact w4 x (v2.mem_iff.2 (List.mem_filter.1 hx).1)
  obtain ⟨c, hcc, hce⟩ := hall _ hp
  have C := chk_ok (hchk c hcc)
  refine VR_list C l _ a a _ [] c [] ⟨rfl, by simp, List.nodup_nil, by simp, ?_, hcl, ⟨rfl, rfl, fun _ _ => rfl⟩, by simp, h c hcc⟩ ?_ v1 hce.symm
  · intro i hi
    have := C.all i hi
    simp [hi, this]
  · have := v2.length_eq
    simp only [List.length_range] at this
    simp [C.len, this]
end
end Go.SX
