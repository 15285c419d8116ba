/- Compact code, whole; what 'safe' means; the rules of control. -/
import Derived.Test.YthlkoehifpnoeaaDoorSxF
namespace Go.SX

inductive SOp where
  | rd (d : Nat) (r : SRd)
  | grd (g : Nat) (want : Bool) (d : Nat) (r : SRd)
  | box (d : Nat) (T : TypeId) (x : Opd)
  | alloc (d : Nat) (T : TypeId) (z : List Value)
  | store (x y : Opd) (n : Nat)
  | call (d : Option Nat) (f : Opd) (args : List Opd)
  | app (d : Nat) (e sz bytes : Nat) (z : List Value) (s x : Opd)
  | bsl (d : Nat) (e sz len : Nat) (z : List Value) (ps : List (Nat × Nat × Opd))
  | mksl (d : Nat) (e sz bytes : Nat) (z : List Value) (len cap : Opd)
  | oth (d : Option Nat) (op : Op) (ty : TypeId)
  | gs (g : Nat) (want : Bool) (so : SOp)
  deriving Inhabited

inductive SCode where
  | skip
  | ops (l : List (SOp × List SOp))
  | alts (ls : List (List (SOp × List SOp)))
  | seq (a b : SCode)
  | cond (c : Opd) (thn els : SCode)
  | block (id : Nat) (body : SCode)
  | loop (body : SCode)
  | exit (id : Nat)
  | ret
  | oth (c : Code)
  deriving Inhabited

def slParts (sz len : Nat) : List (Nat × Operand) → Option (List (Nat × Nat × Opd))
  | [] => some []
  | (i, x) :: ps => match copd x, slParts sz len ps with
    | some y, some r => some ((i * sz, sz, y) :: r)
    | _, _ => none
def rowZ (z : Array Value) (n : Nat) : List Value := (List.range n).map fun i => z[i % z.size]!

def ceff (P : Program) (N : Nat) (o : Oper) : Option SOp :=
  match o.op, o.dst with
  | .box T x, some d => if d < N then (copd x).map (.box d T) else none
  | .alloc T, some d => match (P.info? T).bind (·.zero) with
    | some z => if d < N then some (.alloc d T z.cells.toList) else none
    | none => none
  | .store t x y, none => match szOf P t, copd x, copd y with | some n, some x, some y => some (.store x y n) | _, _, _ => none
  | .call { callee := .value f, args, .. }, d => match copd f, copds args.toList with | some f, some xs => if d.all (· < N) then some (.call d f xs) else none | _, _ => none
  | .call { callee := .builtin .append, args, argTypes }, some d =>
    match args.toList, argTypes.toList with
    | [s, x], [t, t'] => match P.underlying t, P.underlying t' with
      | some (.slice e), some (.slice e') => match P.info? e, copd s, copd x with
        | some i, some s, some x => match i.zero with
          | some z => if d < N ∧ 0 < i.size ∧ z.cells.size = i.size ∧ szOf P e' = some i.size ∧ 0 < i.bytes then some (.app d e i.size i.bytes z.cells.toList s x) else none
          | none => none
        | _, _, _ => none
      | _, _ => if d < N then some (.oth (some d) o.op o.type) else none
    | _, _ => none
  | .buildSlice t len ps, some d =>
    match P.underlying t with
    | some (.slice e) => match P.info? e, (P.info? e).bind (·.zero) with
      | some i, some z => if d < N ∧ 0 < i.size ∧ z.cells.size = i.size ∧ len * i.size ≤ 2 ^ 24 then (slParts i.size len ps.toList).map (.bsl d e i.size len (rowZ z.cells (len * i.size))) else none
      | _, _ => none
    | _ => none
  | .makeSlice t l c, some d =>
    match P.underlying t with
    | some (.slice e) => match P.info? e, (P.info? e).bind (·.zero), copd l, copd c with
      | some i, some z, some l, some c => if d < N ∧ 0 < i.size ∧ z.cells.size = i.size then some (.mksl d e i.size i.bytes z.cells.toList l c) else none
      | _, _, _, _ => none
    | _ => none
  | op, d => if d.all (· < N) then some (.oth d op o.type) else none

def gslot (ops : Array Oper) (j : Nat) : Option Nat := (ops[j]?).bind (·.dst)

def cop (P : Program) (N : Nat) (ops : Array Oper) (isRd : Bool) (o : Oper) : Option SOp :=
  match crd P o.op, o.dst, o.guard with
  | some r, some d, none => if d < N then some (.rd d r) else none
  | some r, some d, some (j, w) => match gslot ops j with | some g => if d < N then some (.grd g w d r) else none | none => none
  | _, d, some (j, w) => match gslot ops j with
    | some g => if isRd then (if d.all (· < N) then some (.gs g w (.oth d o.op o.type)) else none) else (ceff P N o).map (.gs g w)
    | none => none
  | _, d, none => if isRd then (if d.all (· < N) then some (.oth d o.op o.type) else none) else ceff P N o

def cpend (P : Program) (N : Nat) (ops : Array Oper) : List Nat → Option (List SOp)
  | [] => some []
  | r :: rs => match (ops[r]?).bind (cop P N ops true), cpend P N ops rs with
    | some x, some xs => some (x :: xs)
    | _, _ => none

def compOps (P : Program) (N : Nat) (ops : Array Oper) (m : List Nat) : List Nat → List Nat → Option (List (SOp × List SOp))
  | _, [] => some []
  | pre, i :: rest =>
    match ops[i]? with
    | none => none
    | some o =>
      match cop P N ops (rd ops m i) o, cpend P N ops (if rd ops m i then [] else pre.filter fun r => rd ops m r && !bit m i r), compOps P N ops m (pre ++ [i]) rest with
      | some so, some ps, some l => some ((so, ps) :: l)
      | _, _, _ => none

def okOps (ops : Array Oper) : Bool := Region.noSelect ops && noDefer ops
def fullMasks (n : Nat) : List Nat := (List.range n).map fun i => 2 ^ i - 1

def canonGo (n : Nat) (m : List Nat) (rds : List Bool) : Nat → Nat → List Nat → List Nat → List Nat
  | 0, _, acc, _ => acc.reverse
  | fuel + 1, done, acc, ext =>
    let ready := (List.range n).filter fun i => !done.testBit i && (m.getD i 0 ||| done) == done
    match ready.find? (fun i => rds.getD i false) with
    | some i => canonGo n m rds fuel (done ||| 2 ^ i) (i :: acc) ext
    | none => match ext with
      | i :: ext => canonGo n m rds fuel (done ||| 2 ^ i) (i :: acc) ext
      | [] => acc.reverse
def altsOf (ops : Array Oper) : List (List Nat) :=
  (lin (masks ops) ops.size (effs ops (masks ops) (List.range ops.size))).map fun ext =>
    canonGo ops.size (masks ops) ((List.range ops.size).map (rd ops (masks ops))) ops.size 0 [] ext

def compAlts (P : Program) (N : Nat) (ops : Array Oper) (m : List Nat) : List (List Nat) → Option (List (List (SOp × List SOp)))
  | [] => some []
  | c :: cs => match compOps P N ops m [] c, compAlts P N ops m cs with | some l, some ls => some (l :: ls) | _, _ => none
def altC : List (List (SOp × List SOp)) → SCode
  | [l] => .ops l
  | ls => .alts ls

def comp (P : Program) (N : Nat) : Code → Option SCode
  | .skip => some .skip
  | .region _ ops true => if P.follows .mixedOrders && chkAll ops (masks ops) (altsOf ops) then (compAlts P N ops (masks ops) (altsOf ops)).map altC else none
  | .region _ ops false => if okOps ops then (compOps P N ops (fullMasks ops.size) [] (List.range ops.size)).map .ops else none
  | .seq a b => match comp P N a, comp P N b with | some a, some b => some (.seq a b) | _, _ => none
  | .cond c a b => match copd c, comp P N a, comp P N b with | some c, some a, some b => some (.cond c a b) | _, _, _ => none
  | .block id c => (comp P N c).map (.block id)
  | .loop c => (comp P N c).map .loop
  | .exit id => some (.exit id)
  | .ret => some .ret
  | c => some (.oth c)

/-- what is behind a call: the result, the memory, more RO -/
def Fin (E : Env) (ro0 : RO) (F : Hp) (Post : SV → List Chunk → Prop) : Ending → World → Prop := fun e w' =>
  ∃ v heap' ro' H', e = .returned (SV.den v) ∧ Post v heap' ∧ ROle ro0 ro' ∧ v.ok ro' ∧ hsat ro' heap' H' ∧ Sat E ro' (H' ++ F) w'

/-- A function's contract: with these arguments and this memory (and whatever else there is, which stays) it returns, and 'Post' holds of what it returns and of the memory. -/
def Spec (P : Program) (E : Env) (f : FuncId) (args : List SV) (heap : List Chunk) (Post : SV → List Chunk → Prop) : Prop :=
  ∀ ro F H w, hsat ro heap H → SV.oks ro args → Sat E ro (H ++ F) w → Calls P f (SV.dens args).toArray w (Fin E ro F Post)

structure Setup where
  C : Ctx
  fn : Func
  Post : SV → List Chunk → Prop
  keep : List Nat := []

inductive Frag where
  | ops (l : List (SOp × List SOp))
  | code (c : SCode)
  | blk (id : Nat)
  | lend (J : RO → Hp → Act → World → Prop)
  | opn (so : SOp) (ps : List SOp) (l : List (SOp × List SOp))
  | bot (J : RO → Hp → Exit → Act → World → Prop)

def contK (S : Setup) (ro0 : RO) (F : Hp) : List Frag → Exit → Act → World → Prop
  | [], e, a, w => bodyPostM Fence.wide 0 S.C.P S.fn (Fin S.C.E ro0 F S.Post) e a w
  | .bot J :: _, e, a, w => J ro0 F e a w
  | .ops l :: k, e, a, w =>
    match e with
    | .normal => ∀ ops m pre rest, okOps ops = true → compOps S.C.P S.C.N ops m pre rest = some l → VR S.C.rd S.C.P ops m (contK S ro0 F k .normal) pre rest a w
    | e => contK S ro0 F k e a w
  | .code c :: k, e, a, w =>
    match e with
    | .normal => ∀ code, comp S.C.P S.C.N code = some c → code.wpIn (fw S.C.rd) 0 S.C.P (contK S ro0 F k) a w
    | e => contK S ro0 F k e a w
  | .blk id :: k, e, a, w =>
    match e with
    | .exit id' => if id' = id then contK S ro0 F k .normal a w else contK S ro0 F k (.exit id') a w
    | e => contK S ro0 F k e a w
  | .lend J :: k, e, a, w =>
    match e with
    | .normal => J ro0 F a w
    | e => contK S ro0 F k e a w
  | .opn so ps l :: k, e, a, w =>
    match e with
    | .normal => ∀ ops m pre i o rest g wn, okOps ops = true → ops[i]? = some o → Region.wanted o (yielded ops a.tmps) = true → cop S.C.P S.C.N ops (rd ops m i) o = some (.gs g wn so) →
        compOps S.C.P S.C.N ops m pre (i :: rest) = some ((.gs g wn so, ps) :: l) → VR S.C.rd S.C.P ops m (contK S ro0 F k .normal) pre (i :: rest) a w
    | e => contK S ro0 F k e a w

def Safe (S : Setup) (k : List Frag) (st : St) : Prop := ∀ ro0 F a w, Gam S.C ro0 F st a w → contK S ro0 F k .normal a w

section
variable {S : Setup} {k : List Frag} {st : St}

theorem Gam.drew {C : Ctx} {ro0 : RO} {F : Hp} {a : Act} {w : World} (h : Gam C ro0 F st a w) : Gam C ro0 F st a { w with drawn := w.drawn + 1 } := by
  obtain ⟨ro, H, hle, g⟩ := h
  exact ⟨ro, H, hle, g.defs, g.size, g.heap, ⟨g.sat.os, g.sat.tape, g.sat.out, g.sat.rom, g.sat.own, g.sat.nod⟩, g.env⟩

theorem VR_seq {rr : Option Nat} {P : Program} {ops : Array Oper} (hnd : noDefer ops = true) {m : List Nat} {Q : Exit → Act → World → Prop} : ∀ (rest pre : List Nat) (a : Act) (w : World), VR rr P ops m (Q .normal) pre rest a w → wpOpsIn (fw rr) 0 P ops Q rest a w
  | [], _, a, w, h => h
  | i :: rest, pre, a, w, h => by
    simp only [VR] at h
    simp only [wpOpsIn]
    cases ho : ops[i]? with
    | none => simp [ho] at h
    | some o =>
      simp only [ho] at h ⊢
      split
      · rename_i hw
        rw [if_pos hw] at h
        refine ⟨fun _ _ => trivial, ?_⟩
        rw [noDefer_ok hnd ho]
        split at h
        · obtain ⟨v, h1, h2⟩ := h
          rw [h1]
          exact VR_seq hnd rest _ _ _ h2
        · exact upon_swap rfl (fun ds v w' hh => VR_seq hnd rest _ _ _ hh.2) h
      · rename_i hw
        rw [if_neg hw] at h
        exact ⟨fun _ _ => trivial, VR_seq hnd rest _ _ _ h⟩

theorem noSelect_chk {ops : Array Oper} {m c : List Nat} (h : chk ops m c = true) : okOps ops = true := by
  simp only [chk, Bool.and_eq_true] at h
  simp only [okOps, Bool.and_eq_true]
  exact h.1.1.2

theorem compAlts_mem {P : Program} {N : Nat} {ops : Array Oper} {m : List Nat} : ∀ {cs : List (List Nat)} {ls : List (List (SOp × List SOp))}, compAlts P N ops m cs = some ls → ∀ c ∈ cs, ∃ l ∈ ls, compOps P N ops m [] c = some l
  | [], _, _, c, hc => by simp at hc
  | c0 :: cs, ls, h, c, hc => by
    simp only [compAlts] at h
    split at h
    · rename_i l ls' h1 h2
      injection h with h
      subst h
      rcases List.mem_cons.1 hc with rfl | hc
      · exact ⟨l, by simp, h1⟩
      · obtain ⟨l', hl', hc'⟩ := compAlts_mem h2 c hc
        exact ⟨l', by simp [hl'], hc'⟩
    · cases h

theorem noSelect_all {ops : Array Oper} {m : List Nat} {cs : List (List Nat)} (h : chkAll ops m cs = true) : okOps ops = true := by
  simp only [chkAll, Bool.and_eq_true, List.all_eq_true, Bool.not_eq_true', List.isEmpty_eq_false_iff] at h
  obtain ⟨c, hc⟩ := List.exists_mem_of_ne_nil cs h.1.1
  exact noSelect_chk (h.1.2 c hc)

theorem wp_drawn {ls : List (List (SOp × List SOp))} {id : Nat} {ops : Array Oper} {ro0 : RO} {F : Hp} {a : Act} {w : World} (h : ∀ l ∈ ls, Safe S (.ops l :: k) st) (hg : Gam S.C ro0 F st a w)
    (hf : S.C.P.follows .mixedOrders = true) (hc : chkAll ops (masks ops) (altsOf ops) = true) (hl : compAlts S.C.P S.C.N ops (masks ops) (altsOf ops) = some ls) :
    (Code.region id ops true).wpIn (fw S.C.rd) 0 S.C.P (contK S ro0 F k) a w := by
  refine region_alts hf hc fun c hcc => ?_
  obtain ⟨l, hl1, hl2⟩ := compAlts_mem hl c hcc
  exact h l hl1 ro0 F a _ hg.drew ops _ [] _ (noSelect_all hc) hl2

theorem altC_ops {ls : List (List (SOp × List SOp))} {l : List (SOp × List SOp)} (h : altC ls = .ops l) : ls = [l] := by
  unfold altC at h
  split at h
  · injection h with h; rw [h]
  · cases h
theorem altC_alts {ls ls' : List (List (SOp × List SOp))} (h : altC ls = .alts ls') : ls = ls' := by
  unfold altC at h
  split at h
  · cases h
  · injection h

theorem safe_region {l : List (SOp × List SOp)} (h : Safe S (.ops l :: k) st) : Safe S (.code (.ops l) :: k) st := by
  intro ro0 F a w hg code hc
  cases code with
  | region id ops draw =>
    cases draw with
    | true =>
      simp only [comp] at hc
      split at hc
      · rename_i hh
        simp only [Bool.and_eq_true] at hh
        simp only [Option.map_eq_some_iff] at hc
        obtain ⟨ls, hl, he⟩ := hc
        have := altC_ops he
        subst this
        exact wp_drawn (by simpa using h) hg hh.1 hh.2 hl
      · cases hc
    | false =>
      simp only [comp] at hc
      split at hc
      · rename_i hns
        cases hl : compOps S.C.P S.C.N ops (fullMasks ops.size) [] (List.range ops.size) with
        | none => simp [hl] at hc
        | some l' =>
          simp only [hl, Option.map_some, Option.some.injEq, SCode.ops.injEq] at hc
          subst hc
          exact wpIn_region (VR_seq (by simp only [okOps, Bool.and_eq_true] at hns; exact hns.2) _ _ _ _ (h ro0 F a w hg ops _ [] _ hns hl))
      · cases hc
  | _ =>
    simp only [comp, Option.map_eq_some_iff, Option.some.injEq, reduceCtorEq, and_false, exists_false] at hc <;> (try cases hc) <;> (split at hc <;> simp at hc)

theorem safe_alts {ls : List (List (SOp × List SOp))} (h : ∀ l ∈ ls, Safe S (.ops l :: k) st) : Safe S (.code (.alts ls) :: k) st := by
  intro ro0 F a w hg code hc
  cases code with
  | region id ops draw =>
    cases draw with
    | true =>
      simp only [comp] at hc
      split at hc
      · rename_i hh
        simp only [Bool.and_eq_true] at hh
        simp only [Option.map_eq_some_iff] at hc
        obtain ⟨ls', hl, he⟩ := hc
        have := altC_alts he
        subst this
        exact wp_drawn h hg hh.1 hh.2 hl
      · cases hc
    | false =>
      simp only [comp] at hc
      split at hc
      · cases hl : compOps S.C.P S.C.N ops (fullMasks ops.size) [] (List.range ops.size) <;> simp [hl] at hc
      · cases hc
  | _ =>
    simp only [comp, Option.map_eq_some_iff, Option.some.injEq, reduceCtorEq, and_false, exists_false] at hc <;> (try cases hc) <;> (split at hc <;> simp at hc)

theorem safe_nil (h : Safe S k st) : Safe S (.ops [] :: k) st := by
  intro ro0 F a w hg ops m pre rest _ hc
  cases rest with
  | nil => exact h ro0 F a w hg
  | cons i rest =>
    exfalso
    simp only [compOps] at hc
    split at hc
    · cases hc
    · split at hc <;> simp at hc
end
end Go.SX
