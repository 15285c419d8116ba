/- The model agrees with the reads: each operation. -/
import Derived.Test.YthlkoehifpnoeaaDoorSxD
import Derived.Laws.Tables
namespace Go.SX
section
variable {C : Ctx} {ro : RO} {H F : Hp} {st : St} {a : Act} {w : World}

theorem bind_some2 {α β γ : Type} {x : Option α} {y : Option β} {f : α → β → Option γ} {c : γ} (h : (do let a ← x; let b ← y; f a b) = some c) : ∃ a b, x = some a ∧ y = some b ∧ f a b = some c := by
  cases x with
  | none => simp at h
  | some a => cases y with
    | none => simp at h
    | some b => exact ⟨a, b, rfl, rfl, by simpa using h⟩

theorem bpart_ok {x : SV} {b q : Bool} (h : bpart x = some (b, q)) : q = true → x.den = .bool b := by
  unfold bpart at h
  split at h
  · simp only [Option.some.injEq, Prod.mk.injEq] at h
    obtain ⟨rfl, rfl⟩ := h
    intro _; rfl
  · simp only [Option.some.injEq, Prod.mk.injEq] at h
    obtain ⟨rfl, rfl⟩ := h
    rintro rfl; rfl
  · cases h

theorem pick_sound (g : G C ro H F st a w) {c x y : Operand} {c' x' y' : Opd} (hc : copd c = some c') (hx : copd x = some x') (hy : copd y = some y') {s : SV} {vc : Prop}
    (h : rdv st (.pick c' x' y') = some (s, vc)) (hvc : vc) : (do pure (.value (if ← asBool (a.eval c) then a.eval x else a.eval y)) : Sem Next).run C.P w = .ok (.value s.den) w ∧ s.ok ro := by
  simp only [rdv] at h
  split at h
  · rename_i p sx sy e1 e2 e3
    split at h
    · rename_i b1 q1 b2 q2 f1 f2
      simp only [Option.some.injEq, Prod.mk.injEq] at h
      obtain ⟨rfl, rfl⟩ := h
      refine ⟨?_, by simp only [SV.ok]⟩
      rw [(opv_ok g hc e1).1, (opv_ok g hx e2).1, (opv_ok g hy e3).1]
      cases p with
      | true => simp [SV.den, asBool, bpart_ok f1 (hvc.1 rfl)]
      | false => simp [SV.den, asBool, bpart_ok f2 (hvc.2 rfl)]
    · cases h
  · cases h

theorem nchk_sound (g : G C ro H F st a w) {x : Operand} {x' : Opd} (hx : copd x = some x') {s : SV} {vc : Prop} (h : rdv st (.nchk x') = some (s, vc)) {o : Oper} (ho : o.op = .nilCheck x) :
    (execOp a.eval o).run C.P w = .ok (.value s.den) w ∧ s.ok ro := by
  simp only [rdv] at h
  split at h
  · rename_i e
    simp only [Option.some.injEq, Prod.mk.injEq] at h
    obtain ⟨rfl, rfl⟩ := h
    obtain ⟨h1, h2⟩ := opv_ok g hx e
    exact ⟨by simp [execOp, ho, h1, SV.den], h2⟩
  · rename_i e
    simp only [Option.some.injEq, Prod.mk.injEq] at h
    obtain ⟨rfl, rfl⟩ := h
    obtain ⟨h1, h2⟩ := opv_ok g hx e
    exact ⟨by simp [execOp, ho, h1, SV.den], h2⟩
  · rename_i e
    simp only [Option.some.injEq, Prod.mk.injEq] at h
    obtain ⟨rfl, rfl⟩ := h
    obtain ⟨h1, h2⟩ := opv_ok g hx e
    refine ⟨?_, h2⟩
    simp only [SV.ok] at h2
    obtain ⟨ad, rfl, _⟩ := h2
    simp [execOp, ho, h1, SV.den]
  · cases h

theorem field_run {P : Program} {s : TypeId} {fs : Array Field} {f n : Nat} {fl : Field} (hs : P.underlying s = some (.struct fs)) (hf : fs[f]? = some fl) (hn : szOf P fl.type = some (n + 1)) (ad : Addr) :
    (Instr.fieldAt s (.pointer (some ad)) f).run P w = .ok (.pointer (some (ad.add fl.offset))) w := by
  simp [Instr.fieldAt, run_underlying hs, hf, Instr.sureAddr, fieldPlace, sizeOf_run hn]

theorem fadd_sound (g : G C ro H F st a w) {sT f n : Nat} {fs : Array Field} {fl : Field} (hs : C.P.underlying sT = some (.struct fs)) (hf : fs[f]? = some fl) (hn : szOf C.P fl.type = some (n + 1))
    {x : Operand} {x' : Opd} (hx : copd x = some x') {s : SV} {vc : Prop} (h : rdv st (.fadd x' fl.offset) = some (s, vc)) :
    (Instr.fieldAt sT (a.eval x) f).run C.P w = .ok s.den w ∧ s.ok ro := by
  simp only [rdv] at h
  split at h
  · rename_i e
    simp only [Option.some.injEq, Prod.mk.injEq] at h
    obtain ⟨rfl, rfl⟩ := h
    obtain ⟨h1, h2⟩ := opv_ok g hx e
    refine ⟨?_, by simp only [SV.ok]⟩
    rw [h1]
    simp only [SV.den, field_run hs hf hn, add_none]
  · rename_i e
    simp only [Option.some.injEq, Prod.mk.injEq] at h
    obtain ⟨rfl, rfl⟩ := h
    obtain ⟨h1, h2⟩ := opv_ok g hx e
    refine ⟨?_, by simp only [SV.ok]⟩
    rw [h1]
    simp only [SV.den, field_run hs hf hn, add_none, Nat.add_assoc]
  · rename_i e
    simp only [Option.some.injEq, Prod.mk.injEq] at h
    obtain ⟨rfl, rfl⟩ := h
    obtain ⟨h1, h2⟩ := opv_ok g hx e
    rw [h1]
    simp only [SV.ok] at h2 ⊢
    refine ⟨?_, h2⟩
    obtain ⟨ad, rfl, _⟩ := h2
    simp only [SV.den, Option.map_some, field_run hs hf hn, add_add, Nat.add_assoc]
  · cases h

theorem part_run {P : Program} {t : TypeId} {n : Option Nat} (hn : aggOf P t = some n) (cs : List SV) (off : Nat) {s : SV}
    (h : partV cs off n = some s) (hok : SV.oks ro cs) : (part t (SV.dens cs).toArray off).run P w = .ok s.den w ∧ s.ok ro := by
  obtain ⟨h1, h2⟩ := isAgg_run hn w
  cases n with
  | none =>
    simp only [partV, getL_eq] at h
    refine ⟨?_, oks_iff.1 hok _ (List.mem_of_getElem? h)⟩
    have : (SV.dens cs).toArray[off]? = some s.den := by rw [dens_eq]; simp [h]
    simp [part, h1, this]
  | some n =>
    simp only [partV, dropL_eq] at h
    split at h
    · rename_i l hl
      injection h with h
      subst h
      obtain ⟨rfl, hle⟩ := takeL_eq _ _ _ hl
      have h3 := sizeOf_run (h2 n rfl) w
      refine ⟨?_, ?_⟩
      · simp only [part, Sem.run_bind, h1, h3, Result.andThen_ok, Option.isSome_some, if_true, Sem.run_pure, SV.den, dens_eq]
        congr 2
        simp [List.map_take, List.map_drop]
      · simp only [SV.ok, oks_iff]
        intro x hx
        exact oks_iff.1 hok _ (List.mem_of_mem_drop (List.mem_of_mem_take hx))
    · cases h

theorem fld_sound (g : G C ro H F st a w) {sT f : Nat} {fs : Array Field} {fl : Field} {n : Option Nat} (hs : C.P.underlying sT = some (.struct fs)) (hf : fs[f]? = some fl) (hn : aggOf C.P fl.type = some n)
    {x : Operand} {x' : Opd} (hx : copd x = some x') {s : SV} {vc : Prop} (h : rdv st (.fld x' fl.offset n) = some (s, vc)) :
    (Instr.field sT (a.eval x) f).run C.P w = .ok s.den w ∧ s.ok ro := by
  simp only [rdv] at h
  split at h
  · rename_i cs e
    obtain ⟨h1, h2⟩ := opv_ok g hx e
    simp only [SV.ok] at h2
    split at h
    · rename_i s' e2
      simp only [Option.some.injEq, Prod.mk.injEq] at h
      obtain ⟨rfl, rfl⟩ := h
      have h4 := part_run (w := w) hn cs fl.offset e2 h2
      refine ⟨?_, h4.2⟩
      rw [h1]
      simp [Instr.field, run_underlying hs, hf, SV.den, asAgg, h4.1]
    · cases h
  · cases h

theorem un_sound (g : G C ro H F st a w) {o : UnOp} {x : Operand} {x' : Opd} (hx : copd x = some x') {s : SV} {vc : Prop} (h : rdv st (.un o x') = some (s, vc)) (hvc : vc) :
    (Op.unary o (a.eval x)).run C.P w = .ok s.den w ∧ s.ok ro := by
  cases o <;> simp only [rdv, reduceCtorEq] at h
  · split at h
    · rename_i k n e
      simp only [Option.some.injEq] at h
      obtain ⟨h1, h2⟩ := opv_ok g hx e
      have h3 : (ar k (0 - n)).2 := by rw [h]; exact hvc
      obtain ⟨h4, h5⟩ := ar_ok (ro := ro) _ _ h3
      rw [h] at h4 h5
      exact ⟨by rw [h1, h4]; simp [Op.unary, SV.den, Op.intArith], h5⟩
    · cases h
  · split at h
    · rename_i e
      simp only [Option.some.injEq, Prod.mk.injEq] at h
      obtain ⟨rfl, rfl⟩ := h
      obtain ⟨h1, h2⟩ := opv_ok g hx e
      exact ⟨by rw [h1]; simp [Op.unary, SV.den], by simp only [SV.ok]⟩
    · cases h

theorem ext_sound (g : G C ro H F st a w) {x : Operand} {x' : Opd} {i : Nat} (hx : copd x = some x') {s : SV} {vc : Prop} (h : rdv st (.ext x' i) = some (s, vc)) :
    (Instr.extract (a.eval x) i).run C.P w = .ok s.den w ∧ s.ok ro := by
  simp only [rdv] at h
  split at h
  · rename_i cs e
    obtain ⟨h1, h2⟩ := opv_ok g hx e
    simp only [SV.ok] at h2
    split at h
    · rename_i s' e2
      simp only [Option.some.injEq, Prod.mk.injEq] at h
      obtain ⟨rfl, rfl⟩ := h
      rw [getL_eq] at e2
      refine ⟨?_, oks_iff.1 h2 _ (List.mem_of_getElem? e2)⟩
      rw [h1]
      have : (SV.dens cs).toArray[i]? = some s'.den := by rw [dens_eq]; simp [e2]
      simp [Instr.extract, SV.den, this]
    · cases h
  · cases h

theorem intOf_ok {s : SV} {i : Int} (h : intOf s = some i) : ∃ k, s.den = .int k i := by
  unfold intOf at h
  split at h
  · injection h with h
    subst h
    exact ⟨_, rfl⟩
  · cases h

theorem idx_sound (g : G C ro H F st a w) {t e n : Nat} (ht : C.P.underlying t = some (.slice e)) (hn : szOf C.P e = some (n + 1)) {x i : Operand} {x' i' : Opd} (hx : copd x = some x') (hi : copd i = some i') {s : SV} {vc : Prop}
    (h : rdv st (.idx x' i' (n + 1)) = some (s, vc)) (hvc : vc) : (Instr.indexAt t (a.eval x) (a.eval i)).run C.P w = .ok s.den w ∧ s.ok ro := by
  simp only [rdv] at h
  split at h
  · rename_i sx si e1 e2
    obtain ⟨h1, h2⟩ := opv_ok g hx e1
    obtain ⟨h3, _⟩ := opv_ok g hi e2
    rw [h1, h3]
    clear h1 h3 e1 e2
    unfold idxV at h
    split at h
    · cases h
    rename_i iv hiv
    obtain ⟨k, hk⟩ := intOf_ok hiv
    rw [hk]
    cases sx <;> simp only [reduceCtorEq] at h
    case view ad n' cap sz' f =>
      simp only [Option.some.injEq, Prod.mk.injEq] at h
      obtain ⟨rfl, rfl⟩ := h
      obtain ⟨b1, b2, rfl⟩ := hvc
      simp only [SV.ok] at h2
      obtain ⟨⟨ad', rfl, _⟩, _⟩ := h2.2 iv.toNat 0 (by omega) (by omega)
      refine ⟨?_, ?_⟩
      · have : 0 ≤ iv ∧ iv < (n' : Int) := ⟨b1, b2⟩
        simp [Instr.indexAt, SV.den, asIntOf, run_underlying ht, this, sizeOf_run hn]
      · simp only [SV.ok]
        refine ⟨ad', rfl, fun j hj => ?_⟩
        obtain ⟨⟨ad2, h5, h6⟩, h7⟩ := h2.2 iv.toNat j (by omega) hj
        injection h5 with h5
        subst h5
        exact ⟨h6, h7⟩
    case osl c nl b off n' cap =>
      split at h
      · rename_i nl' b' T off' sz' m cap' f hc
        simp only [Option.some.injEq, Prod.mk.injEq] at h
        obtain ⟨rfl, rfl⟩ := h
        obtain ⟨b1, b2, rfl, b3⟩ := hvc
        obtain ⟨rfl, _⟩ := g.row hc (by omega)
        refine ⟨?_, by simp only [SV.ok]⟩
        have : 0 ≤ iv ∧ iv < (n' : Int) := ⟨b1, b2⟩
        simp [Instr.indexAt, SV.den, asIntOf, run_underlying ht, this, sizeOf_run hn, add_none]
      · cases h
  · cases h

theorem sidx_sound (g : G C ro H F st a w) {t : Nat} (ht : C.P.underlying t = some .string) {x i : Operand} {x' i' : Opd} (hx : copd x = some x') (hi : copd i = some i') {s : SV} {vc : Prop}
    (h : rdv st (.sidx x' i') = some (s, vc)) (hvc : vc) : (Instr.index t (a.eval x) (a.eval i)).run C.P w = .ok s.den w ∧ s.ok ro := by
  simp only [rdv] at h
  split at h
  · rename_i b k iv e1 e2
    simp only [Option.some.injEq, Prod.mk.injEq] at h
    obtain ⟨rfl, rfl⟩ := h
    obtain ⟨h1, _⟩ := opv_ok g hx e1
    obtain ⟨h3, _⟩ := opv_ok g hi e2
    rw [h1, h3]
    refine ⟨?_, by simp only [SV.ok]⟩
    have hlt : iv.toNat < b.size := by omega
    have hget : b[iv.toNat]? = some b[iv.toNat] := by
      show (if h : iv.toNat < b.size then some b[iv.toNat] else none) = _
      rw [dif_pos hlt]
    have hbt : bt b iv = (b[iv.toNat].toNat : Int) := by
      unfold bt
      have hl : iv.toNat < b.data.toList.length := by rw [Array.length_toList]; exact hlt
      rw [List.getD_eq_getElem?_getD, List.getElem?_eq_getElem hl]
      rfl
    have e : (if 0 ≤ iv then b[iv.toNat]? else none) = some b[iv.toNat] := by rw [if_pos hvc.1, hget]
    simp only [Instr.index, SV.den, asIntOf, Sem.run_bind, run_underlying ht, Result.andThen_ok, Sem.run_pure, e, hbt]
  · cases h

theorem iv_ok (g : G C ro H F st a w) {o : Option Operand} {o' : Option Opd} (ho : copt o = some o') {d i : Int} (h : ivOf st.env d o' = some i) :
    (o = none ∧ o' = none ∧ i = d) ∨ ∃ x k, o = some x ∧ o'.isSome = true ∧ a.eval x = .int k i := by
  cases o with
  | none =>
    simp only [copt, Option.some.injEq] at ho
    subst ho
    simp only [ivOf, Option.some.injEq] at h
    exact .inl ⟨rfl, rfl, h.symm⟩
  | some x =>
    simp only [copt, Option.map_eq_some_iff] at ho
    obtain ⟨y, hy, rfl⟩ := ho
    simp only [ivOf] at h
    split at h
    · rename_i s e
      obtain ⟨k, hk⟩ := intOf_ok h
      exact .inr ⟨x, k, rfl, rfl, (opv_ok g hy e).1.trans hk⟩
    · cases h

theorem bound_run {P : Program} {k : IntKind} {i : Int} {y : Nat} {c : BoundsCode} (h0 : 0 ≤ i) (h1 : i ≤ y) : (Instr.sliceBound (.int k i) y c).run P w = .ok i.toNat w := by
  have : 0 ≤ i ∧ i ≤ (y : Int) := ⟨h0, h1⟩
  simp [Instr.sliceBound, asIntOf, this]

theorem bounds_run (g : G C ro H F st a w) {isS : Bool} {len cap : Nat} {lo hi mx : Option Operand} {lo' hi' mx' : Option Opd} (hlo : copt lo = some lo') (hhi : copt hi = some hi') (hmx : copt mx = some mx')
    {l h m : Int} (el : ivOf st.env 0 lo' = some l) (eh : ivOf st.env len hi' = some h) (em : ivOf st.env cap mx' = some m)
    (h0 : 0 ≤ l) (h1 : l ≤ h) (h2 : h ≤ m) (h3 : m ≤ cap) (h4 : mx'.isSome = true → hi'.isSome = true) :
    (Instr.sliceBounds isS len cap (lo.map a.eval) (hi.map a.eval) (mx.map a.eval)).run C.P w = .ok (l.toNat, h.toNat, m.toNat) w := by
  have b1 : l ≤ (h.toNat : Int) := by omega
  have b2 : h ≤ (m.toNat : Int) := by omega
  have b3 : 0 ≤ h := by omega
  have b4 : 0 ≤ m := by omega
  have k1 : ∀ k c, (Instr.sliceBound (.int k l) h.toNat c).run C.P w = .ok l.toNat w := fun k c => bound_run h0 b1
  have k2 : ∀ k c, (Instr.sliceBound (.int k h) m.toNat c).run C.P w = .ok h.toNat w := fun k c => bound_run b3 b2
  have k3 : ∀ k c, (Instr.sliceBound (.int k m) cap c).run C.P w = .ok m.toNat w := fun k c => bound_run b4 h3
  rcases iv_ok g hlo el with ⟨rfl, rfl, e1⟩ | ⟨xl, kl, rfl, _, e1⟩ <;> rcases iv_ok g hhi eh with ⟨rfl, rfl, e2⟩ | ⟨xh, kh, rfl, _, e2⟩ <;>
    rcases iv_ok g hmx em with ⟨rfl, rfl, e3⟩ | ⟨xm, km, rfl, hms, e3⟩
  case inl.inl.inr | inr.inl.inr => simp [hms] at h4
  all_goals
    have t1 : l = 0 → l.toNat = 0 := by omega
    have t2 : h = len → h.toNat = len := by omega
    have t3 : m = cap → m.toNat = cap := by omega
  · simp only [t1 e1, t2 e2, t3 e3] at k1 k2 k3 ⊢
    simp only [Instr.sliceBounds, Option.map_none, Sem.run_bind, Result.andThen_ok, Sem.run_pure]
  · simp only [t1 e1, t3 e3] at k1 k2 k3 ⊢
    simp only [Instr.sliceBounds, Option.map_some, Option.map_none, Sem.run_bind, Result.andThen_ok, Sem.run_pure, e2, k2]
  · simp only [t1 e1] at k1 k2 k3 ⊢
    simp only [Instr.sliceBounds, Option.map_some, Option.map_none, Sem.run_bind, Result.andThen_ok, Sem.run_pure, e2, k2, e3, k3]
  · simp only [t2 e2, t3 e3] at k1 k2 k3 ⊢
    simp only [Instr.sliceBounds, Option.map_some, Option.map_none, Sem.run_bind, Result.andThen_ok, Sem.run_pure, e1, k1]
  · simp only [t3 e3] at k1 k2 k3 ⊢
    simp only [Instr.sliceBounds, Option.map_some, Option.map_none, Sem.run_bind, Result.andThen_ok, Sem.run_pure, e1, k1, e2, k2]
  · simp only [Instr.sliceBounds, Option.map_some, Sem.run_bind, Result.andThen_ok, Sem.run_pure, e1, k1, e2, k2, e3, k3]

theorem slc_sound (g : G C ro H F st a w) {t e n : Nat} (ht : C.P.underlying t = some (.slice e)) (hn : szOf C.P e = some n) {x : Operand} {x' : Opd} {lo hi mx : Option Operand} {lo' hi' mx' : Option Opd}
    (hx : copd x = some x') (hlo : copt lo = some lo') (hhi : copt hi = some hi') (hmx : copt mx = some mx') {s : SV} {vc : Prop}
    (h : rdv st (.slc x' lo' hi' mx' n) = some (s, vc)) (hvc : vc) : (Instr.sliceAt t (a.eval x) (lo.map a.eval) (hi.map a.eval) (mx.map a.eval)).run C.P w = .ok s.den w ∧ s.ok ro := by
  simp only [rdv] at h
  split at h
  · rename_i sx e1
    obtain ⟨h1, h2⟩ := opv_ok g hx e1
    rw [h1]
    cases sx <;> simp only [slcV, reduceCtorEq] at h
    case osl cc nl b off n' cap =>
      split at h
      · rename_i l hh m el eh em
        simp only [Option.some.injEq, Prod.mk.injEq] at h
        obtain ⟨rfl, rfl⟩ := h
        obtain ⟨b0, b1, b2, b3, b4, b5⟩ := hvc
        have hb := bounds_run (isS := true) g hlo hhi hmx el eh em b0 b1 b2 b3 b5
        refine ⟨?_, by simp only [SV.ok]⟩
        have hmm : (m.toNat = l.toNat) ↔ (m = l) := by omega
        simp only [Instr.sliceAt, SV.den, Sem.run_bind, run_underlying ht, Result.andThen_ok, Instr.slice, hb, sizeOf_run hn, Sem.run_pure, hmm]
        cases nl <;> by_cases hml : m = l <;> simp [hml, add_none]
      · cases h
    rename_i ad n' cap sz' f
    split at h
    · rename_i l hh m el eh em
      simp only [Option.some.injEq, Prod.mk.injEq] at h
      obtain ⟨rfl, rfl⟩ := h
      obtain ⟨b0, b1, b2, b3, b4, rfl, b5⟩ := hvc
      have hb := bounds_run (isS := true) g hlo hhi hmx el eh em b0 b1 b2 b3 b5
      simp only [SV.ok] at h2 ⊢
      refine ⟨?_, by omega, fun i j hi hj => ?_⟩
      · have hmm : (m.toNat = l.toNat) ↔ (m = l) := by omega
        simp only [Instr.sliceAt, SV.den, Sem.run_bind, run_underlying ht, Result.andThen_ok, Instr.slice, hb, sizeOf_run hn, Sem.run_pure, hmm]
      · obtain ⟨⟨ad', rfl, h5⟩, h6⟩ := h2.2 (i + l.toNat) j (by omega) hj
        have hne : ¬ m = l := by omega
        refine ⟨⟨ad'.add (l.toNat * n), by rw [if_neg hne]; rfl, ?_⟩, h6⟩
        rw [add_add, ← h5]
        congr 2
        rw [Nat.add_mul]
        omega
    · cases h
  · cases h

theorem ssl_sound (g : G C ro H F st a w) {t : Nat} (ht : C.P.underlying t = some .string) {x : Operand} {x' : Opd} {lo hi : Option Operand} {lo' hi' : Option Opd}
    (hx : copd x = some x') (hlo : copt lo = some lo') (hhi : copt hi = some hi') {s : SV} {vc : Prop}
    (h : rdv st (.sslc x' lo' hi') = some (s, vc)) (hvc : vc) : (Instr.sliceAt t (a.eval x) (lo.map a.eval) (hi.map a.eval) none).run C.P w = .ok s.den w ∧ s.ok ro := by
  simp only [rdv] at h
  split at h
  · rename_i sx e1
    obtain ⟨h1, h2⟩ := opv_ok g hx e1
    rw [h1]
    unfold sslV at h
    split at h
    · rename_i b
      split at h
      · rename_i l hh el eh
        simp only [Option.some.injEq, Prod.mk.injEq] at h
        obtain ⟨rfl, rfl⟩ := h
        obtain ⟨b0, b1, b2⟩ := hvc
        have hb := bounds_run (isS := false) (mx := none) (m := b.size) g hlo hhi rfl el eh rfl b0 b1 b2 (Int.le_refl _) (by simp)
        refine ⟨?_, by simp only [SV.ok]⟩
        simp only [Option.map_none] at hb
        simp only [Instr.sliceAt, SV.den, Sem.run_bind, run_underlying ht, Result.andThen_ok, Instr.slice, hb, Sem.run_pure, Option.isSome_none, Bool.false_eq_true, if_false]
      · cases h
    · cases h
  · cases h

theorem len_sound (g : G C ro H F st a w) {t e : Nat} (ht : C.P.underlying t = some (.slice e)) {x : Operand} {x' : Opd} (hx : copd x = some x') {s : SV} {vc : Prop}
    (h : rdv st (.len false x') = some (s, vc)) (ty : TypeId) : (Builtin.len_ #[t] ty #[a.eval x]).run C.P w = .ok s.den w ∧ s.ok ro := by
  simp only [rdv] at h
  split at h
  case h_3 => cases h
  all_goals
    rename_i e1
    simp only [Option.some.injEq, Prod.mk.injEq] at h
    obtain ⟨rfl, rfl⟩ := h
    obtain ⟨h1, h2⟩ := opv_ok g hx e1
    rw [h1]
    refine ⟨?_, by simp only [SV.ok]⟩
    simp [Builtin.len_, SV.den, run_underlying ht, goInt]
theorem lens_sound (g : G C ro H F st a w) {t : Nat} (ht : C.P.underlying t = some .string) {x : Operand} {x' : Opd} (hx : copd x = some x') {s : SV} {vc : Prop}
    (h : rdv st (.len true x') = some (s, vc)) (ty : TypeId) : (Builtin.len_ #[t] ty #[a.eval x]).run C.P w = .ok s.den w ∧ s.ok ro := by
  simp only [rdv] at h
  split at h
  case h_2 => cases h
  all_goals
    rename_i e1
    simp only [Option.some.injEq, Prod.mk.injEq] at h
    obtain ⟨rfl, rfl⟩ := h
    obtain ⟨h1, h2⟩ := opv_ok g hx e1
    rw [h1]
    refine ⟨?_, by simp only [SV.ok]⟩
    simp [Builtin.len_, SV.den, run_underlying ht, goInt]
theorem cap_sound (g : G C ro H F st a w) {t e : Nat} (ht : C.P.underlying t = some (.slice e)) {x : Operand} {x' : Opd} (hx : copd x = some x') {s : SV} {vc : Prop}
    (h : rdv st (.cap x') = some (s, vc)) (ty : TypeId) : (Builtin.cap_ #[t] ty #[a.eval x]).run C.P w = .ok s.den w ∧ s.ok ro := by
  simp only [rdv] at h
  split at h
  case h_3 => cases h
  all_goals
    rename_i e1
    simp only [Option.some.injEq, Prod.mk.injEq] at h
    obtain ⟨rfl, rfl⟩ := h
    obtain ⟨h1, h2⟩ := opv_ok g hx e1
    rw [h1]
    refine ⟨?_, by simp only [SV.ok]⟩
    simp [Builtin.cap_, SV.den, run_underlying ht, goInt]

theorem mn_sound (g : G C ro H F st a w) {x y : Operand} {x' y' : Opd} (hx : copd x = some x') (hy : copd y = some y') {s : SV} {vc : Prop}
    (h : rdv st (.mn x' y') = some (s, vc)) (tys : Array TypeId) (ty : TypeId) : (Builtin.min_ tys ty #[a.eval x, a.eval y]).run C.P w = .ok s.den w ∧ s.ok ro := by
  simp only [rdv] at h
  split at h
  · rename_i k i k' j e1 e2
    simp only [Option.some.injEq, Prod.mk.injEq] at h
    obtain ⟨rfl, rfl⟩ := h
    obtain ⟨h1, _⟩ := opv_ok g hx e1
    obtain ⟨h2, _⟩ := opv_ok g hy e2
    rw [h1, h2]
    refine ⟨?_, by simp only [SV.ok]⟩
    have : (if j < i then j else i) = min i j := by split <;> omega
    simp [Builtin.min_, Builtin.min2, SV.den, this]
  · cases h
theorem mx_sound (g : G C ro H F st a w) {x y : Operand} {x' y' : Opd} (hx : copd x = some x') (hy : copd y = some y') {s : SV} {vc : Prop}
    (h : rdv st (.mx x' y') = some (s, vc)) (tys : Array TypeId) (ty : TypeId) : (Builtin.max_ tys ty #[a.eval x, a.eval y]).run C.P w = .ok s.den w ∧ s.ok ro := by
  simp only [rdv] at h
  split at h
  · rename_i k i k' j e1 e2
    simp only [Option.some.injEq, Prod.mk.injEq] at h
    obtain ⟨rfl, rfl⟩ := h
    obtain ⟨h1, _⟩ := opv_ok g hx e1
    obtain ⟨h2, _⟩ := opv_ok g hy e2
    rw [h1, h2]
    refine ⟨?_, by simp only [SV.ok]⟩
    have : (if i < j then j else i) = max i j := by split <;> omega
    simp [Builtin.max_, Builtin.max2, SV.den, this]
  · cases h

theorem conv_sound (g : G C ro H F st a w) {sT d : TypeId} {k k0 : IntKind} (hs : C.P.underlying sT = some (.int k0)) (hd : C.P.underlying d = some (.int k)) {x : Operand} {x' : Opd} (hx : copd x = some x') {s : SV} {vc : Prop}
    (h : rdv st (.conv k x') = some (s, vc)) (hvc : vc) : (convert sT d (a.eval x)).run C.P w = .ok s.den w ∧ s.ok ro := by
  simp only [rdv] at h
  split at h
  · rename_i k' n e1
    obtain ⟨h1, _⟩ := opv_ok g hx e1
    simp only [Option.some.injEq] at h
    have h3 : (ar k n).2 := by rw [h]; exact hvc
    obtain ⟨h4, h5⟩ := ar_ok (ro := ro) _ _ h3
    rw [h] at h4 h5
    refine ⟨?_, h5⟩
    rw [h1, h4]
    simp [convert, SV.den, run_underlying hs, run_underlying hd, Conv.intToInt]
  · cases h

theorem overL_eq : ∀ (xs : List SV) (off : Nat) (ys r : List SV), overL xs off ys = some r → off + ys.length ≤ xs.length ∧ r = xs.take off ++ ys ++ xs.drop (off + ys.length)
  | xs, 0, [], r, h => by
    have : r = xs := by cases xs <;> simp [overL] at h <;> simp [h]
    subst this
    simp
  | [], 0, _ :: _, r, h => by simp [overL] at h
  | [], _ + 1, _, r, h => by simp [overL] at h
  | x :: xs, n + 1, ys, r, h => by
    simp only [overL] at h
    cases h1 : overL xs n ys with
    | none => simp [h1] at h
    | some r' =>
      simp only [h1, Option.some.injEq] at h
      subst h
      obtain ⟨h2, rfl⟩ := overL_eq xs n ys r' h1
      refine ⟨by simp; omega, ?_⟩
      rw [show n + 1 + ys.length = (n + ys.length) + 1 by omega]
      simp
  | x :: xs, 0, y :: ys, r, h => by
    simp only [overL] at h
    cases h1 : overL xs 0 ys with
    | none => simp [h1] at h
    | some r' =>
      simp only [h1, Option.some.injEq] at h
      subst h
      obtain ⟨h2, rfl⟩ := overL_eq xs 0 ys r' h1
      refine ⟨by simp at h2 ⊢; omega, by simp⟩

theorem fold_set (o : Nat) : ∀ (ys : List Value) (k : Nat) (c : Array Value), o + k + ys.length ≤ c.size →
    ((List.zipIdx ys k).foldl (fun (cs : Array Value) (p : Value × Nat) => cs.setIfInBounds (o + p.2) p.1) c).toList = c.toList.take (o + k) ++ ys ++ c.toList.drop (o + k + ys.length)
  | [], k, c, h => by simp
  | y :: ys, k, c, h => by
    simp only [List.zipIdx_cons, List.foldl_cons]
    rw [fold_set o ys (k + 1) _ (by simp at h ⊢; omega)]
    have e := list_seg_step c.toList (o + k) y ys (by simp at h ⊢; omega)
    simpa [Array.toList_setIfInBounds, Nat.add_assoc] using e

theorem cellsOf_ok {s : SV} {cs : List SV} (h : cellsOf s = some cs) (hs : s.ok ro) : SV.oks ro cs ∧ s.den.cells = (SV.dens cs).toArray := by
  cases s <;> simp only [cellsOf, reduceCtorEq, Option.some.injEq] at h
  case agg xs =>
    subst h
    simp only [SV.ok] at hs
    exact ⟨hs, by simp [SV.den, Value.cells]⟩
  case val v =>
    cases v <;> simp only [reduceCtorEq, Option.some.injEq] at h <;> subst h <;> exact ⟨by simp only [SV.oks, SV.ok, and_true], by simp [SV.den, SV.dens, Value.cells]⟩
  all_goals
    subst h
    exact ⟨by simp only [SV.oks, and_true]; exact hs, by simp [SV.den, SV.dens, Value.cells]⟩

theorem fill_ok (g : G C ro H F st a w) (pl : Array (Nat × Nat)) : ∀ (ps : List (Nat × Operand)) (qs : List (Nat × Nat × Opd)) (z z' : List SV), cparts pl ps = some qs → buildV st.env z qs = some z' → SV.oks ro z →
    Instr.fill (pl[·]?) (SV.dens z).toArray (ps.map fun p => (p.1, a.eval p.2)) = some (SV.dens z').toArray ∧ SV.oks ro z'
  | [], qs, z, z', hc, hb, hz => by
    simp only [cparts, Option.some.injEq] at hc
    subst hc
    simp only [buildV, Option.some.injEq] at hb
    subst hb
    exact ⟨rfl, hz⟩
  | (i, x) :: ps, qs, z, z', hc, hb, hz => by
    simp only [cparts] at hc
    split at hc
    · rename_i off n y r h1 h2 h3
      injection hc with hc
      subst hc
      simp only [buildV] at hb
      split at hb
      · rename_i s hs
        obtain ⟨e1, e2⟩ := opv_ok g h2 hs
        split at hb
        · rename_i cs hcs
          cases hlen : (cs.length == n : Bool) with
          | false => simp [hlen] at hb
          | true =>
            simp only [hlen, cond_true] at hb
            split at hb
            · rename_i z1 ho
              obtain ⟨o1, o2⟩ := overL_eq _ _ _ _ ho
              obtain ⟨c1, c2⟩ := cellsOf_ok hcs e2
              have hn : cs.length = n := by simpa using hlen
              have hz1 : SV.oks ro z1 := by
                rw [oks_iff] at hz c1 ⊢
                intro s hs
                rcases (overL_len _ _ _ _ ho).2 s hs with h | h
                · exact hz s h
                · exact c1 s h
              obtain ⟨i1, i2⟩ := fill_ok g pl ps r z1 z' h3 hb hz1
              refine ⟨?_, i2⟩
              have hsz : (a.eval x).cells.size = n := by rw [e1, c2, dens_eq]; simp [hn]
              have hfit : ¬ ((a.eval x).cells.size ≠ n ∨ off + (a.eval x).cells.size > (SV.dens z).toArray.size) := by
                rw [hsz]
                rw [dens_eq]
                simp
                omega
              have hfold : (a.eval x).cells.zipIdx.foldl (fun cs (p : Value × Nat) => cs.setIfInBounds (off + p.2) p.1) (SV.dens z).toArray = (SV.dens z1).toArray := by
                rw [e1, c2]
                apply Array.ext'
                rw [← Array.foldl_toList]
                have := fold_set off (SV.dens cs) 0 (SV.dens z).toArray (by rw [dens_eq, dens_eq]; simp; omega)
                simp only [Array.toList_zipIdx] at this ⊢
                rw [this, o2]
                simp [dens_eq, List.map_take, List.map_drop]
              simp only [List.map_cons, Instr.fill, h1]
              rw [if_neg (by simpa using hfit)]
              have e : (a.eval x).cells.zipIdx.foldl (fun cs (c, j) => cs.setIfInBounds (off + j) c) (SV.dens z).toArray = (SV.dens z1).toArray := hfold
              rw [e]
              exact i1
            · cases hb
        · cases hb
      · cases hb
    · cases hc

theorem build_sound (g : G C ro H F st a w) {t : TypeId} {ps : Array (Nat × Operand)} {i : TypeInfo} {z : Value} {fs : Array Field} {pl : List (Nat × Nat)} {qs : List (Nat × Nat × Opd)}
    (hi : C.P.info? t = some i) (hz : i.zero = some z) (hu : C.P.underlying t = some (.struct fs)) (hpl : fs.toList.mapM (fun f => (C.P.info? f.type).map fun i => (f.offset, i.size)) = some pl)
    (hc : cparts pl.toArray ps.toList = some qs) {s : SV} {vc : Prop} (h : rdv st (.build z.cells.toList qs) = some (s, vc)) :
    (Instr.build t (ps.map fun (p : Nat × Operand) => (p.1, a.eval p.2))).run C.P w = .ok s.den w ∧ s.ok ro := by
  simp only [rdv] at h
  split at h
  · rename_i cs hb
    simp only [Option.some.injEq, Prod.mk.injEq] at h
    obtain ⟨rfl, rfl⟩ := h
    have hz0 : SV.oks ro (z.cells.toList.map cst1) := oks_cst ro _
    obtain ⟨h1, h2⟩ := fill_ok g pl.toArray ps.toList qs _ cs hc hb hz0
    refine ⟨?_, by simp only [SV.ok]; exact h2⟩
    rw [dens_cst] at h1
    simp only [SV.den]
    refine run_build w t _ _ ?_
    simp only [Program.built, hi, hu, hz, hpl]
    rw [← h1]
    simp
  · cases h

/-- one cell -/
def one (s : SV) : Prop := match s with | .agg _ | .tup _ | .cnd .. => False | .val v => v.oneCell' = true | _ => True
theorem one_den {s : SV} (h : one s) : s.den.oneCell' = true := by
  cases s <;> simp only [one] at h <;> first | (simp [SV.den, Value.oneCell']; done) | (simpa [SV.den] using h)
end
end Go.SX
