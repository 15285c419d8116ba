/- The model agrees with the reads. -/
import Derived.Test.YthlkoehifpnoeaaDoorSxC
import Derived.Laws.Strings
namespace Go.SX
section
variable {C : Ctx} {ro : RO} {H F : Hp} {st : St} {a : Act} {w : World}

theorem getL_eq : ∀ (xs : List SV) (n : Nat), getL xs n = xs[n]?
  | [], _ => by simp [getL]
  | _ :: _, 0 => by simp [getL]
  | _ :: xs, n + 1 => by simp [getL, getL_eq xs n]
theorem dropL_eq : ∀ (xs : List SV) (n : Nat), dropL xs n = xs.drop n
  | [], 0 => rfl
  | [], _ + 1 => rfl
  | _ :: _, 0 => rfl
  | _ :: xs, n + 1 => by simp [dropL, dropL_eq xs n]
theorem takeL_eq : ∀ (xs : List SV) (n : Nat) (l : List SV), takeL xs n = some l → l = xs.take n ∧ n ≤ xs.length
  | xs, 0, l, h => by simp [takeL] at h; simp [h]
  | [], n + 1, l, h => by simp [takeL] at h
  | x :: xs, n + 1, l, h => by
    simp only [takeL] at h
    cases h1 : takeL xs n with
    | none => simp [h1] at h
    | some ys =>
      simp only [h1, Option.some.injEq] at h
      obtain ⟨h2, h3⟩ := takeL_eq xs n ys h1
      subst h
      exact ⟨by simp [h2], by simpa using h3⟩
theorem funL_eq (g : Nat → SV) : ∀ (n j : Nat), funL g j n = (List.range n).map fun i => g (j + i)
  | 0, _ => rfl
  | n + 1, j => by
    rw [funL, funL_eq g n (j + 1), List.range_succ_eq_map]
    simp only [List.map_cons, List.map_map, Nat.add_zero, List.cons.injEq, true_and]
    apply List.map_congr_left
    intro i _
    simp only [Function.comp_apply]
    congr 1
    omega
theorem overL_len : ∀ (xs : List SV) (n : Nat) (ys r : List SV), overL xs n ys = some r → r.length = xs.length ∧ ∀ s ∈ r, s ∈ xs ∨ s ∈ ys
  | xs, 0, [], r, h => by
    have : r = xs := by cases xs <;> simp [overL] at h <;> simp [h]
    subst this
    exact ⟨rfl, fun s hs => .inl hs⟩
  | [], 0, _ :: _, r, h => by simp [overL] at h
  | [], _ + 1, _, r, h => by simp [overL] at h
  | x :: xs, n + 1, ys, r, h => by
    simp only [overL] at h
    cases h1 : overL xs n ys with
    | none => simp [h1] at h
    | some r' =>
      simp only [h1, Option.some.injEq] at h
      subst h
      obtain ⟨h2, h3⟩ := overL_len xs n ys r' h1
      exact ⟨by simp [h2], fun s hs => by
        rcases List.mem_cons.1 hs with rfl | hs
        · exact .inl (by simp)
        · rcases h3 s hs with h | h
          · exact .inl (by simp [h])
          · exact .inr h⟩
  | x :: xs, 0, y :: ys, r, h => by
    simp only [overL] at h
    cases h1 : overL xs 0 ys with
    | none => simp [h1] at h
    | some r' =>
      simp only [h1, Option.some.injEq] at h
      subst h
      obtain ⟨h2, h3⟩ := overL_len xs 0 ys r' h1
      exact ⟨by simp [h2], fun s hs => by
        rcases List.mem_cons.1 hs with rfl | hs
        · exact .inr (by simp)
        · rcases h3 s hs with h | h
          · exact .inl (by simp [h])
          · exact .inr (by simp [h])⟩

theorem sizeOf_run {P : Program} {t : TypeId} {n : Nat} (h : szOf P t = some n) (w : World) : (sizeOf t).run P w = .ok n w := by
  unfold szOf at h
  cases hi : P.info? t with
  | none => simp [hi] at h
  | some i =>
    simp only [hi, Option.map_some, Option.some.injEq] at h
    simp [sizeOf, typeInfo, hi, h]

theorem isAgg_run {P : Program} {t : TypeId} {n : Option Nat} (h : aggOf P t = some n) (w : World) : (isAgg t).run P w = .ok n.isSome w ∧ (∀ k, n = some k → szOf P t = some k) := by
  unfold aggOf at h
  cases hu : P.underlying t with
  | none => simp [hu] at h
  | some d =>
    simp only [hu] at h
    cases d <;> simp only [Option.map_eq_some_iff, Option.some.injEq] at h <;>
      first
        | (subst h; exact ⟨by simp [isAgg, run_underlying hu], by simp⟩)
        | (obtain ⟨k, h1, rfl⟩ := h; exact ⟨by simp [isAgg, run_underlying hu], fun k' hk => by injection hk with hk; subst hk; exact h1⟩)

theorem add_none (b o n : Nat) : (⟨b, o, none⟩ : Addr).add n = ⟨b, o + n, none⟩ := by
  unfold Addr.add
  split
  · rename_i h; subst h; rfl
  · rfl
theorem add_add (x : Addr) (i j : Nat) : (x.add i).add j = x.add (i + j) := by
  unfold Addr.add
  by_cases hi : i = 0 <;> by_cases hj : j = 0 <;> simp [hi, hj, Nat.add_assoc]

/-- a variable is loaded: what its cells hold -/
theorem load_run {P : Program} {t : TypeId} {n : Option Nat} (hn : aggOf P t = some n) (ad : Addr) :
    (∀ v, n = none → w.cell? ad = some v → (Instr.loadAt t (.pointer (some ad))).run P w = .ok v w) ∧
    (∀ k (vs : List Value), n = some k → vs.length = k → (∀ j v, vs[j]? = some v → w.cell? (ad.add j) = some v) → (Instr.loadAt t (.pointer (some ad))).run P w = .ok (.agg vs.toArray) w) := by
  obtain ⟨h1, h2⟩ := isAgg_run hn w
  constructor
  · rintro v rfl hc
    simp [Instr.loadAt, Instr.sureAddr, loadVar, h1, hc]
  · rintro k vs rfl hl hc
    have h3 := sizeOf_run (h2 k rfl) w
    have h4 := run_loadCells_list (P := P) w ad vs hc
    rw [hl] at h4
    simp [Instr.loadAt, Instr.sureAddr, loadVar, h1, h3, h4]

theorem cell_of {b off : Nat} {c : Array Value} {T : TypeId} {fz : Nat × Nat} (h : w.heap[b]? = some (.cells c T fz)) : w.cell? ⟨b, off, none⟩ = c[off]? := by
  simp [World.cell?, h]

theorem ldV_sound (g : G C ro H F st a w) {t : TypeId} {n : Option Nat} (hn : aggOf C.P t = some n) {x s : SV} {vc : Prop} (hx : x.ok ro) (hl : ldV st.heap x n = some (s, vc)) (hvc : vc) :
    (Instr.loadAt t x.den).run C.P w = .ok s.den w ∧ s.ok ro := by
  unfold ldV at hl
  split at hl
  · -- an own struct
    rename_i c b off
    split at hl
    · rename_i b' T cs hc
      obtain ⟨hb, hok, _⟩ := g.cells hc
      have hcell : ∀ k, w.cell? ⟨b', k, none⟩ = (cs[k]?).map SV.den := fun k => by rw [cell_of hb, dens_eq]; simp
      split at hl
      · rw [getL_eq] at hl
        split at hl
        · rename_i s' hs
          simp only [Option.some.injEq, Prod.mk.injEq] at hl
          obtain ⟨rfl, rfl⟩ := hl
          have := hvc
          subst this
          exact ⟨(load_run hn _).1 _ rfl (by rw [hcell, hs]; rfl), oks_iff.1 hok _ (List.mem_of_getElem? hs)⟩
        · cases hl
      · rename_i k
        rw [dropL_eq] at hl
        split at hl
        · rename_i l hs
          simp only [Option.some.injEq, Prod.mk.injEq] at hl
          obtain ⟨rfl, rfl⟩ := hl
          have := hvc
          subst this
          obtain ⟨rfl, hle⟩ := takeL_eq _ _ _ hs
          refine ⟨?_, ?_⟩
          · simp only [SV.den, dens_eq]
            refine (load_run hn _).2 k _ rfl (by simp; simp at hle; omega) (fun j v hv => ?_)
            rw [add_none, hcell]
            simp only [List.map_take, List.map_drop, List.getElem?_take, List.getElem?_drop, List.getElem?_map] at hv
            split at hv
            · exact hv
            · cases hv
          · simp only [SV.ok, oks_iff]
            intro s hs
            exact oks_iff.1 hok _ (List.mem_of_mem_drop (List.mem_of_mem_take hs))
        · cases hl
    · cases hl
  · -- an own row
    rename_i c b off sz i j
    split at hl
    · rename_i nl b' T off' sz' m cap f hc
      split at hl
      · simp only [Option.some.injEq, Prod.mk.injEq] at hl
        obtain ⟨rfl, rfl⟩ := hl
        obtain ⟨rfl, rfl, rfl, hi, hj⟩ := hvc
        obtain ⟨_, arr, fz, hb, _, h1, h2, h3, _⟩ := g.row hc (by omega)
        have := h3 i j hi hj
        exact ⟨(load_run hn _).1 _ rfl (by rw [cell_of hb]; exact this.1), this.2⟩
      · rename_i k
        simp only [Option.some.injEq, Prod.mk.injEq] at hl
        obtain ⟨rfl, rfl⟩ := hl
        obtain ⟨rfl, rfl, rfl, hi, hj⟩ := hvc
        obtain ⟨_, arr, fz, hb, _, h1, h2, h3, _⟩ := g.row hc (by omega)
        refine ⟨?_, ?_⟩
        · simp only [SV.den, dens_eq, funL_eq]
          refine (load_run hn _).2 k _ rfl (by simp) (fun l v hv => ?_)
          rw [add_none, cell_of hb]
          simp only [List.map_map, List.getElem?_map] at hv
          by_cases hlk : l < k
          · rw [List.getElem?_range hlk] at hv
            simp only [Option.map_some, Function.comp_apply, Option.some.injEq] at hv
            have := (h3 i (j + l) hi (by omega)).1
            rw [← hv, ← this]
            congr 1
            omega
          · rw [List.getElem?_eq_none (by simp; omega)] at hv
            cases hv
        · simp only [SV.ok, oks_iff, funL_eq, List.mem_map, List.mem_range]
          rintro s ⟨l, hl, rfl⟩
          exact (h3 i (j + l) hi (by omega)).2
    · cases hl
  · -- RO
    rename_i ad k m f j
    simp only [SV.ok] at hx
    obtain ⟨ad, rfl, h1⟩ := hx
    split at hl
    · simp only [Option.some.injEq, Prod.mk.injEq] at hl
      obtain ⟨rfl, rfl⟩ := hl
      obtain ⟨h2, h3⟩ := h1 j hvc
      exact ⟨(load_run hn _).1 _ rfl (g.sat.cell h2), h3⟩
    · rename_i l
      simp only [Option.some.injEq, Prod.mk.injEq] at hl
      obtain ⟨rfl, rfl⟩ := hl
      refine ⟨?_, ?_⟩
      · simp only [SV.den, dens_eq, funL_eq, Option.map_some]
        refine (load_run hn _).2 l _ rfl (by simp) (fun i v hv => ?_)
        simp only [List.map_map, List.getElem?_map] at hv
        by_cases hlk : i < l
        · rw [List.getElem?_range hlk] at hv
          simp only [Option.map_some, Function.comp_apply, Option.some.injEq] at hv
          rw [add_add, ← hv, Nat.add_assoc]
          exact g.sat.cell (h1 (j + i) (by omega)).1
        · rw [List.getElem?_eq_none (by simp; omega)] at hv
          cases hv
      · simp only [SV.ok, oks_iff, funL_eq, List.mem_map, List.mem_range]
        rintro s ⟨i, hi, rfl⟩
        exact (h1 (j + i) (by omega)).2
  · cases hl

theorem ar_ok (k : IntKind) (n : Int) (h : (ar k n).2) : (ar k n).1.den = .int k (k.wrap n) ∧ (ar k n).1.ok ro := by
  cases k <;> simp only [ar, SV.den, SV.ok, and_true] at h ⊢
  rw [IntWalk.i64_in n h]

theorem binI_sound {o : BinOp} {k k' : IntKind} {x y : Int} {s : SV} {vc : Prop} (h : binI o k x k' y = some (s, vc)) (hvc : vc) (t : TypeId) :
    (binOp o t (.int k x) (.int k' y)).run C.P w = .ok s.den w ∧ s.ok ro := by
  cases o <;> simp only [binI, Option.some.injEq, Prod.mk.injEq] at h <;> obtain ⟨rfl, rfl⟩ := h
  case add | sub | mul =>
    obtain ⟨rfl, h2⟩ := hvc
    obtain ⟨h3, h4⟩ := ar_ok (ro := ro) _ _ h2
    refine ⟨?_, h4⟩
    rw [h3]
    simp [binOp, Op.intArith]
  case quo =>
    obtain ⟨rfl, h1, h2⟩ := hvc
    obtain ⟨h3, h4⟩ := ar_ok (ro := ro) _ _ h2
    refine ⟨?_, h4⟩
    rw [h3]
    simp [binOp, Op.intDiv, h1]
  case rem =>
    obtain ⟨rfl, h1⟩ := hvc
    refine ⟨?_, by simp only [SV.ok]⟩
    simp [binOp, Op.intDiv, h1, SV.den]
  case shl | shr =>
    refine ⟨?_, by simp only [SV.ok]⟩
    have hvc' : ¬ y < 0 := by omega
    simp [binOp, Op.shift, hvc', SV.den, shlI, shrI]
  case and | or | xor | andNot =>
    subst hvc
    refine ⟨?_, by simp only [SV.ok]⟩
    simp [binOp, Op.intBits, SV.den, bitsI]
  case eql | neq | lss | leq | gtr | geq =>
    subst hvc
    refine ⟨?_, by simp only [SV.ok]⟩
    simp only [binOp, Op.intCmp, SV.den, ne_eq, not_true_eq_false, if_false, Sem.run_pure, gt_iff_lt, ge_iff_le]
    first
      | done
      | (congr 2; done)
      | (congr 2; rw [Bool.eq_iff_iff]; done)
      | (congr 2; rw [Bool.eq_iff_iff]; simp; done)

theorem bytes_eq (x y : ByteArray) : (x.toList == y.toList) = decide (x = y) := by
  rw [Bool.eq_iff_iff]
  simp only [beq_iff_eq, decide_eq_true_eq]
  constructor
  · intro h
    have e : ∀ z : ByteArray, z.toList = z.data.toList := ByteArray.toList_eq
    rw [e, e] at h
    cases x; cases y
    simp only [ByteArray.mk.injEq]
    exact Array.ext' h
  · rintro rfl; rfl

theorem binS_sound {o : BinOp} {x y : ByteArray} {s : SV} {vc : Prop} (h : binS o x y = some (s, vc)) (hvc : vc) (t : TypeId) :
    (binOp o t (.string x) (.string y)).run C.P w = .ok s.den w ∧ s.ok ro := by
  cases o <;> simp only [binS, Option.some.injEq, Prod.mk.injEq, reduceCtorEq] at h
  case add =>
    obtain ⟨rfl, rfl⟩ := h
    refine ⟨?_, by simp only [SV.ok]⟩
    have h2 : ¬ IntKind.i64.max < ((x.size + y.size : Nat) : Int) := by
      show ¬ (9223372036854775807 : Int) < _
      omega
    simp only [binOp, Op.stringOp, gt_iff_lt, h2, if_false, Sem.run_pure, SV.den]
  case eql | neq =>
    obtain ⟨rfl, rfl⟩ := h
    refine ⟨?_, by simp only [SV.ok]⟩
    simp [binOp, Op.stringOp, SV.den, bytes_eq]
  case lss | leq | gtr | geq =>
    obtain ⟨rfl, rfl⟩ := h
    exact ⟨by simp [binOp, Op.stringOp, SV.den, strLt, bytes_eq], by simp only [SV.ok]⟩

theorem isNil_ok {cls : Nat} {x : SV} {b : Bool} (h : isNil cls x = some b) (hx : x.ok ro) :
    (cls = 2 ∧ ∃ p, x.den = .pointer p ∧ p.isNone = b) ∨ (cls = 3 ∧ ∃ p n k, x.den = .slice p n k ∧ p.isNone = b) ∨ (cls = 4 ∧ ∃ p, x.den = .map p ∧ p.isNone = b) := by
  unfold isNil at h
  split at h <;> (try cases h) <;> (cases hc : (cls == 2 : Bool) <;> cases hc3 : (cls == 3 : Bool) <;> cases hc4 : (cls == 4 : Bool) <;> simp [hc, hc3, hc4] at h) <;>
    simp only [beq_iff_eq, beq_eq_false_iff_ne] at hc hc3 hc4 <;> subst h <;>
    first
    | exact .inl ⟨hc, _, rfl, rfl⟩
    | exact .inr (.inl ⟨hc3, _, _, _, rfl, rfl⟩)
    | exact .inr (.inr ⟨hc4, _, rfl, rfl⟩)
    | (simp only [SV.ok] at hx; obtain ⟨ad, rfl, _⟩ := hx; exact .inl ⟨hc, _, rfl, rfl⟩)
    | (refine .inr (.inl ⟨hc3, _, _, _, rfl, ?_⟩); rename_i nl _ _ _ _; cases nl <;> rfl)

theorem eqG {P : Program} {o : BinOp} {t : TypeId} {x y : Operand} {v u : Value} (h : ∀ a b, ¬ (v = .agg a ∧ u = .agg b)) (h' : ¬ (v = .nilIface ∧ u = .nilIface)) : (eqGuard o t x y v u).run P w = .ok () w := by
  unfold eqGuard
  cases o <;> first
    | (simp; done)
    | (simp only
       cases v <;> cases u <;> first | (exact absurd ⟨rfl, rfl⟩ h') | (exact absurd ⟨rfl, rfl⟩ (h _ _)) | (simp; done))

/-- what '==' and '!=' against nil come to -/
theorem bin_nil {P : Program} {o : BinOp} {t : TypeId} {v u : Value} {b : Bool} {s : SV} {vc : Prop} (hk : (∃ p, v = .pointer p ∧ u = .pointer none) ∨ (∃ p n k n' k', v = .slice p n k ∧ u = .slice none n' k') ∨ (∃ p, v = .map p ∧ u = .map none))
    (he : ∀ d, (Op.equalIn (d + 1) t v u).run P w = .ok b w)
    (h : (match o with | .eql => some (SV.val (.bool b), True) | .neq => some (SV.val (.bool (!b)), True) | _ => none) = some (s, vc)) : (binOp o t v u).run P w = .ok s.den w ∧ s.ok ro := by
  have he' : (Op.equal t v u).run P w = .ok b w := he 9999
  rcases hk with ⟨p, rfl, rfl⟩ | ⟨p, n, k, n', k', rfl, rfl⟩ | ⟨p, rfl, rfl⟩ <;> cases o <;> simp only [Option.some.injEq, Prod.mk.injEq, reduceCtorEq] at h <;> obtain ⟨rfl, rfl⟩ := h <;>
    exact ⟨by simp only [binOp, Sem.run_bind, he', Result.andThen_ok, Sem.run_pure, SV.den], by simp only [SV.ok]⟩

theorem binV_sound {cls : Nat} {o : BinOp} {t : TypeId} {x y s : SV} {vc : Prop} {ox oy : Operand} (hcls : binCls C.P o t = some cls) (hx : x.ok ro) (hy : y.ok ro) (h : binV cls o x y = some (s, vc)) (hvc : vc) :
    (do eqGuard o t ox oy x.den y.den; binOp o t x.den y.den : Sem Value).run C.P w = .ok s.den w ∧ s.ok ro := by
  have core : ∀ {v u : Value}, x.den = v → y.den = u → (∀ a b, ¬ (v = .agg a ∧ u = .agg b)) → ¬ (v = .nilIface ∧ u = .nilIface) → (binOp o t v u).run C.P w = .ok s.den w ∧ s.ok ro →
      (do eqGuard o t ox oy x.den y.den; binOp o t x.den y.den : Sem Value).run C.P w = .ok s.den w ∧ s.ok ro := by
    intro v u e1 e2 n1 n2 hh
    rw [e1, e2]
    simp only [Sem.run_bind, eqG n1 n2, Result.andThen_ok]
    exact hh
  unfold binV at h
  split at h
  · cases hc : (cls == 0 : Bool) <;> simp only [hc, cond_true, cond_false, reduceCtorEq] at h
    exact core rfl rfl (by simp [SV.den]) (by simp [SV.den]) (by simp only [SV.den]; exact binI_sound h hvc t)
  · cases hc : (cls == 0 : Bool) <;> simp only [hc, cond_true, cond_false, reduceCtorEq] at h
    exact core rfl rfl (by simp [SV.den]) (by simp [SV.den]) (by simp only [SV.den]; exact binS_sound h hvc t)
  · rename_i p q
    cases hc : (cls == 1 : Bool) <;> simp only [hc, cond_true, cond_false, reduceCtorEq] at h
    have hu : C.P.underlying t = some .bool := by
      simp only [beq_iff_eq] at hc
      subst hc
      unfold binCls at hcls
      split at hcls <;> first | assumption | (simp at hcls; done) | (split at hcls <;> simp at hcls)
    have he : ∀ d, (Op.equalIn (d + 1) t (.bool p) (.bool q)).run C.P w = .ok (p == q) w := fun d => by simp [Op.equalIn, run_underlying hu]
    refine core rfl rfl (by simp [SV.den]) (by simp [SV.den]) ?_
    cases o <;> simp only [Option.some.injEq, Prod.mk.injEq, reduceCtorEq] at h <;> obtain ⟨rfl, rfl⟩ := h <;>
      exact ⟨by simp [SV.den, binOp, Op.equal, Op.maxDepth, he 9999], by simp only [SV.ok]⟩
  · -- nil
    unfold binN at h
    split at h
    · rename_i b h1 h2
      have k1 := isNil_ok (ro := ro) h1 hx
      have k2 := isNil_ok (ro := ro) h2 hy
      have hund : (cls = 2 → ∃ e, C.P.underlying t = some (.pointer e)) ∧ (cls = 3 → ∃ e, C.P.underlying t = some (.slice e)) ∧ (cls = 4 → ∃ k e, C.P.underlying t = some (.map k e)) := by
        unfold binCls at hcls
        refine ⟨?_, ?_, ?_⟩ <;> (rintro rfl; split at hcls <;> first | (exact ⟨_, ‹_›⟩) | (exact ⟨_, _, ‹_›⟩) | (simp at hcls; done) | (split at hcls <;> simp at hcls))
      rcases k1 with ⟨c1, p, e1, f1⟩ | ⟨c1, p, n1, m1, e1, f1⟩ | ⟨c1, p, e1, f1⟩ <;> rcases k2 with ⟨c2, p', e2, f2⟩ | ⟨c2, p', n2, m2, e2, f2⟩ | ⟨c2, p', e2, f2⟩ <;>
        first
        | (exfalso; omega)
        | (obtain ⟨e, hu⟩ := hund.1 c1
           have hp' : p' = none := by cases p' with | none => rfl | some _ => simp at f2
           subst hp'
           refine core e1 e2 (by simp) (by simp) (bin_nil (.inl ⟨_, rfl, rfl⟩) (fun d => ?_) h)
           cases p <;> simp [Op.equalIn, run_underlying hu, ← f1])
        | (obtain ⟨e, hu⟩ := hund.2.1 c1
           have hp' : p' = none := by cases p' with | none => rfl | some _ => simp at f2
           subst hp'
           refine core e1 e2 (by simp) (by simp) (bin_nil (.inr (.inl ⟨_, _, _, _, _, rfl, rfl⟩)) (fun d => ?_) h)
           cases p <;> simp [Op.equalIn, run_underlying hu, ← f1])
        | (obtain ⟨k, e, hu⟩ := hund.2.2 c1
           have hp' : p' = none := by cases p' with | none => rfl | some _ => simp at f2
           subst hp'
           refine core e1 e2 (by simp) (by simp) (bin_nil (.inr (.inr ⟨_, rfl, rfl⟩)) (fun d => ?_) h)
           cases p <;> simp [Op.equalIn, run_underlying hu, ← f1])
    · cases h
end
end Go.SX
