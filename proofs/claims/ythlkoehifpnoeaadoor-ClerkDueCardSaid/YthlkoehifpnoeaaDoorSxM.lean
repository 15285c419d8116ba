/- Slices: literal ones, made ones, grown ones. -/
import Derived.Test.YthlkoehifpnoeaaDoorSxK
namespace Go.SX

/-- rows by a list of things and the cells of each -/
def rowsV {α : Type} [Inhabited α] (enc : α → List SV) (xs : List α) : Nat → Nat → SV := fun i j => (enc (xs.getD i default)).getD j default
def litF (sz : Nat) (cs : List SV) : Nat → Nat → SV := fun i j => cs.getD (i * sz + j) default
def zerF (z : List Value) : Nat → Nat → SV := fun _ j => cst1 (z.getD j undef)
def appF (f : Nat → Nat → SV) (n : Nat) (g : Nat → Nat → SV) : Nat → Nat → SV := fun i j => bif Nat.blt i n then f i j else g (i - n) j
/-- the cells of rows, in a line -/
def rowL (f : Nat → Nat → SV) (n sz : Nat) : List SV := (List.range (n * sz)).map fun p => f (p / sz) (p % sz)
def onesF (f : Nat → Nat → SV) (n sz : Nat) : Prop := ∀ i j, i < n → j < sz → one (f i j)

theorem onesF_rows {α : Type} [Inhabited α] {enc : α → List SV} {xs : List α} {n sz : Nat} (h : ∀ x, (enc x).length = sz ∧ ones (enc x)) : onesF (rowsV enc xs) n sz := by
  intro i j _ hj
  obtain ⟨h1, h2⟩ := h (xs.getD i default)
  unfold rowsV
  rw [List.getD_eq_getElem?_getD, List.getElem?_eq_getElem (by omega)]
  exact ones_iff.1 h2 _ (List.getElem_mem _)

theorem appF_rows {α : Type} [Inhabited α] (enc : α → List SV) (xs ys : List α) : appF (rowsV enc xs) xs.length (rowsV enc ys) = rowsV enc (xs ++ ys) := by
  funext i j
  unfold appF rowsV
  by_cases h : i < xs.length
  · have : Nat.blt i xs.length = true := by rw [Nat.blt_eq]; exact h
    rw [this, cond_true]
    simp [List.getD_eq_getElem?_getD, List.getElem?_append_left h]
  · have : Nat.blt i xs.length = false := by rw [Bool.eq_false_iff, ne_eq, Nat.blt_eq]; exact h
    rw [this, cond_false]
    simp [List.getD_eq_getElem?_getD, List.getElem?_append_right (Nat.le_of_not_lt h)]

theorem dm {sz i j : Nat} (hj : j < sz) : (i * sz + j) / sz = i ∧ (i * sz + j) % sz = j := by
  have h0 : 0 < sz := by omega
  rw [Nat.mul_comm, Nat.mul_add_div h0, Nat.mul_add_mod, Nat.div_eq_of_lt hj, Nat.mod_eq_of_lt hj]
  omega

theorem rowL_len (f : Nat → Nat → SV) (n sz : Nat) : (rowL f n sz).length = n * sz := by simp [rowL]
theorem rowL_at (f : Nat → Nat → SV) {n sz i j : Nat} (hi : i < n) (hj : j < sz) : (rowL f n sz)[i * sz + j]? = some (f i j) := by
  have hlt : i * sz + j < n * sz := by
    have : (i + 1) * sz ≤ n * sz := Nat.mul_le_mul_right sz hi
    rw [Nat.add_mul, Nat.one_mul] at this
    omega
  simp only [rowL, List.getElem?_map, List.getElem?_range hlt, Option.map_some, (dm hj).1, (dm hj).2]
theorem rowL_of {f : Nat → Nat → SV} {n sz : Nat} (hsz : 0 < sz) {s : SV} (h : s ∈ rowL f n sz) : ∃ i j, i < n ∧ j < sz ∧ s = f i j := by
  simp only [rowL, List.mem_map, List.mem_range] at h
  obtain ⟨p, hp, rfl⟩ := h
  exact ⟨p / sz, p % sz, Nat.div_lt_of_lt_mul (by rw [Nat.mul_comm]; exact hp), Nat.mod_lt _ hsz, rfl⟩

section
variable {S : Setup} {k : List Frag} {st : St} {C : Ctx} {ro ro0 : RO} {H F : Hp} {a : Act} {w : World}

inductive PRel (pl : Nat → Option (Nat × Nat)) : List (Nat × Operand) → List (Nat × Nat × Opd) → Prop
  | nil : PRel pl [] []
  | cons {i off n : Nat} {x : Operand} {y : Opd} {ps qs} (h1 : pl i = some (off, n)) (h2 : copd x = some y) (h : PRel pl ps qs) : PRel pl ((i, x) :: ps) ((off, n, y) :: qs)

theorem fillR (g : G C ro H F st a w) {pl : Nat → Option (Nat × Nat)} {ps : List (Nat × Operand)} {qs : List (Nat × Nat × Opd)} (hr : PRel pl ps qs) : ∀ {z z' : List SV}, buildV st.env z qs = some z' → SV.oks ro z →
    Instr.fill pl (SV.dens z).toArray (ps.map fun p => (p.1, a.eval p.2)) = some (SV.dens z').toArray ∧ SV.oks ro z' ∧ z'.length = z.length := by
  induction hr with
  | nil =>
    intro z z' hb hz
    simp only [buildV, Option.some.injEq] at hb
    subst hb
    exact ⟨rfl, hz, rfl⟩
  | cons h1 h2 _ ih =>
    rename_i i off n x y ps qs _
    intro z z' hb hz
    simp only [buildV] at hb
    split at hb
    · rename_i s hs
      obtain ⟨e1, e2⟩ := opv_ok g h2 hs
      split at hb
      · rename_i cs hcs
        cases hlen : (cs.length == n : Bool) with
        | false => simp [hlen] at hb
        | true =>
          simp only [hlen, cond_true] at hb
          split at hb
          · rename_i z1 ho
            obtain ⟨o1, o2⟩ := overL_eq _ _ _ _ ho
            obtain ⟨c1, c2⟩ := cellsOf_ok hcs e2
            have hn : cs.length = n := by simpa using hlen
            have hz1 : SV.oks ro z1 := by
              rw [oks_iff] at hz c1 ⊢
              intro s hs
              rcases (overL_len _ _ _ _ ho).2 s hs with h | h
              · exact hz s h
              · exact c1 s h
            obtain ⟨i1, i2, i3⟩ := ih hb hz1
            refine ⟨?_, i2, by rw [i3, (overL_len _ _ _ _ ho).1]⟩
            have hsz : (a.eval x).cells.size = n := by rw [e1, c2, dens_eq]; simp [hn]
            have hfit : ¬ ((a.eval x).cells.size ≠ n ∨ off + (a.eval x).cells.size > (SV.dens z).toArray.size) := by
              rw [hsz]
              rw [dens_eq]
              simp
              omega
            have hfold : (a.eval x).cells.zipIdx.foldl (fun cs (p : Value × Nat) => cs.setIfInBounds (off + p.2) p.1) (SV.dens z).toArray = (SV.dens z1).toArray := by
              rw [e1, c2]
              apply Array.ext'
              rw [← Array.foldl_toList]
              have := fold_set off (SV.dens cs) 0 (SV.dens z).toArray (by rw [dens_eq, dens_eq]; simp; omega)
              simp only [Array.toList_zipIdx] at this ⊢
              rw [this, o2]
              simp [dens_eq, List.map_take, List.map_drop]
            simp only [List.map_cons, Instr.fill, h1]
            rw [if_neg (by simpa using hfit)]
            have e : (a.eval x).cells.zipIdx.foldl (fun cs (c, j) => cs.setIfInBounds (off + j) c) (SV.dens z).toArray = (SV.dens z1).toArray := hfold
            rw [e]
            exact i1
          · cases hb
      · cases hb
    · cases hb

theorem slParts_rel {sz len : Nat} : ∀ {ps : List (Nat × Operand)} {qs : List (Nat × Nat × Opd)}, slParts sz len ps = some qs → PRel (fun i => some (i * sz, sz)) ps qs
  | [], qs, h => by
    simp only [slParts, Option.some.injEq] at h
    subst h
    exact .nil
  | (i, x) :: ps, qs, h => by
    simp only [slParts] at h
    split at h
    · rename_i y r h1 h2
      injection h with h
      subst h
      exact .cons rfl h1 (slParts_rel h2)
    · cases h

/-- a literal slice -/
theorem stp_bsl {d e sz len : Nat} {z : List Value} {qs : List (Nat × Nat × Opd)} {ps : List SOp} {l : List (SOp × List SOp)} {cs : List SV} (hb : buildV st.env (z.map cst1) qs = some cs)
    (h : ∀ b, recheck S.C ⟨(d, .osl st.heap.length false b 0 len len) :: st.env, st.heap ++ [.row false b e 0 sz len len (litF sz cs)]⟩ ps ∧
      Safe S (.ops l :: k) ⟨(d, .osl st.heap.length false b 0 len len) :: st.env, st.heap ++ [.row false b e 0 sz len len (litF sz cs)]⟩) :
    Stp S k l ps st (.bsl d e sz len z qs) := by
  intro ro0 F a w o hg he
  obtain ⟨t, ps0, i, v, h1, h2, h3, h4, h5, h6, h7, h8, h9, rfl, rfl, h10⟩ := ceff_inv he
  obtain ⟨ro, H, hle, g⟩ := hg
  have hz0 : SV.oks ro ((rowZ v.cells (len * i.size)).map cst1) := oks_cst ro _
  obtain ⟨k1, k2, k3⟩ := fillR g (slParts_rel h10) hb hz0
  rw [dens_cst] at k1
  have hlen : cs.length = len * i.size := by rw [k3]; simp [rowZ]
  have hrun : (execOp a.eval o).run S.C.P w = .ok (.value (.slice (some ⟨w.heap.size, 0, none⟩) len len)) { w with heap := w.heap.push (.cells (SV.dens cs).toArray e) } := by
    obtain ⟨dst, op, ty, pos, aft, gd⟩ := o
    simp only at h1
    subst h1
    have hz2 : ∀ zz : Array Value, (len * i.size = 0 ∨ zz = v.cells) → (Array.range (len * i.size)).map (zz[· % zz.size]!) = (rowZ v.cells (len * i.size)).toArray := by
      intro zz hzz
      apply Array.ext'
      rcases hzz with hl | rfl
      · simp [hl, rowZ]
      · simp [rowZ, Array.toList_range]
    have hmap : (ps0.map fun (p : Nat × Operand) => (p.1, a.eval p.2)).toList = ps0.toList.map fun p => (p.1, a.eval p.2) := by simp
    have hle24 : ¬ (len * i.size > 2 ^ 24) := by omega
    by_cases hl : len * i.size = 0
    · simp only [execOp, Instr.buildSlice, Sem.run_bind, run_underlying h3, Result.andThen_ok, sizeOf, typeInfo, run_program, h4, Sem.run_pure, hle24, if_false, if_pos hl, hz2 _ (.inl hl), hmap, k1, newRow, run_newObj]
    · simp only [execOp, Instr.buildSlice, Sem.run_bind, run_underlying h3, Result.andThen_ok, sizeOf, typeInfo, run_program, h4, Sem.run_pure, hle24, if_false, if_neg hl, zeroValue, h5, hz2 _ (.inr rfl), hmap, k1, newRow, run_newObj]
  rw [hrun]
  simp only [Oper.uponIn, h2]
  obtain ⟨q1, q2⟩ := h w.heap.size
  have hrow : (Chunk.row false w.heap.size e 0 i.size len len (litF i.size cs)).sat ro [(w.heap.size, .cells (SV.dens cs).toArray e)] := by
    refine ⟨(SV.dens cs).toArray, (0, 0), rfl, Fz.zero _, Nat.le_refl _, by rw [dens_eq]; simp [hlen], fun i' j hi hj => ?_⟩
    have hlt : i' * i.size + j < cs.length := by
      rw [hlen]
      have : (i' + 1) * i.size ≤ len * i.size := Nat.mul_le_mul_right _ hi
      rw [Nat.add_mul, Nat.one_mul] at this
      omega
    have e1 : litF i.size cs i' j = cs[i' * i.size + j] := by
      unfold litF
      rw [List.getD_eq_getElem?_getD, List.getElem?_eq_getElem hlt]
      rfl
    rw [e1, Nat.zero_add]
    refine ⟨?_, oks_iff.1 k2 _ (List.getElem_mem _)⟩
    rw [dens_eq]
    simp [List.getElem?_eq_getElem hlt]
  have g1 := g.alloc hrow
  exact ⟨_, ⟨ro, _, hle, g1.put (s := .osl st.heap.length false w.heap.size 0 len len) h6 (by simp only [SV.ok])⟩, q1, q2⟩

/-- make([]T, len, cap) -/
theorem stp_mksl {d e sz bytes : Nat} {z : List Value} {lo co : Opd} {ps : List SOp} {l : List (SOp × List SOp)} {sl sc : SV} {ln cp : Int} (hl : opv st.env lo = some sl) (hcp : opv st.env co = some sc) (hli : intOf sl = some ln) (hci : intOf sc = some cp)
    (b0 : 0 ≤ ln) (b1 : ln ≤ cp) (b2 : (bytes : Int) * cp ≤ 281474976710656) (b3 : cp ≤ 9223372036854775807)
    (h : ∀ b, recheck S.C ⟨(d, .osl st.heap.length false b 0 ln.toNat cp.toNat) :: st.env, st.heap ++ [.row false b e 0 sz ln.toNat cp.toNat (zerF z)]⟩ ps ∧
      Safe S (.ops l :: k) ⟨(d, .osl st.heap.length false b 0 ln.toNat cp.toNat) :: st.env, st.heap ++ [.row false b e 0 sz ln.toNat cp.toNat (zerF z)]⟩) :
    Stp S k l ps st (.mksl d e sz bytes z lo co) := by
  intro ro0 F a w o hg he
  obtain ⟨t, l0, c0, i, v, h1, h2, h3, h4, h5, h6, h7, h8, h9, h10, rfl, rfl, rfl⟩ := ceff_inv he
  obtain ⟨ro, H, hle, g⟩ := hg
  obtain ⟨e1, _⟩ := opv_ok g h6 hl
  obtain ⟨e2, _⟩ := opv_ok g h7 hcp
  obtain ⟨kl, e3⟩ := intOf_ok hli
  obtain ⟨kc, e4⟩ := intOf_ok hci
  have hrun : (execOp a.eval o).run S.C.P w = .ok (.value (.slice (some ⟨w.heap.size, 0, none⟩) ln.toNat cp.toNat)) { w with heap := w.heap.push (.cells (rowZ v.cells (cp.toNat * i.size)).toArray e) } := by
    obtain ⟨dst, op, ty, pos, aft, gd⟩ := o
    simp only at h1
    subst h1
    have w1 : IntKind.i64.wrap ln = ln := IntWalk.i64_in ln (by omega)
    have w2 : IntKind.i64.wrap cp = cp := IntWalk.i64_in cp (by omega)
    have t1 : (decide (cp < 0) || decide ((i.bytes : Int) * cp > 2 ^ 48)) = false := by
      simp only [Bool.or_eq_false_iff, decide_eq_false_iff_not]
      omega
    have hz2 : ∀ zz : Array Value, (cp.toNat * i.size = 0 ∨ zz = v.cells) → (Array.range (cp.toNat * i.size)).map (zz[· % zz.size]!) = (rowZ v.cells (cp.toNat * i.size)).toArray := by
      intro zz hzz
      apply Array.ext'
      rcases hzz with hl | rfl
      · simp [hl, rowZ]
      · simp [rowZ, Array.toList_range]
    have c1 : ¬ ln < 0 := by omega
    have c2 : ¬ ln > cp := by omega
    by_cases hl : cp.toNat * i.size = 0
    · simp only [execOp, Instr.makeSlice, Sem.run_bind, run_underlying h3, Result.andThen_ok, asInt, asIntOf, e1, e2, e3, e4, sizeOf, typeInfo, run_program, h4, Sem.run_pure, w1, w2, t1, c1, c2, decide_false, Bool.or_self, Bool.false_eq_true, if_false, run_askRoom, if_pos hl, hz2 _ (.inl hl), newRow, run_newObj]
    · simp only [execOp, Instr.makeSlice, Sem.run_bind, run_underlying h3, Result.andThen_ok, asInt, asIntOf, e1, e2, e3, e4, sizeOf, typeInfo, run_program, h4, Sem.run_pure, w1, w2, t1, c1, c2, decide_false, Bool.or_self, Bool.false_eq_true, if_false, run_askRoom, if_neg hl, zeroValue, h5, hz2 _ (.inr rfl), newRow, run_newObj]
  rw [hrun]
  simp only [Oper.uponIn, h2]
  obtain ⟨q1, q2⟩ := h w.heap.size
  have hrow : (Chunk.row false w.heap.size e 0 i.size ln.toNat cp.toNat (zerF v.cells.toList)).sat ro [(w.heap.size, .cells (rowZ v.cells (cp.toNat * i.size)).toArray e)] := by
    refine ⟨_, (0, 0), rfl, Fz.zero _, by omega, by simp [rowZ], fun i' j hi hj => ?_⟩
    have hlt : i' * i.size + j < cp.toNat * i.size := by
      have : (i' + 1) * i.size ≤ cp.toNat * i.size := Nat.mul_le_mul_right _ (by omega)
      rw [Nat.add_mul, Nat.one_mul] at this
      omega
    refine ⟨?_, cst1_ok _ _⟩
    have hj' : j < v.cells.size := by omega
    simp only [rowZ, Nat.zero_add, List.getElem?_toArray, List.getElem?_map, List.getElem?_range hlt, Option.map_some, zerF, cst1_den, h10, (dm hj).2]
    rw [getElem!_pos v.cells j hj', List.getD_eq_getElem?_getD, List.getElem?_eq_getElem (by simpa using hj')]
    simp
  have g1 := g.alloc hrow
  exact ⟨_, ⟨ro, _, hle, g1.put (s := .osl st.heap.length false w.heap.size 0 ln.toNat cp.toNat) h8 (by simp only [SV.ok])⟩, q1, q2⟩
end
end Go.SX
