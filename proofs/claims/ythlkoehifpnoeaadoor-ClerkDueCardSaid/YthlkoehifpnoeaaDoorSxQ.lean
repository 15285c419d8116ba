/- clear; structs compared; the greatest of three. -/
import Derived.Test.YthlkoehifpnoeaaDoorSxP
namespace Go.SX
section
variable {S : Setup} {k : List Frag} {st : St} {C : Ctx} {ro ro0 : RO} {H F : Hp} {a : Act} {w : World}

theorem cop_othE {P : Program} {N : Nat} {ops : Array Oper} {o : Oper} {d : Option Nat} {op : Op} {ty : TypeId} (h : cop P N ops false o = some (.oth d op ty)) : ceff P N o = some (.oth d op ty) := by
  unfold cop at h
  split at h
  · split at h <;> simp at h
  · split at h
    · split at h <;> simp at h
    · cases h
  · split at h
    · simp only [Bool.false_eq_true, if_false, Option.map_eq_some_iff, reduceCtorEq, and_false, exists_false] at h
    · cases h
  · simpa using h

/-- an effect of another kind -/
theorem Stp.safeE {d : Option Nat} {op : Op} {ty : TypeId} {ps : List SOp} {l : List (SOp × List SOp)} (h : Stp S k l ps st (.oth d op ty)) (hk : kindReads op = false) : Safe S (.ops ((.oth d op ty, ps) :: l) :: k) st := by
  refine ops_step fun ro0 F a w o ops b hg hc hb => ?_
  obtain ⟨c1, c2, c3, c4, c5⟩ := oth_of hc
  cases b with
  | true =>
    have := hb rfl
    rw [c1, hk] at this
    cases this
  | false =>
    rw [if_pos (by simp [Region.wanted, c4])]
    simp only [Bool.false_eq_true, if_false]
    exact h ro0 F a w o hg (cop_othE hc)

theorem place_head : ∀ (is : List Nat) (x : Chunk) (cs ds : List Chunk), (∀ i ∈ is, 0 < i) → ∃ Y, place (x :: cs) is ds = x :: Y
  | [], x, cs, ds, _ => ⟨cs ++ ds, by cases ds <;> rfl⟩
  | 0 :: _, _, _, _, h => absurd (h 0 (by simp)) (by omega)
  | (i + 1) :: is, x, cs, [], h => by simp only [place, setC]; exact place_head is x _ _ (fun j hj => h j (by simp [hj]))
  | (i + 1) :: is, x, cs, d :: ds, h => by simp only [place, setC]; exact place_head is x _ _ (fun j hj => h j (by simp [hj]))

theorem row_congr {nl : Bool} {b off sz n cap : Nat} {T : TypeId} {f f' : Nat → Nat → SV} (h : ∀ i j, i < n → j < sz → f i j = f' i j) {H : Hp} (hs : (Chunk.row nl b T off sz n cap f).sat ro H) : (Chunk.row nl b T off sz n cap f').sat ro H := by
  cases nl with
  | true => exact hs
  | false =>
    obtain ⟨arr, fz, h1, h0, h2, h3, h4⟩ := hs
    exact ⟨arr, fz, h1, h0, h2, h3, fun i j hi hj => by rw [← h i j hi hj]; exact h4 i j hi hj⟩
theorem Sub.heap {st st' : St} (he : envSub st.env st'.env) (hh : ∀ ro H, hsat ro st.heap H → hsat ro st'.heap H) : Sub st st' :=
  ⟨fun t s ht => ⟨s, envSub_ok he t s ht, rfl, fun _ h => h⟩, fun ro H hs => ⟨H, [], by simp, hh ro H hs⟩⟩

theorem safe_cellview {c b kk n cap sz : Nat} {T : TypeId} {cs : List SV} {ad : Option Addr} {f : Nat → Nat → SV} (hc : getC st.heap c = .cells b T cs) (hk : getL cs kk = some (.view ad n cap sz f)) (h : n ≤ cap → Safe S k st) : Safe S k st := by
  rintro ro0 F a w ⟨ro, H, hle, g⟩
  obtain ⟨_, hok, _⟩ := g.cells hc
  rw [getL_eq] at hk
  have := oks_iff.1 hok _ (List.mem_of_getElem? hk)
  simp only [SV.ok] at this
  exact h this.1 ro0 F a w ⟨ro, H, hle, g⟩

theorem safe_rowcap {c b off sz n cap : Nat} {nl : Bool} {T : TypeId} {f : Nat → Nat → SV} (hc : getC st.heap c = .row nl b T off sz n cap f) (h : n ≤ cap → Safe S k st) : Safe S k st := by
  rintro ro0 F a w ⟨ro, H, hle, g⟩
  obtain ⟨Hb, H2, _, hbox, _⟩ := hsat_at c g.heap (getC_lt (by rw [hc]; simp))
  rw [hc] at hbox
  refine h ?_ ro0 F a w ⟨ro, H, hle, g⟩
  cases nl with
  | true => obtain ⟨_, rfl, rfl⟩ := hbox; exact Nat.le_refl _
  | false => obtain ⟨_, _, _, _, h2, _⟩ := hbox; exact h2

def ovAt (g : Nat → Nat → SV) (p m : Nat) (f : Nat → Nat → SV) : Nat → Nat → SV := fun i j => bif Nat.ble p i && Nat.blt i (p + m) then g (i - p) j else f i j

/-- rows laid over rows of an own row, from the p-th on -/
theorem stRowsAt (g : G C ro H F st a w) {c b off sz n cap p m : Nat} {T : TypeId} {f gx : Nat → Nat → SV} (hc : getC st.heap c = .row false b T off sz n cap f) (hsz : 0 < sz) (hm : p + m ≤ n)
    (h1 : onesF gx m sz) (hok : ∀ i j, i < m → j < sz → (gx i j).ok ro) (P : Program) :
    ∃ w' H', (storeCells ⟨b, off + p * sz, none⟩ (SV.dens (rowL gx m sz))).run P w = .ok () w' ∧ G C ro H' F ⟨st.env, setC st.heap c (.row false b T off sz n cap (ovAt gx p m f))⟩ a w' := by
  obtain ⟨H1, hs, hmem, hput⟩ := g.putChunk (c := c) (getC_lt (by rw [hc]; simp))
  rw [hc] at hs
  obtain ⟨arr, fz, rfl, hfz, hn, hsize, hcell⟩ := hs
  have hb := hmem _ (List.mem_singleton.2 rfl)
  have hlen : (SV.dens (rowL gx m sz)).length = m * sz := by rw [dens_eq]; simp [rowL_len]
  have hpm : p * sz + m * sz ≤ n * sz := by rw [← Nat.add_mul]; exact Nat.mul_le_mul_right _ hm
  have hnc : n * sz ≤ cap * sz := Nat.mul_le_mul_right _ hn
  have hone : ∀ v ∈ SV.dens (rowL gx m sz), v.oneCell' = true := by
    rw [dens_eq]
    intro v hv
    obtain ⟨s, hs, rfl⟩ := List.mem_map.1 hv
    obtain ⟨i, j, hi, hj, rfl⟩ := rowL_of hsz hs
    exact one_den (h1 i j hi hj)
  obtain ⟨w', r1, r2, r3, r4, r5, r6⟩ := stCells P b (off + p * sz) T fz (SV.dens (rowL gx m sz)) 0 _ w hb hfz (by rw [hlen]; simpa using (by omega : off + p * sz + m * sz ≤ arr.size)) hone
  have hrow : (Chunk.row false b T off sz n cap (ovAt gx p m f)).sat ro [(b, .cells (arr.toList.take (off + p * sz + 0) ++ SV.dens (rowL gx m sz) ++ arr.toList.drop (off + p * sz + 0 + (SV.dens (rowL gx m sz)).length)).toArray T fz)] := by
    have hsz2 : ((arr.toList.take (off + p * sz + 0) ++ SV.dens (rowL gx m sz) ++ arr.toList.drop (off + p * sz + 0 + (SV.dens (rowL gx m sz)).length)).toArray).size = arr.size := by
      simp [hlen]
      omega
    refine ⟨_, fz, rfl, by rw [hsz2]; exact hfz, hn, by rw [hsz2]; exact hsize, fun i j hi hj => ?_⟩
    have hold := hcell i j hi hj
    rw [List.getElem?_toArray, Nat.add_zero, over_get _ _ _ _ (by rw [hlen]; simp; omega)]
    by_cases him : p ≤ i ∧ i < p + m
    · have e1 : Nat.ble p i = true := by rw [Nat.ble_eq]; exact him.1
      have e2 : Nat.blt i (p + m) = true := by rw [Nat.blt_eq]; exact him.2
      have hlt : i * sz + j < (p + m) * sz := by
        have : (i + 1) * sz ≤ (p + m) * sz := Nat.mul_le_mul_right sz him.2
        rw [Nat.add_mul, Nat.one_mul] at this
        omega
      have hge : p * sz ≤ i * sz := Nat.mul_le_mul_right sz him.1
      have hsub : (i - p) * sz = i * sz - p * sz := Nat.sub_mul ..
      rw [Nat.add_mul] at hlt
      rw [if_pos (by rw [hlen]; omega)]
      simp only [ovAt, e1, e2, Bool.and_self, cond_true]
      refine ⟨?_, hok (i - p) j (by omega) hj⟩
      rw [show off + i * sz + j - (off + p * sz) = (i - p) * sz + j by omega, dens_eq, List.getElem?_map, rowL_at gx (by omega) hj]
      rfl
    · have e : (Nat.ble p i && Nat.blt i (p + m)) = false := by
        rw [Bool.eq_false_iff]
        intro h
        simp only [Bool.and_eq_true, Nat.ble_eq, Nat.blt_eq] at h
        exact him h
      have hor : i < p ∨ p + m ≤ i := by omega
      rw [if_neg]
      · simp only [ovAt, e, cond_false]
        rw [Array.getElem?_toList]
        exact hold
      · rw [hlen]
        rintro ⟨a1, a2⟩
        rcases hor with h | h
        · have : (i + 1) * sz ≤ p * sz := Nat.mul_le_mul_right sz h
          rw [Nat.add_mul, Nat.one_mul] at this
          omega
        · have : (p + m) * sz ≤ i * sz := Nat.mul_le_mul_right sz h
          rw [Nat.add_mul] at this
          omega
  obtain ⟨H', g'⟩ := hput b _ _ _ w' rfl hrow r2 r3 r4 (by simpa using r5) r6
  exact ⟨w', H', r1, g'⟩

theorem zeros_dens {z : Array Value} {sz : Nat} (hz : z.size = sz) (h0 : 0 < sz) (n : Nat) : (Builtin.zeroCells z n).toList = SV.dens (rowL (zerF z.toList) n sz) := by
  rw [dens_eq]
  apply List.ext_getElem?
  intro q
  simp only [Builtin.zeroCells, rowL, Array.toList_map, Array.toList_range, List.getElem?_map, hz]
  rcases Nat.lt_or_ge q (n * sz) with h | h
  · have hm : q % sz < z.size := by rw [hz]; exact Nat.mod_lt _ h0
    rw [List.getElem?_range h]
    simp only [Option.map_some, zerF, cst1_den]
    rw [getElem!_pos z _ hm, List.getD_eq_getElem?_getD, List.getElem?_eq_getElem (by simpa using hm)]
    simp
  · rw [List.getElem?_eq_none (by simpa using h)]
    rfl

/-- clear of rows of an own row -/
theorem stp_clear {x : Operand} {t ty e : TypeId} {ps : List SOp} {l : List (SOp × List SOp)} {c b off off' sz n n' cap cap' p : Nat} {nl : Bool} {T : TypeId} {f : Nat → Nat → SV} {xo : Opd} {i : TypeInfo} {z : Value} (hxo : copd x = some xo)
    (hu : S.C.P.underlying t = some (.slice e)) (he : S.C.P.info? e = some i) (hz : i.zero = some z) (hsz : z.cells.size = sz) (h0 : 0 < sz) (hone : ∀ v ∈ z.cells.toList, v.oneCell' = true) (hx : opv st.env xo = some (.osl c nl b off' n' cap'))
    (hc : getC st.heap c = .row nl b T off sz n cap f) (hp : off' = off + p * sz) (hm : p + n' ≤ n) (hn : 0 < n')
    (hre : recheck S.C ⟨st.env, setC st.heap c (.row nl b T off sz n cap (ovAt (zerF z.cells.toList) p n' f))⟩ ps)
    (h : Safe S (.ops l :: k) ⟨st.env, setC st.heap c (.row nl b T off sz n cap (ovAt (zerF z.cells.toList) p n' f))⟩) :
    Stp S k l ps st (.oth none (.call { callee := .builtin .clear, args := #[x], argTypes := #[t] }) ty) := by
  intro ro0 F a w o hg hce
  obtain ⟨i1, i2, i3, i4⟩ := ceff_inv hce
  obtain ⟨ro, H, hle, g⟩ := hg
  obtain ⟨e1, _⟩ := opv_ok g hxo hx
  obtain ⟨rfl, _⟩ := g.row hc (by omega)
  have ones1 : onesF (zerF z.cells.toList) n' sz := by
    intro i j _ hj
    unfold zerF
    have hj' : j < z.cells.toList.length := by simp [hsz, hj]
    rw [List.getD_eq_getElem?_getD, List.getElem?_eq_getElem hj']
    have := hone _ (List.getElem_mem hj')
    simp only [Option.getD_some]
    unfold cst1
    split
    · simp only [one]
    · simp only [one]; exact this
  obtain ⟨w', H', r1, g'⟩ := stRowsAt g hc h0 hm ones1 (fun i j _ _ => cst1_ok _ _) S.C.P
  have hrun : (execOp a.eval o).run S.C.P w = .ok (.value (.tuple #[])) w' := by
    obtain ⟨dst, op, ty', pos, aft, gd⟩ := o
    simp only at i1
    subst i1
    rw [← hp, ← zeros_dens hsz h0] at r1
    obtain ⟨n', rfl⟩ : ∃ q, n' = q + 1 := ⟨n' - 1, by omega⟩
    simp [execOp, resolve, invoke, builtin, Builtin.clear_, e1, SV.den, run_underlying hu, zeroValue, typeInfo, he, hz, r1]
  rw [hrun]
  simp only [Oper.uponIn, i2]
  exact ⟨_, ⟨ro, H', hle, g'⟩, hre, h⟩

/-- the greatest of three -/
theorem oth_max3 {x y z : Operand} {t1 t2 t3 ty : TypeId} {xo yo zo : Opd} {n1 n2 n3 : Int} (h1 : copd x = some xo) (h2 : copd y = some yo) (h3 : copd z = some zo)
    (e1 : opv st.env xo = some (.val (.int .i64 n1))) (e2 : opv st.env yo = some (.val (.int .i64 n2))) (e3 : opv st.env zo = some (.val (.int .i64 n3))) :
    OthV C st (.call { callee := .builtin .max, args := #[x, y, z], argTypes := #[t1, t2, t3] }) ty (.val (.int .i64 (max (max n1 n2) n3))) := by
  intro ro H F a w g
  obtain ⟨q1, _⟩ := opv_ok g h1 e1
  obtain ⟨q2, _⟩ := opv_ok g h2 e2
  obtain ⟨q3, _⟩ := opv_ok g h3 e3
  refine ⟨?_, by simp only [SV.ok]⟩
  have e0 : ∀ x y : Int, ∀ w : World, (Builtin.max2 (.int .i64 x) (.int .i64 y)).run C.P w = .ok (.int .i64 (max x y)) w := by
    intro x y w
    have : (if x < y then y else x) = max x y := by split <;> omega
    simp [Builtin.max2, this]
  simp [oper0, execOp, resolve, invoke, builtin, q1, q2, q3, SV.den, Builtin.max_, e0]

/-- two structs of three numbers -/
theorem oth_neq3 {x y : Operand} {t ty t' : TypeId} {xo yo : Opd} {x1 x2 x3 y1 y2 y3 : Int} {f1 f2 f3 : Field} (h1 : copd x = some xo) (h2 : copd y = some yo)
    (hg : C.P.eqGuardType C.P.depth t = false) (ht : C.P.underlying t = some (.struct (C.P.fieldsOf t))) (hp : C.P.stoodInHeld t = false) (hf : (C.P.fieldsOf t).toList = [f1, f2, f3])
    (n1 : f1.name ≠ "_" ∧ f1.offset = 0 ∧ aggOf C.P f1.type = some none ∧ C.P.underlying f1.type = some (.int .i64)) (n2 : f2.name ≠ "_" ∧ f2.offset = 1 ∧ aggOf C.P f2.type = some none ∧ C.P.underlying f2.type = some (.int .i64))
    (n3 : f3.name ≠ "_" ∧ f3.offset = 2 ∧ aggOf C.P f3.type = some none ∧ C.P.underlying f3.type = some (.int .i64))
    (e1 : opv st.env xo = some (.agg [.val (.int .i64 x1), .val (.int .i64 x2), .val (.int .i64 x3)])) (e2 : opv st.env yo = some (.agg [.val (.int .i64 y1), .val (.int .i64 y2), .val (.int .i64 y3)])) :
    OthV C st (.binOp .neq t x y t') ty (.val (.bool (!(x1 == y1 && (x2 == y2 && x3 == y3))))) := by
  intro ro H F a w g
  obtain ⟨q1, _⟩ := opv_ok g h1 e1
  obtain ⟨q2, _⟩ := opv_ok g h2 e2
  refine ⟨?_, by simp only [SV.ok]⟩
  have hpart : ∀ (f : Field) (vs : Array Value) (i : Nat) (v : Value), aggOf C.P f.type = some none → vs[i]? = some v → (part f.type vs i).run C.P w = .ok v w := by
    intro f vs i v ha hv
    have := isAgg_run ha w
    simp [part, this.1, hv]
  have hne1 := n1.1
  have hne2 := n2.1
  have hne3 := n3.1
  simp only [oper0, execOp, q1, q2, SV.den, SV.dens, Sem.run_bind, run_eqGuard_agg _ _ _ _ _ _ _ hg, run_neq_struct, run_equalIn_struct _ _ _ _ _ ht hp, hf, Op.eqFields, Result.andThen_ok]
  have p1 : ∀ v1 v2 v3 : Value, (part f1.type #[v1, v2, v3] f1.offset).run C.P w = .ok v1 w := fun v1 v2 v3 => by rw [n1.2.1]; exact hpart f1 _ 0 _ n1.2.2.1 rfl
  have p2 : ∀ v1 v2 v3 : Value, (part f2.type #[v1, v2, v3] f2.offset).run C.P w = .ok v2 w := fun v1 v2 v3 => by rw [n2.2.1]; exact hpart f2 _ 1 _ n2.2.2.1 rfl
  have p3 : ∀ v1 v2 v3 : Value, (part f3.type #[v1, v2, v3] f3.offset).run C.P w = .ok v3 w := fun v1 v2 v3 => by rw [n3.2.1]; exact hpart f3 _ 2 _ n3.2.2.1 rfl
  have q1 : ∀ n m : Int, (Op.equalIn 9999 f1.type (.int .i64 n) (.int .i64 m)).run C.P w = .ok (n == m) w := fun n m => run_equalIn_int w 9998 _ _ _ _ _ n1.2.2.2
  have q2 : ∀ n m : Int, (Op.equalIn 9999 f2.type (.int .i64 n) (.int .i64 m)).run C.P w = .ok (n == m) w := fun n m => run_equalIn_int w 9998 _ _ _ _ _ n2.2.2.2
  have q3 : ∀ n m : Int, (Op.equalIn 9999 f3.type (.int .i64 n) (.int .i64 m)).run C.P w = .ok (n == m) w := fun n m => run_equalIn_int w 9998 _ _ _ _ _ n3.2.2.2
  simp only [if_pos hne1, if_pos hne2, if_pos hne3, Sem.run_bind, p1, p2, p3, q1, q2, q3, Result.andThen_ok]
  cases b1 : (x1 == y1) <;> cases b2 : (x2 == y2) <;> cases b3 : (x3 == y3) <;> simp only [Bool.not_true, Bool.not_false, if_true, Bool.false_eq_true, if_false, Sem.run_bind, Sem.run_pure, Result.andThen_ok, p2, p3, q2, q3, b2, b3, Bool.true_and, Bool.false_and, Bool.and_self, Bool.and_false, Bool.and_true, Bool.not_true]
end
end Go.SX
