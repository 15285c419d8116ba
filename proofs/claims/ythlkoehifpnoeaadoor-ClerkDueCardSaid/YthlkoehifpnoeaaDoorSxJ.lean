/- The rules of what writes: new blocks, stores, calls. -/
import Derived.Test.YthlkoehifpnoeaaDoorSxI
namespace Go.SX
section
variable {S : Setup} {k : List Frag} {st : St} {C : Ctx} {ro ro0 : RO} {H F : Hp} {a : Act} {w : World}

def Inv1 (P : Program) (N : Nat) (o : Oper) : SOp → Prop
  | .box d T x => ∃ x0, o.op = .box T x0 ∧ o.dst = some d ∧ copd x0 = some x ∧ d < N
  | .alloc d T z => ∃ v, o.op = .alloc T ∧ o.dst = some d ∧ (P.info? T).bind (·.zero) = some v ∧ z = v.cells.toList ∧ d < N
  | .store x y n => ∃ t x0 y0, o.op = .store t x0 y0 ∧ copd x0 = some x ∧ copd y0 = some y ∧ szOf P t = some n ∧ o.dst = none
  | .call d f xs => ∃ f0 xs0 ts, o.op = .call { callee := .value f0, args := xs0, argTypes := ts } ∧ o.dst = d ∧ copd f0 = some f ∧ copds xs0.toList = some xs ∧ d.all (· < N) = true
  | .app d e sz bytes z s x => ∃ t t' e' s0 x0 i v, o.op = .call { callee := .builtin .append, args := #[s0, x0], argTypes := #[t, t'] } ∧ o.dst = some d ∧ P.underlying t = some (.slice e) ∧ P.underlying t' = some (.slice e') ∧
      P.info? e = some i ∧ copd s0 = some s ∧ copd x0 = some x ∧ i.zero = some v ∧ d < N ∧ 0 < i.size ∧ v.cells.size = i.size ∧ szOf P e' = some i.size ∧ 0 < i.bytes ∧ sz = i.size ∧ bytes = i.bytes ∧ z = v.cells.toList
  | .bsl d e sz len z ps => ∃ t ps0 i v, o.op = .buildSlice t len ps0 ∧ o.dst = some d ∧ P.underlying t = some (.slice e) ∧ P.info? e = some i ∧ i.zero = some v ∧ d < N ∧ 0 < i.size ∧ v.cells.size = i.size ∧ len * i.size ≤ 2 ^ 24 ∧
      sz = i.size ∧ z = rowZ v.cells (len * i.size) ∧ slParts i.size len ps0.toList = some ps
  | .mksl d e sz bytes z l c => ∃ t l0 c0 i v, o.op = .makeSlice t l0 c0 ∧ o.dst = some d ∧ P.underlying t = some (.slice e) ∧ P.info? e = some i ∧ i.zero = some v ∧ copd l0 = some l ∧ copd c0 = some c ∧ d < N ∧ 0 < i.size ∧ v.cells.size = i.size ∧
      sz = i.size ∧ bytes = i.bytes ∧ z = v.cells.toList
  | .oth d op ty => o.op = op ∧ o.dst = d ∧ o.type = ty ∧ d.all (· < N) = true
  | _ => False

theorem ceff_inv {P : Program} {N : Nat} {o : Oper} {so : SOp} (h : ceff P N o = some so) : Inv1 P N o so := by
  obtain ⟨dst, op, ty, pos, aft, gd⟩ := o
  unfold ceff at h
  simp only at h
  split at h
  · -- box
    split at h
    · rename_i hd
      simp only [Option.map_eq_some_iff] at h
      obtain ⟨y, hy, rfl⟩ := h
      exact ⟨_, rfl, rfl, hy, hd⟩
    · cases h
  · split at h
    · rename_i v hv
      split at h
      · rename_i hd
        injection h with h
        subst h
        exact ⟨v, rfl, rfl, hv, rfl, hd⟩
      · cases h
    · cases h
  · split at h
    · rename_i h1 h2 h3
      injection h with h
      subst h
      exact ⟨_, _, _, rfl, h2, h3, h1, rfl⟩
    · cases h
  · split at h
    · rename_i h1 h2
      split at h
      · rename_i hd
        injection h with h
        subst h
        exact ⟨_, _, _, rfl, rfl, h1, h2, hd⟩
      · cases h
    · cases h
  · rename_i args argTypes _
    obtain ⟨al⟩ := args
    obtain ⟨tl⟩ := argTypes
    split at h
    · rename_i s0 x0 t t' h1 h2
      simp only at h1 h2
      subst h1 h2
      split at h
      · rename_i e e' h3 h4
        split at h
        · rename_i i s x h5 h6 h7
          split at h
          · rename_i v h8
            split at h
            · rename_i h9
              injection h with h
              subst h
              exact ⟨t, t', e', s0, x0, i, v, rfl, rfl, h3, h4, h5, h6, h7, h8, h9.1, h9.2.1, h9.2.2.1, h9.2.2.2.1, h9.2.2.2.2, rfl, rfl, rfl⟩
            · cases h
          · cases h
        · cases h
      · split at h
        · rename_i hd
          injection h with h
          subst h
          exact ⟨rfl, rfl, rfl, by simpa using hd⟩
        · cases h
    · cases h
  · split at h
    · rename_i e h1
      split at h
      · rename_i i v h2 h3
        split at h
        · rename_i h4
          simp only [Option.map_eq_some_iff] at h
          obtain ⟨ps, h5, rfl⟩ := h
          rw [h2] at h3
          exact ⟨_, _, i, v, rfl, rfl, h1, h2, h3, h4.1, h4.2.1, h4.2.2.1, h4.2.2.2, rfl, rfl, h5⟩
        · cases h
      · cases h
    · cases h
  · split at h
    · rename_i e h1
      split at h
      · rename_i i v l c h2 h3 h4 h5
        split at h
        · rename_i h6
          injection h with h
          subst h
          rw [h2] at h3
          exact ⟨_, _, _, i, v, rfl, rfl, h1, h2, h3, h4, h5, h6.1, h6.2.1, h6.2.2, rfl, rfl, rfl⟩
        · cases h
      · cases h
    · cases h
  · split at h
    · rename_i hd
      injection h with h
      subst h
      exact ⟨rfl, rfl, rfl, hd⟩
    · cases h

theorem hsat_snoc {hp : List Chunk} {c : Chunk} {H1 H2 : Hp} (h1 : hsat ro hp H1) (h2 : c.sat ro H2) : hsat ro (hp ++ [c]) (H1 ++ H2) :=
  hsat_append.2 ⟨H1, H2, rfl, h1, H2, [], by simp, h2, rfl⟩

/-- a new block, known -/
theorem G.alloc (g : G C ro H F st a w) {o : Obj} {c : Chunk} (hc : c.sat ro [(w.heap.size, o)]) : G C ro (H ++ [(w.heap.size, o)]) F ⟨st.env, st.heap ++ [c]⟩ a { w with heap := w.heap.push o } := by
  refine ⟨g.defs, g.size, hsat_snoc g.heap hc, (g.sat.alloc o).perm ?_, g.env⟩
  rw [List.append_assoc]
  exact List.perm_middle.symm

theorem stp_box {d : Nat} {T : TypeId} {x : Opd} {ps : List SOp} {l : List (SOp × List SOp)} {s : SV} {cs : List SV} (hx : opv st.env x = some s) (hcs : cellsOf s = some cs)
    (h : ∀ b, recheck S.C ⟨(d, .ptr st.heap.length b 0) :: st.env, st.heap ++ [.cells b T cs]⟩ ps ∧ Safe S (.ops l :: k) ⟨(d, .ptr st.heap.length b 0) :: st.env, st.heap ++ [.cells b T cs]⟩) :
    Stp S k l ps st (.box d T x) := by
  intro ro0 F a w o hg he
  obtain ⟨x0, h1, h2, h3, h4⟩ := ceff_inv he
  obtain ⟨ro, H, hle, g⟩ := hg
  obtain ⟨e1, e2⟩ := opv_ok g h3 hx
  obtain ⟨e3, e4⟩ := cellsOf_ok hcs e2
  have hrun : (execOp a.eval o).run S.C.P w = .ok (.value (.pointer (some ⟨w.heap.size, 0, none⟩))) { w with heap := w.heap.push (.cells (SV.dens cs).toArray T) } := by
    obtain ⟨dst, op, ty, pos, aft, gd⟩ := o
    simp only at h1
    subst h1
    simp [execOp, Instr.box, newVar, newRow, e1, e4]
  rw [hrun]
  simp only [Oper.uponIn, h2]
  obtain ⟨k1, k2⟩ := h w.heap.size
  have g1 := g.alloc (o := .cells (SV.dens cs).toArray T) (c := .cells w.heap.size T cs) ⟨rfl, e3⟩
  exact ⟨_, ⟨ro, _, hle, g1.put (s := .ptr st.heap.length w.heap.size 0) h4 (by simp only [SV.ok])⟩, k1, k2⟩

theorem stp_alloc {d : Nat} {T : TypeId} {z : List Value} {ps : List SOp} {l : List (SOp × List SOp)}
    (h : ∀ b, recheck S.C ⟨(d, .ptr st.heap.length b 0) :: st.env, st.heap ++ [.cells b T (z.map cst1)]⟩ ps ∧ Safe S (.ops l :: k) ⟨(d, .ptr st.heap.length b 0) :: st.env, st.heap ++ [.cells b T (z.map cst1)]⟩) :
    Stp S k l ps st (.alloc d T z) := by
  intro ro0 F a w o hg he
  obtain ⟨v, h1, h2, h3, rfl, h4⟩ := ceff_inv he
  obtain ⟨ro, H, hle, g⟩ := hg
  have hrun : (execOp a.eval o).run S.C.P w = .ok (.value (.pointer (some ⟨w.heap.size, 0, none⟩))) { w with heap := w.heap.push (.cells (SV.dens (v.cells.toList.map cst1)).toArray T) } := by
    obtain ⟨dst, op, ty, pos, aft, gd⟩ := o
    simp only at h1
    subst h1
    cases hi : S.C.P.info? T with
    | none => simp [hi] at h3
    | some i =>
      simp only [hi, Option.bind_some] at h3
      simp [execOp, Instr.alloc, zeroValue, typeInfo, hi, h3, newVar, newRow, dens_cst]
  rw [hrun]
  simp only [Oper.uponIn, h2]
  obtain ⟨k1, k2⟩ := h w.heap.size
  have hok : SV.oks ro (v.cells.toList.map cst1) := oks_cst ro _
  have g1 := g.alloc (o := .cells (SV.dens (v.cells.toList.map cst1)).toArray T) (c := .cells w.heap.size T (v.cells.toList.map cst1)) ⟨rfl, hok⟩
  exact ⟨_, ⟨ro, _, hle, g1.put (s := .ptr st.heap.length w.heap.size 0) h4 (by simp only [SV.ok])⟩, k1, k2⟩

/-- cells stored into a block -/
theorem stCells (P : Program) (g o : Nat) (T : TypeId) (fz : Nat × Nat) : ∀ (vs : List Value) (i : Nat) (cur : Array Value) (w : World), w.heap[g]? = some (.cells cur T fz) → Fz cur.size fz → o + i + vs.length ≤ cur.size → (∀ v ∈ vs, v.oneCell' = true) →
    ∃ w', (storeCells ⟨g, o, none⟩ vs i).run P w = .ok () w' ∧ w'.os = w.os ∧ w'.tape = w.tape ∧ w'.output = w.output ∧
      w'.heap[g]? = some (.cells (cur.toList.take (o + i) ++ vs ++ cur.toList.drop (o + i + vs.length)).toArray T fz) ∧ ∀ k, k ≠ g → w'.heap[k]? = w.heap[k]?
  | [], i, cur, w, hg, _, _, _ => ⟨w, rfl, rfl, rfl, rfl, by simpa using hg, fun _ _ => rfl⟩
  | v :: rest, i, cur, w, hg, hz, hl, h1 => by
    have hi : o + i < cur.size := by simp at hl; omega
    have hcell : w.cell? ⟨g, o + i, none⟩ = some cur[o + i] := by simp [World.cell?, hg, hi]
    have hfro : w.frozen? ⟨g, o + i, none⟩ = false := by
      have := hz.2 (o + i) hi
      simpa [World.frozen?, hg] using this
    have hset : (w.setCell ⟨g, o + i, none⟩ v).heap[g]? = some (.cells (cur.setIfInBounds (o + i) v) T fz) := by
      simp [World.setCell, Array.getElem?_modify, hg]
    obtain ⟨w', r1, r2, r3, r4, r5, r6⟩ := stCells P g o T fz rest (i + 1) _ _ hset (by simpa using hz) (by simp at hl ⊢; omega) (fun x hx => h1 x (by simp [hx]))
    refine ⟨w', ?_, r2, r3, r4, ?_, fun k hk => (r6 k hk).trans ?_⟩
    · simp only [storeCells, Sem.run_bind, add_none, run_store P w _ v _ (h1 v (by simp)), hcell, hfro, Bool.false_eq_true, if_false, Result.andThen_ok, r1]
    · rw [r5]
      have e := list_seg_step cur.toList (o + i) v rest (by simp at hl ⊢; omega)
      congr 3
      simpa [Array.toList_setIfInBounds, Nat.add_assoc] using e
    · have hk' : g ≠ k := fun e => hk e.symm
      simp [World.setCell, Array.getElem?_modify, hk']

def ones : List SV → Prop
  | [] => True
  | s :: l => one s ∧ ones l
theorem ones_iff {l : List SV} : ones l ↔ ∀ s ∈ l, one s := by
  induction l with
  | nil => simp [ones]
  | cons s l ih => simp [ones, ih]

/-- a chunk is written: the rest stays -/
theorem G.putChunk (g : G C ro H F st a w) {c : Nat} (hlt : c < st.heap.length) :
    ∃ H1, (getC st.heap c).sat ro H1 ∧ (∀ p ∈ H1, w.heap[p.1]? = some p.2) ∧ ∀ (b : Nat) (o o' : Obj) (d : Chunk) (w' : World), H1 = [(b, o)] → d.sat ro [(b, o')] → w'.os = w.os → w'.tape = w.tape → w'.output = w.output →
      w'.heap[b]? = some o' → (∀ k, k ≠ b → w'.heap[k]? = w.heap[k]?) → ∃ H', G C ro H' F ⟨st.env, setC st.heap c d⟩ a w' := by
  obtain ⟨H1, H2, hp, hs, hput⟩ := hsat_at c g.heap hlt
  refine ⟨H1, hs, fun p hm => (g.sat.own p (List.mem_append_left _ (hp.mem_iff.2 (List.mem_append_left _ hm)))).1, ?_⟩
  intro b o o' d w' hH hd hos ht ho hb hrest
  subst hH
  obtain ⟨H'', hp'', hs''⟩ := hput ro d [(b, o')] (ROle.refl ro) hd
  refine ⟨H'', g.defs, g.size, hs'', ?_, g.env⟩
  have s1 : Sat C.E ro ((b, o) :: (H2 ++ F)) w := g.sat.perm (by simpa using hp.append_right F)
  have s2 := s1.set hos ht ho hb hrest
  exact s2.perm (by simpa using (hp''.append_right F).symm)

def updF (f : Nat → Nat → SV) (i j : Nat) (cs : List SV) : Nat → Nat → SV := fun i' j' => bif i' == i && (Nat.ble j j' && Nat.blt j' (j + cs.length)) then cs.getD (j' - j) default else f i' j'

/-- the memory behind a store -/
def stV (heap : List Chunk) (x : SV) (cs : List SV) : Option (List Chunk × Prop) :=
  match x with
  | .ptr c b off => match getC heap c with
    | .cells b' T cs0 => match overL cs0 off cs with | some cs1 => some (setC heap c (.cells b' T cs1), b = b') | none => none
    | _ => none
  | .ep c b off sz i j => match getC heap c with
    | .row nl b' T off' sz' n cap f => some (setC heap c (.row nl b' T off' sz' n cap (updF f i j cs)), b = b' ∧ off = off' ∧ sz = sz' ∧ i < n ∧ j + cs.length ≤ sz)
    | _ => none
  | _ => none

theorem getC_lt {l : List Chunk} {n : Nat} (h : getC l n ≠ .emp) : n < l.length := by
  induction l generalizing n with
  | nil => cases n <;> simp [getC] at h
  | cons c l ih => cases n with
    | zero => simp
    | succ n => have := ih (n := n) (by simpa [getC] using h); simpa using this

theorem over_get (l m : List Value) (o p : Nat) (h : o + m.length ≤ l.length) : (l.take o ++ m ++ l.drop (o + m.length))[p]? = if o ≤ p ∧ p < o + m.length then m[p - o]? else l[p]? := by
  by_cases h1 : p < o
  · rw [if_neg (by omega), List.append_assoc, List.getElem?_append_left (by simp; omega), List.getElem?_take, if_pos h1]
  · by_cases h2 : p < o + m.length
    · rw [if_pos ⟨by omega, h2⟩, List.append_assoc, List.getElem?_append_right (by simp; omega), List.getElem?_append_left (by simp; omega)]
      congr 1
      simp
      omega
    · rw [if_neg (by omega), List.getElem?_append_right (by simp; omega), List.getElem?_drop]
      congr 1
      simp
      omega

theorem updF_len {arr : List Value} {cs : List SV} {o : Nat} (h : o + cs.length ≤ arr.length) : ((arr.take o ++ SV.dens cs ++ arr.drop (o + (SV.dens cs).length)).toArray).size = arr.length := by
  rw [dens_eq]
  simp
  omega

theorem stV_sound (g : G C ro H F st a w) {x : SV} {cs : List SV} {hp' : List Chunk} {vc : Prop} (hv : stV st.heap x cs = some (hp', vc)) (hvc : vc) (h1 : ones cs) (hok : SV.oks ro cs) (P : Program) :
    ∃ ad w' H', x.den = .pointer (some ad) ∧ (storeCells ad (SV.dens cs)).run P w = .ok () w' ∧ G C ro H' F ⟨st.env, hp'⟩ a w' := by
  have hone : ∀ v ∈ SV.dens cs, v.oneCell' = true := by
    rw [dens_eq]
    intro v hv
    obtain ⟨s, hs, rfl⟩ := List.mem_map.1 hv
    exact one_den (ones_iff.1 h1 s hs)
  have hlen : (SV.dens cs).length = cs.length := by rw [dens_eq]; simp
  unfold stV at hv
  split at hv
  · rename_i c b off
    split at hv
    · rename_i b' T cs0 hc
      split at hv
      · rename_i cs1 ho
        simp only [Option.some.injEq, Prod.mk.injEq] at hv
        obtain ⟨rfl, rfl⟩ := hv
        have := hvc
        subst this
        obtain ⟨H1, hs, hmem, hput⟩ := g.putChunk (c := c) (getC_lt (by rw [hc]; simp))
        rw [hc] at hs
        obtain ⟨rfl, hok0⟩ := hs
        have hb := hmem _ (List.mem_singleton.2 rfl)
        obtain ⟨o1, o2⟩ := overL_eq _ _ _ _ ho
        have hsz : (SV.dens cs0).toArray.size = cs0.length := by rw [dens_eq]; simp
        obtain ⟨w', r1, r2, r3, r4, r5, r6⟩ := stCells P b off T (0, 0) (SV.dens cs) 0 _ w hb (Fz.zero _) (by rw [hsz, hlen]; simpa using o1) hone
        have hok1 : SV.oks ro cs1 := by
          rw [oks_iff] at hok0 hok ⊢
          intro s hs
          rcases (overL_len _ _ _ _ ho).2 s hs with h | h
          · exact hok0 s h
          · exact hok s h
        have hd : (SV.dens cs1).toArray = ((SV.dens cs0).toArray.toList.take (off + 0) ++ SV.dens cs ++ (SV.dens cs0).toArray.toList.drop (off + 0 + (SV.dens cs).length)).toArray := by
          rw [o2]
          simp [dens_eq, List.map_take, List.map_drop]
        obtain ⟨H', g'⟩ := hput b _ (.cells (SV.dens cs1).toArray T (0, 0)) (.cells b T cs1) w' rfl ⟨rfl, hok1⟩ r2 r3 r4 (by rw [hd]; exact r5) r6
        exact ⟨⟨b, off, none⟩, w', H', rfl, r1, g'⟩
      · cases hv
    · cases hv
  · rename_i c b off sz i j
    split at hv
    · rename_i nl b' T off' sz' n cap f hc
      simp only [Option.some.injEq, Prod.mk.injEq] at hv
      obtain ⟨rfl, rfl⟩ := hv
      obtain ⟨rfl, rfl, rfl, hi, hj⟩ := hvc
      obtain ⟨H1, hs, hmem, hput⟩ := g.putChunk (c := c) (getC_lt (by rw [hc]; simp))
      rw [hc] at hs
      cases nl with
      | true => simp only [Chunk.sat, if_true] at hs; omega
      | false =>
        obtain ⟨arr, fz, rfl, hfz, hn, hsz, hcell⟩ := hs
        have hb := hmem _ (List.mem_singleton.2 rfl)
        have hmul : ∀ i', i' < n → i' * sz + sz ≤ cap * sz := fun i' hi' => by
          have : (i' + 1) * sz ≤ cap * sz := Nat.mul_le_mul_right sz (by omega)
          rwa [Nat.add_mul, Nat.one_mul] at this
        have hmi := hmul i hi
        have hfit : off + i * sz + j + cs.length ≤ arr.toList.length := by simp; omega
        obtain ⟨w', r1, r2, r3, r4, r5, r6⟩ := stCells P b (off + i * sz + j) T fz (SV.dens cs) 0 _ w hb hfz (by rw [hlen]; simpa using hfit) hone
        have hsz2 := updF_len hfit
        simp only [Array.length_toList] at hsz2
        have hrow : (Chunk.row false b T off sz n cap (updF f i j cs)).sat ro [(b, .cells (arr.toList.take (off + i * sz + j) ++ SV.dens cs ++ arr.toList.drop (off + i * sz + j + (SV.dens cs).length)).toArray T fz)] := by
          refine ⟨_, fz, rfl, by rw [hsz2]; exact hfz, hn, by rw [hsz2]; exact hsz, fun i' j' hi' hj' => ?_⟩
          have hold := hcell i' j' hi' hj'
          have hmi' := hmul i' hi'
          by_cases hin : i' = i ∧ j ≤ j' ∧ j' < j + cs.length
          · obtain ⟨rfl, a1, a2⟩ := hin
            have hu : updF f i' j cs i' j' = cs[j' - j]'(by omega) := by
              have e1 : Nat.ble j j' = true := by rw [Nat.ble_eq]; exact a1
              have e2 : Nat.blt j' (j + cs.length) = true := by rw [Nat.blt_eq]; exact a2
              simp only [updF, BEq.rfl, e1, e2, Bool.and_self, cond_true]
              rw [List.getD_eq_getElem?_getD, List.getElem?_eq_getElem (by omega)]
              rfl
            rw [hu]
            refine ⟨?_, oks_iff.1 hok _ (List.getElem_mem _)⟩
            rw [List.getElem?_toArray, over_get _ _ _ _ (by rw [hlen]; exact hfit), if_pos (by rw [hlen]; omega), dens_eq, List.getElem?_map, show off + i' * sz + j' - (off + i' * sz + j) = j' - j by omega,
              List.getElem?_eq_getElem (by omega)]
            rfl
          · have hu : updF f i j cs i' j' = f i' j' := by
              unfold updF
              have : (i' == i && (Nat.ble j j' && Nat.blt j' (j + cs.length))) = false := by
                rw [Bool.eq_false_iff]
                intro h
                simp only [Bool.and_eq_true, beq_iff_eq, Nat.ble_eq, Nat.blt_eq] at h
                exact hin h
              rw [this, cond_false]
            rw [hu]
            refine ⟨?_, hold.2⟩
            rw [List.getElem?_toArray, over_get _ _ _ _ (by rw [hlen]; exact hfit), if_neg, Array.getElem?_toList]
            · exact hold.1
            · rw [hlen]
              rintro ⟨a1, a2⟩
              rcases Nat.lt_trichotomy i' i with h | h | h
              · have : (i' + 1) * sz ≤ i * sz := Nat.mul_le_mul_right sz (by omega)
                rw [Nat.add_mul, Nat.one_mul] at this
                omega
              · subst h
                exact hin ⟨rfl, by omega, by omega⟩
              · have : (i + 1) * sz ≤ i' * sz := Nat.mul_le_mul_right sz (by omega)
                rw [Nat.add_mul, Nat.one_mul] at this
                omega
        obtain ⟨H', g'⟩ := hput b _ _ _ w' rfl hrow r2 r3 r4 (by simpa using r5) r6
        exact ⟨_, w', H', rfl, r1, g'⟩
    · cases hv
  · cases hv

theorem stp_store {x y : Opd} {n : Nat} {ps : List SOp} {l : List (SOp × List SOp)} {sx sy : SV} {cs : List SV} {hp' : List Chunk} {vc : Prop} (hx : opv st.env x = some sx) (hy : opv st.env y = some sy) (hcs : cellsOf sy = some cs)
    (hn : cs.length = n) (h1 : ones cs) (hv : stV st.heap sx cs = some (hp', vc)) (hvc : vc) (hre : recheck S.C ⟨st.env, hp'⟩ ps) (h : Safe S (.ops l :: k) ⟨st.env, hp'⟩) :
    Stp S k l ps st (.store x y n) := by
  intro ro0 F a w o hg he
  obtain ⟨t, x0, y0, i1, i2, i3, i4, i5⟩ := ceff_inv he
  obtain ⟨ro, H, hle, g⟩ := hg
  obtain ⟨e1, _⟩ := opv_ok g i2 hx
  obtain ⟨e3, e4⟩ := opv_ok g i3 hy
  obtain ⟨e5, e6⟩ := cellsOf_ok hcs e4
  obtain ⟨ad, w', H', r1, r2, g'⟩ := stV_sound g hv hvc h1 e5 S.C.P
  have hrun : (execOp a.eval o).run S.C.P w = .ok .skip w' := by
    obtain ⟨dst, op, ty, pos, aft, gd⟩ := o
    simp only at i1
    subst i1
    have hsz : (a.eval y0).cells.size = n := by rw [e3, e6, dens_eq]; simp [hn]
    have hl : (a.eval y0).cells.toList = SV.dens cs := by rw [e3, e6]
    simp [execOp, Instr.storeAt, e1, r1, Instr.sureAddr, storeVar, sizeOf_run i4, hsz, hl, r2]
  rw [hrun]
  simp only [Oper.uponIn]
  refine ⟨_, ⟨ro, H', hle, ?_⟩, hre, h⟩
  rw [i5]
  exact g'
end
end Go.SX
