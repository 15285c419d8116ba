/- append. -/
import Derived.Test.YthlkoehifpnoeaaDoorSxM
namespace Go.SX
section
variable {S : Setup} {k : List Frag} {st : St} {C : Ctx} {ro ro0 : RO} {H F : Hp} {a : Act} {w : World}

def srcV (heap : List Chunk) (x : SV) (sz : Nat) : Option (Nat × (Nat → Nat → SV) × Prop) :=
  match x with
  | .view _ m _ sz' g => some (m, g, sz = sz')
  | .osl c nl b off n _ => match getC heap c with
    | .row nl' b' _ off' sz' n' _ f => some (n, f, nl = nl' ∧ b = b' ∧ off = off' ∧ sz = sz' ∧ n ≤ n')
    | _ => none
  | _ => none

theorem src_ok (g : G C ro H F st a w) {x : SV} {sz m : Nat} {f : Nat → Nat → SV} {vc : Prop} (hsz : 0 < sz) (hx : x.ok ro) (h : srcV st.heap x sz = some (m, f, vc)) (hvc : vc) :
    ∃ A c, x.den = .slice A m c ∧ (∀ (P : Program) (w' : World), (∀ b : Nat, w'.heap[b]? = w.heap[b]?) → (Builtin.firstCells sz m (.slice A m c)).run P w' = .ok (SV.dens (rowL f m sz)).toArray w') ∧ (∀ i j, i < m → j < sz → (f i j).ok ro) := by
  have key : ∀ (A : Option Addr) (c : Nat), (0 < m → ∃ ad, A = some ad ∧ ∀ i j, i < m → j < sz → w.cell? (ad.add (i * sz + j)) = some (f i j).den) →
      ∀ (P : Program) (w' : World), (∀ b : Nat, w'.heap[b]? = w.heap[b]?) → (Builtin.firstCells sz m (.slice A m c)).run P w' = .ok (SV.dens (rowL f m sz)).toArray w' := by
    intro A c hA P w' hw
    rcases Nat.eq_zero_or_pos m with h0 | h0
    · subst h0
      have : rowL f 0 sz = [] := by simp [rowL]
      rw [this]
      cases A <;> simp [Builtin.firstCells, SV.dens, loadCells, loadCellsFrom]
    · obtain ⟨ad, rfl, hc⟩ := hA h0
      refine run_firstCells_some (P := P) w' sz m ad m c _ (by rw [dens_eq]; simp [rowL_len]) (fun p v hv => ?_)
      rw [dens_eq] at hv
      have hcell : w'.cell? (ad.add p) = w.cell? (ad.add p) := by simp [World.cell?, hw]
      rw [hcell]
      simp only [List.getElem?_map, Option.map_eq_some_iff] at hv
      obtain ⟨s, hs, rfl⟩ := hv
      have hp : p < m * sz := by
        have := (List.getElem?_eq_some_iff.1 hs).1
        rwa [rowL_len] at this
      have hdm : p / sz * sz + p % sz = p := by rw [Nat.mul_comm]; exact Nat.div_add_mod p sz
      have hi : p / sz < m := Nat.div_lt_of_lt_mul (by rw [Nat.mul_comm]; exact hp)
      have hj : p % sz < sz := Nat.mod_lt _ hsz
      have h1 := hc (p / sz) (p % sz) hi hj
      have h2 := rowL_at f hi hj
      rw [hdm] at h1 h2
      rw [h2] at hs
      injection hs with hs
      rw [h1, hs]
  cases x <;> simp only [srcV, reduceCtorEq] at h
  case view A n cap sz' f' =>
    simp only [Option.some.injEq, Prod.mk.injEq] at h
    obtain ⟨rfl, rfl, rfl⟩ := h
    subst hvc
    simp only [SV.ok] at hx
    refine ⟨A, cap, rfl, key A cap (fun h0 => ?_), fun i j hi hj => (hx.2 i j hi hj).2⟩
    obtain ⟨⟨ad, rfl, _⟩, _⟩ := hx.2 0 0 h0 hsz
    refine ⟨ad, rfl, fun i j hi hj => ?_⟩
    obtain ⟨⟨ad', h1, h2⟩, _⟩ := hx.2 i j hi hj
    injection h1 with h1
    subst h1
    exact g.sat.cell h2
  case osl c nl b off n cap =>
    split at h
    · rename_i nl' b' T off' sz' n' cap' f' hc
      simp only [Option.some.injEq, Prod.mk.injEq] at h
      obtain ⟨rfl, rfl, rfl⟩ := h
      obtain ⟨rfl, rfl, rfl, rfl, hn⟩ := hvc
      refine ⟨_, cap, rfl, key _ cap (fun h0 => ?_), fun i j hi hj => ?_⟩
      · obtain ⟨rfl, arr, fz, hb, _, _, _, hcell, _⟩ := g.row hc (by omega)
        refine ⟨_, rfl, fun i j hi hj => ?_⟩
        rw [add_none, cell_of hb, ← Nat.add_assoc]
        exact (hcell i j (by omega) hj).1
      · obtain ⟨_, arr, fz, hb, _, _, _, hcell, _⟩ := g.row hc (by omega)
        exact (hcell i j (by omega) hj).2
    · cases h

theorem app_room {P : Program} {t t' e e' : TypeId} {i : TypeInfo} (ht : P.underlying t = some (.slice e)) (ht' : P.underlying t' = some (.slice e')) (hi : P.info? e = some i) {base : Option Addr} {n cap : Nat} {A : Option Addr} {m c : Nat} {news : List Value} {w w' : World}
    (hsrc : (Builtin.firstCells i.size m (.slice A m c)).run P w = .ok news.toArray w) (hroom : n + m ≤ cap)
    (hst : ∀ ad, base = some ad → (storeCells (ad.add (n * i.size)) news).run P w = .ok () w') (hnone : base = none → w' = w) (ty : TypeId) :
    (Builtin.append_ #[t, t'] ty #[.slice base n cap, .slice A m c]).run P w = .ok (.slice base (n + m) cap) w' := by
  cases base with
  | none =>
    have := hnone rfl
    subst this
    simp [Builtin.append_, run_underlying ht, run_underlying ht', sizeOf, typeInfo, hi, Builtin.lenOf, hroom, hsrc]
  | some ad => simp [Builtin.append_, run_underlying ht, run_underlying ht', sizeOf, typeInfo, hi, Builtin.lenOf, hroom, hsrc, hst ad rfl]

theorem app_grow {P : Program} {t t' e e' : TypeId} {i : TypeInfo} {z : Value} (ht : P.underlying t = some (.slice e)) (ht' : P.underlying t' = some (.slice e')) (hi : P.info? e = some i) (hz : i.zero = some z) {base : Option Addr} {n cap : Nat} {A : Option Addr} {m c : Nat} {olds news : List Value} {w : World}
    (hsrc : ∀ w', (∀ b : Nat, w'.heap[b]? = w.heap[b]?) → (Builtin.firstCells i.size m (.slice A m c)).run P w' = .ok news.toArray w') (hold : ∀ w', (∀ b : Nat, w'.heap[b]? = w.heap[b]?) → (Builtin.firstCells i.size n (.slice base n cap)).run P w' = .ok olds.toArray w')
    (hroom : cap < n + m) (hb0 : 0 < i.bytes) (hfit : (n + m) * i.bytes ≤ 140737488355328) (ty : TypeId) :
    ∃ nc, n + m ≤ nc ∧ (Builtin.append_ #[t, t'] ty #[.slice base n cap, .slice A m c]).run P w =
      .ok (.slice (some ⟨w.heap.size, 0, none⟩) (n + m) nc) { w with heap := w.heap.push (.cells (olds.toArray ++ news.toArray ++ Builtin.zeroCells z.cells (nc - (n + m))) e), drawn := w.drawn + 1 } := by
  have hn : ¬ (n + m ≤ cap) := by omega
  have h63 : n + m ≤ 140737488355328 := by
    have : (n + m) * 1 ≤ (n + m) * i.bytes := Nat.mul_le_mul_left _ hb0
    omega
  have h63' : ¬ (9223372036854775807 < ((n : Int) + (m : Int))) := by omega
  have h48 := growslice_fits (need := n + m) (old := cap) (by omega) hfit
  have h48' : ¬ (281474976710656 < Builtin.nextslicecap (n + m) cap * i.bytes) := by omega
  have s1 := hsrc w.drew (fun _ => rfl)
  have s2 := hold w.drew (fun _ => rfl)
  refine ⟨grownCap w (n + m) cap e, grownCap_ge w (n + m) cap e, ?_⟩
  simp [Builtin.append_, run_underlying ht, run_underlying ht', sizeOf, typeInfo, zeroValue, hi, hz, Builtin.lenOf, hn, h63', h48', Question.forced, s1, s2, newRow, grownCap]
  have e1 : (olds ++ news).toArray = olds.toArray ++ news.toArray := by simp
  rw [e1, Array.append_assoc]
  rfl

/-- the row that a grown slice owns -/
theorem row_grown {ro : RO} {b : Nat} {e : TypeId} {sz n m nc : Nat} {z : Value} {f gx : Nat → Nat → SV} (hz : z.cells.size = sz) (hnc : n + m ≤ nc) (hf : ∀ i j, i < n → j < sz → (f i j).ok ro) (hg : ∀ i j, i < m → j < sz → (gx i j).ok ro) :
    (Chunk.row false b e 0 sz (n + m) nc (appF f n gx)).sat ro [(b, .cells ((SV.dens (rowL f n sz)).toArray ++ (SV.dens (rowL gx m sz)).toArray ++ Builtin.zeroCells z.cells (nc - (n + m))) e)] := by
  have l1 : (SV.dens (rowL f n sz)).length = n * sz := by rw [dens_eq]; simp [rowL_len]
  have l2 : (SV.dens (rowL gx m sz)).length = m * sz := by rw [dens_eq]; simp [rowL_len]
  refine ⟨_, (0, 0), rfl, Fz.zero _, hnc, ?_, fun i j hi hj => ?_⟩
  · simp only [Array.size_append, List.size_toArray, l1, l2, size_zeroCells, hz, ← Nat.add_mul, Nat.zero_add]
    apply Nat.mul_le_mul_right
    omega
  · have hmul : (i + 1) * sz ≤ (n + m) * sz := Nat.mul_le_mul_right sz hi
    rw [Nat.add_mul, Nat.one_mul, Nat.add_mul] at hmul
    rw [Nat.zero_add, Array.getElem?_append_left (by simp only [Array.size_append, List.size_toArray, l1, l2]; omega)]
    unfold appF
    by_cases h : i < n
    · have hb : Nat.blt i n = true := by rw [Nat.blt_eq]; exact h
      have hm1 : (i + 1) * sz ≤ n * sz := Nat.mul_le_mul_right sz h
      rw [Nat.add_mul, Nat.one_mul] at hm1
      rw [hb, cond_true, Array.getElem?_append_left (by simp only [List.size_toArray, l1]; omega), List.getElem?_toArray, dens_eq, List.getElem?_map, rowL_at f h hj]
      exact ⟨rfl, hf i j h hj⟩
    · have hb : Nat.blt i n = false := by rw [Bool.eq_false_iff, ne_eq, Nat.blt_eq]; exact h
      have hm1 : n * sz ≤ i * sz := Nat.mul_le_mul_right sz (by omega)
      have e1 : i * sz + j - n * sz = (i - n) * sz + j := by rw [Nat.sub_mul]; omega
      rw [hb, cond_false, Array.getElem?_append_right (by simp only [List.size_toArray, l1]; omega), List.getElem?_toArray, List.size_toArray, l1, e1, dens_eq, List.getElem?_map, rowL_at gx (by omega) hj]
      exact ⟨rfl, hg _ _ (by omega) hj⟩

theorem firstCells_old (g : G C ro H F st a w) {c b off sz n cap n' cap' : Nat} {nl : Bool} {T : TypeId} {f : Nat → Nat → SV} (hsz : 0 < sz) (hc : getC st.heap c = .row nl b T off sz n' cap' f) (hn : n ≤ n') (P : Program) (w' : World) (hw : ∀ b : Nat, w'.heap[b]? = w.heap[b]?) :
    (Builtin.firstCells sz n (SV.osl c nl b off n cap).den).run P w' = .ok (SV.dens (rowL f n sz)).toArray w' ∧ ∀ i j, i < n → j < sz → (f i j).ok ro := by
  have h := src_ok (x := .osl c nl b off n cap) (sz := sz) (m := n) (f := f) (vc := nl = nl ∧ b = b ∧ off = off ∧ sz = sz ∧ n ≤ n') g hsz (by simp only [SV.ok]) (by simp [srcV, hc]) ⟨rfl, rfl, rfl, rfl, hn⟩
  obtain ⟨A, c', e1, h1, h2⟩ := h
  refine ⟨?_, h2⟩
  rw [e1]
  exact h1 P w' hw

/-- a chunk's memory is exchanged -/
theorem G.swap (g : G C ro H F st a w) {c : Nat} (hlt : c < st.heap.length) :
    ∃ H1 H2, (getC st.heap c).sat ro H1 ∧ Sat C.E ro (H1 ++ H2) w ∧ ∀ (w' : World) (H1' : Hp) (d : Chunk), d.sat ro H1' → Sat C.E ro (H1' ++ H2) w' → ∃ H', G C ro H' F ⟨st.env, setC st.heap c d⟩ a w' := by
  obtain ⟨H1, H2, hp, hs, hput⟩ := hsat_at c g.heap hlt
  refine ⟨H1, H2 ++ F, hs, g.sat.perm (by rw [← List.append_assoc]; exact hp.append_right F), fun w' H1' d hd hsat => ?_⟩
  obtain ⟨H'', hp'', hs''⟩ := hput ro d H1' (ROle.refl ro) hd
  exact ⟨H'', g.defs, g.size, hs'', hsat.perm (by rw [← List.append_assoc]; exact (hp''.append_right F).symm), g.env⟩

theorem Sat.drawn {e : Env} {ro : RO} {H : Hp} {w : World} (h : Sat e ro H w) (n : Nat) : Sat e ro H { w with drawn := n } := ⟨h.os, h.tape, h.out, h.rom, h.own, h.nod⟩

/-- append to a slice of one's own -/
theorem stp_app {d e sz bytes : Nat} {z : List Value} {so xo : Opd} {ps : List SOp} {l : List (SOp × List SOp)} {c b off n cap : Nat} {nl : Bool} {x : SV} {f gx : Nat → Nat → SV} {m : Nat} {vc : Prop}
    (hs : opv st.env so = some (.osl c nl b off n cap)) (hx : opv st.env xo = some x) (hch : getC st.heap c = .row nl b e off sz n cap f) (hsrc : srcV st.heap x sz = some (m, gx, vc)) (hvc : vc) (hones : onesF gx m sz) (hfit : (n + m) * bytes ≤ 140737488355328)
    (h : ∀ nl' b' off' cap', recheck S.C ⟨(d, .osl c nl' b' off' (n + m) cap') :: st.env, setC st.heap c (.row nl' b' e off' sz (n + m) cap' (appF f n gx))⟩ ps ∧
      Safe S (.ops l :: k) ⟨(d, .osl c nl' b' off' (n + m) cap') :: st.env, setC st.heap c (.row nl' b' e off' sz (n + m) cap' (appF f n gx))⟩) :
    Stp S k l ps st (.app d e sz bytes z so xo) := by
  intro ro0 F a w o hg he
  obtain ⟨t, t', e', s0, x0, i, v, h1, h2, h3, h4, h5, h6, h7, h8, h9, h10, h11, h12, h13, rfl, rfl, rfl⟩ := ceff_inv he
  obtain ⟨ro, H, hle, g⟩ := hg
  obtain ⟨e1, _⟩ := opv_ok g h6 hs
  obtain ⟨e2, e3⟩ := opv_ok g h7 hx
  obtain ⟨A, xc, e4, s1, s2⟩ := src_ok g h10 e3 hsrc hvc
  have hlt : c < st.heap.length := getC_lt (by rw [hch]; simp)
  have hexec : ∀ v' w', (Builtin.append_ #[t, t'] o.type #[.slice (if nl then none else some ⟨b, off, none⟩) n cap, .slice A m xc]).run S.C.P w = .ok v' w' → (execOp a.eval o).run S.C.P w = .ok (.value v') w' := by
    intro v' w' hr
    obtain ⟨dst, op, ty, pos, aft, gd⟩ := o
    simp only at h1 hr
    subst h1
    simp [execOp, resolve, invoke, builtin, e1, e2, e4, SV.den, hr]
  have done : ∀ (nl' : Bool) (b' off' cap' : Nat) (w' : World), (execOp a.eval o).run S.C.P w = .ok (.value (SV.osl c nl' b' off' (n + m) cap').den) w' →
      (∃ H', G S.C ro H' F ⟨st.env, setC st.heap c (.row nl' b' e off' i.size (n + m) cap' (appF f n gx))⟩ a w') →
      o.uponIn (fw S.C.rd) 0 S.C.P a (Next S k l ps ro0 F) (fun _ _ _ => False) ((execOp a.eval o).run S.C.P w) := by
    rintro nl' b' off' cap' w' hr ⟨H', g'⟩
    rw [hr]
    simp only [Oper.uponIn, h2]
    obtain ⟨q1, q2⟩ := h nl' b' off' cap'
    exact ⟨_, ⟨ro, H', hle, g'.put h9 (by simp only [SV.ok])⟩, q1, q2⟩
  have hold := fun (P : Program) (w' : World) (hw : ∀ b : Nat, w'.heap[b]? = w.heap[b]?) => firstCells_old (cap := cap) (n := n) g h10 hch (Nat.le_refl _) P w' hw
  obtain ⟨H1, H2, hs1, hsat, hput⟩ := g.swap hlt
  rw [hch] at hs1
  by_cases hroom : n + m ≤ cap
  · -- in its place
    cases nl with
    | true =>
      simp only [Chunk.sat, if_true] at hs1
      obtain ⟨rfl, hn0, hc0⟩ := hs1
      have hm0 : m = 0 := by omega
      have hr := app_room h3 h4 h5 (base := none) (n := n) (cap := cap) (A := A) (m := m) (c := xc) (news := SV.dens (rowL gx m i.size)) (w := w) (w' := w) (s1 S.C.P w (fun _ => rfl)) hroom (by simp) (fun _ => rfl) o.type
      exact done true b off cap w (hexec _ _ (by simpa [SV.den] using hr)) (hput w [] (.row true b e off i.size (n + m) cap (appF f n gx)) (by simp only [Chunk.sat, if_true]; exact ⟨trivial, by omega, hc0⟩) hsat)
    | false =>
      obtain ⟨arr, fz, rfl, hfz, hnc, hsz, hcell⟩ := hs1
      have hb := (hsat.own (b, .cells arr e fz) (by simp)).1
      have hlen : (SV.dens (rowL gx m i.size)).length = m * i.size := by rw [dens_eq]; simp [rowL_len]
      have hmul : (n + m) * i.size ≤ cap * i.size := Nat.mul_le_mul_right _ hroom
      rw [Nat.add_mul] at hmul
      have hfitc : off + n * i.size + (SV.dens (rowL gx m i.size)).length ≤ arr.size := by rw [hlen]; omega
      have hone : ∀ u ∈ SV.dens (rowL gx m i.size), u.oneCell' = true := by
        rw [dens_eq]
        intro u hu
        obtain ⟨s, hs, rfl⟩ := List.mem_map.1 hu
        obtain ⟨p, q, hp, hq, rfl⟩ := rowL_of h10 hs
        exact one_den (hones p q hp hq)
      obtain ⟨w', r1, r2, r3, r4, r5, r6⟩ := stCells S.C.P b (off + n * i.size) e fz (SV.dens (rowL gx m i.size)) 0 _ w hb hfz (by simpa using hfitc) hone
      have hr := app_room h3 h4 h5 (base := some ⟨b, off, none⟩) (n := n) (cap := cap) (A := A) (m := m) (c := xc) (news := SV.dens (rowL gx m i.size)) (w := w) (w' := w') (s1 S.C.P w (fun _ => rfl)) hroom
        (fun ad had => by injection had with had; subst had; rw [add_none]; exact r1) (by simp) o.type
      refine done false b off cap w' (hexec _ _ (by simpa [SV.den] using hr)) (hput w' [(b, .cells (arr.toList.take (off + n * i.size + 0) ++ SV.dens (rowL gx m i.size) ++ arr.toList.drop (off + n * i.size + 0 + (SV.dens (rowL gx m i.size)).length)).toArray e fz)] _ ?_ ?_)
      · have hsz2 : (arr.toList.take (off + n * i.size + 0) ++ SV.dens (rowL gx m i.size) ++ arr.toList.drop (off + n * i.size + 0 + (SV.dens (rowL gx m i.size)).length)).toArray.size = arr.size := by
          simp only [List.size_toArray, List.length_append, List.length_take, List.length_drop, Array.length_toList]
          omega
        refine ⟨_, fz, rfl, by rw [hsz2]; exact hfz, hroom, by rw [hsz2]; exact hsz, fun p q hp hq => ?_⟩
        have hpm : (p + 1) * i.size ≤ (n + m) * i.size := Nat.mul_le_mul_right _ hp
        rw [Nat.add_mul, Nat.one_mul, Nat.add_mul] at hpm
        rw [List.getElem?_toArray, over_get _ _ _ _ (by simpa using hfitc), Nat.add_zero, hlen]
        unfold appF
        by_cases hpn : p < n
        · have hm1 : (p + 1) * i.size ≤ n * i.size := Nat.mul_le_mul_right _ hpn
          rw [Nat.add_mul, Nat.one_mul] at hm1
          have hbl : Nat.blt p n = true := by rw [Nat.blt_eq]; exact hpn
          rw [if_neg (by omega), hbl, cond_true, Array.getElem?_toList]
          exact hcell p q hpn hq
        · have hm1 : n * i.size ≤ p * i.size := Nat.mul_le_mul_right _ (by omega)
          have hbl : Nat.blt p n = false := by rw [Bool.eq_false_iff, ne_eq, Nat.blt_eq]; exact hpn
          have e5 : off + p * i.size + q - (off + n * i.size) = (p - n) * i.size + q := by rw [Nat.sub_mul]; omega
          rw [if_pos (by omega), hbl, cond_false, e5, dens_eq, List.getElem?_map, rowL_at gx (by omega) hq]
          exact ⟨rfl, s2 _ _ (by omega) hq⟩
      · exact hsat.set r2 r3 r4 r5 r6
  · obtain ⟨nc, hnc, hr⟩ := app_grow h3 h4 h5 h8 (base := if nl then none else some ⟨b, off, none⟩) (n := n) (cap := cap) (A := A) (m := m) (c := xc) (olds := SV.dens (rowL f n i.size)) (news := SV.dens (rowL gx m i.size)) (w := w)
      (fun w' hw => s1 S.C.P w' hw) (fun w' hw => (hold S.C.P w' hw).1) (by omega) h13 hfit o.type
    have hrow := row_grown (ro := ro) (b := w.heap.size) (e := e) h11 hnc (hold S.C.P w (fun _ => rfl)).2 s2
    exact done false w.heap.size 0 nc _ (hexec _ _ hr) (hput _ _ _ hrow (((hsat.drop).alloc _).drawn _))

/-- append to a view that has no room: what was there is copied -/
theorem stp_appv {d e sz bytes : Nat} {z : List Value} {so xo : Opd} {ps : List SOp} {l : List (SOp × List SOp)} {A0 : Option Addr} {n cap sz0 : Nat} {x : SV} {f gx : Nat → Nat → SV} {m : Nat} {vc : Prop}
    (hs : opv st.env so = some (.view A0 n cap sz0 f)) (hx : opv st.env xo = some x) (hsrc : srcV st.heap x sz = some (m, gx, vc)) (hvc : vc) (hsz0 : n = 0 ∨ sz0 = sz) (hroom : cap < n + m) (hfit : (n + m) * bytes ≤ 140737488355328)
    (h : ∀ b' cap', recheck S.C ⟨(d, .osl st.heap.length false b' 0 (n + m) cap') :: st.env, st.heap ++ [.row false b' e 0 sz (n + m) cap' (appF f n gx)]⟩ ps ∧
      Safe S (.ops l :: k) ⟨(d, .osl st.heap.length false b' 0 (n + m) cap') :: st.env, st.heap ++ [.row false b' e 0 sz (n + m) cap' (appF f n gx)]⟩) :
    Stp S k l ps st (.app d e sz bytes z so xo) := by
  intro ro0 F a w o hg he
  obtain ⟨t, t', e', s0, x0, i, v, h1, h2, h3, h4, h5, h6, h7, h8, h9, h10, h11, h12, h13, rfl, rfl, rfl⟩ := ceff_inv he
  obtain ⟨ro, H, hle, g⟩ := hg
  obtain ⟨e1, e1o⟩ := opv_ok g h6 hs
  obtain ⟨e2, e3⟩ := opv_ok g h7 hx
  obtain ⟨A, xc, e4, s1, s2⟩ := src_ok g h10 e3 hsrc hvc
  have hold : (∀ w' : World, (∀ b : Nat, w'.heap[b]? = w.heap[b]?) → (Builtin.firstCells i.size n (.slice A0 n cap)).run S.C.P w' = .ok (SV.dens (rowL f n i.size)).toArray w') ∧ ∀ p q, p < n → q < i.size → (f p q).ok ro := by
    have e1o' : (SV.view A0 n cap i.size f).ok ro := by
      simp only [SV.ok] at e1o ⊢
      refine ⟨e1o.1, fun p q hp hq => ?_⟩
      rcases hsz0 with rfl | rfl
      · omega
      · exact e1o.2 p q hp hq
    obtain ⟨A', c', q1, q2, q3⟩ := src_ok (x := .view A0 n cap i.size f) (vc := i.size = i.size) g h10 e1o' rfl rfl
    simp only [SV.den, Value.slice.injEq] at q1
    obtain ⟨rfl, _, rfl⟩ := q1
    exact ⟨fun w' hw => q2 S.C.P w' hw, q3⟩
  obtain ⟨nc, hnc, hr⟩ := app_grow h3 h4 h5 h8 (base := A0) (n := n) (cap := cap) (A := A) (m := m) (c := xc) (olds := SV.dens (rowL f n i.size)) (news := SV.dens (rowL gx m i.size)) (w := w)
    (fun w' hw => s1 S.C.P w' hw) hold.1 hroom h13 hfit o.type
  have hrow := row_grown (ro := ro) (b := w.heap.size) (e := e) h11 hnc hold.2 s2
  have hrun : (execOp a.eval o).run S.C.P w = .ok (.value (.slice (some ⟨w.heap.size, 0, none⟩) (n + m) nc)) { w with heap := w.heap.push (.cells ((SV.dens (rowL f n i.size)).toArray ++ (SV.dens (rowL gx m i.size)).toArray ++ Builtin.zeroCells v.cells (nc - (n + m))) e), drawn := w.drawn + 1 } := by
    obtain ⟨dst, op, ty, pos, aft, gd⟩ := o
    simp only at h1 hr
    subst h1
    simp [execOp, resolve, invoke, builtin, e1, e2, e4, SV.den, hr]
  rw [hrun]
  simp only [Oper.uponIn, h2]
  obtain ⟨q1, q2⟩ := h w.heap.size nc
  have g1 := g.alloc hrow
  have g2 : G S.C ro _ F ⟨st.env, st.heap ++ [.row false w.heap.size e 0 i.size (n + m) nc (appF f n gx)]⟩ a { w with heap := w.heap.push (.cells ((SV.dens (rowL f n i.size)).toArray ++ (SV.dens (rowL gx m i.size)).toArray ++ Builtin.zeroCells v.cells (nc - (n + m))) e), drawn := w.drawn + 1 } :=
    ⟨g1.defs, g1.size, g1.heap, g1.sat.drawn _, g1.env⟩
  exact ⟨_, ⟨ro, _, hle, g2.put (s := .osl st.heap.length false w.heap.size 0 (n + m) nc) h9 (by simp only [SV.ok])⟩, q1, q2⟩

theorem hsat_app1 {hp : List Chunk} {c : Chunk} {H1 H2 : Hp} (h1 : hsat ro hp H1) (h2 : c.sat ro H2) : hsat ro (hp ++ [c]) (H1 ++ H2) := hsat_snoc h1 h2

/-- append to nil -/
theorem stp_appn {d e sz bytes : Nat} {z : List Value} {so xo : Opd} {ps : List SOp} {l : List (SOp × List SOp)} {sz0 : Nat} {x : SV} {f0 gx : Nat → Nat → SV} {m : Nat} {vc : Prop}
    (hs : opv st.env so = some (.view none 0 0 sz0 f0)) (hx : opv st.env xo = some x) (hsrc : srcV st.heap x sz = some (m, gx, vc)) (hvc : vc) (hfit : m * bytes ≤ 140737488355328)
    (h : ∀ nl' b' off' cap', recheck S.C ⟨(d, .osl st.heap.length nl' b' off' m cap') :: st.env, st.heap ++ [.row nl' b' e off' sz m cap' gx]⟩ ps ∧
      Safe S (.ops l :: k) ⟨(d, .osl st.heap.length nl' b' off' m cap') :: st.env, st.heap ++ [.row nl' b' e off' sz m cap' gx]⟩) :
    Stp S k l ps st (.app d e sz bytes z so xo) := by
  rcases Nat.eq_zero_or_pos m with h0 | h0
  · subst h0
    intro ro0 F a w o hg he
    obtain ⟨t, t', e', s0, x0, i, v, h1, h2, h3, h4, h5, h6, h7, h8, h9, h10, h11, h12, h13, rfl, rfl, rfl⟩ := ceff_inv he
    obtain ⟨ro, H, hle, g⟩ := hg
    obtain ⟨e1, _⟩ := opv_ok g h6 hs
    obtain ⟨e2, e3⟩ := opv_ok g h7 hx
    obtain ⟨A, xc, e4, s1, s2⟩ := src_ok g h10 e3 hsrc hvc
    have hr := app_room h3 h4 h5 (base := none) (n := 0) (cap := 0) (A := A) (m := 0) (c := xc) (news := SV.dens (rowL gx 0 i.size)) (w := w) (w' := w) (s1 S.C.P w (fun _ => rfl)) (by omega) (by simp) (fun _ => rfl) o.type
    have hrun : (execOp a.eval o).run S.C.P w = .ok (.value (.slice none 0 0)) w := by
      obtain ⟨dst, op, ty, pos, aft, gd⟩ := o
      simp only at h1 hr
      subst h1
      simp [execOp, resolve, invoke, builtin, e1, e2, e4, SV.den, hr]
    rw [hrun]
    simp only [Oper.uponIn, h2]
    obtain ⟨q1, q2⟩ := h true 0 0 0
    have g' : G S.C ro H F ⟨st.env, st.heap ++ [.row true 0 e 0 i.size 0 0 gx]⟩ a w :=
      ⟨g.defs, g.size, by have := hsat_app1 g.heap (c := .row true 0 e 0 i.size 0 0 gx) (H2 := []) (by simp [Chunk.sat]); simpa using this, g.sat, g.env⟩
    exact ⟨_, ⟨ro, _, hle, g'.put (s := .osl st.heap.length true 0 0 0 0) h9 (by simp only [SV.ok])⟩, q1, q2⟩
  · refine stp_appv hs hx hsrc hvc (.inl rfl) (by omega) (by simpa using hfit) fun b' cap' => ?_
    have hf0 : appF f0 0 gx = gx := by
      funext i j
      have : Nat.blt i 0 = false := by rw [Bool.eq_false_iff, ne_eq, Nat.blt_eq]; omega
      simp only [appF, this, cond_false, Nat.sub_zero]
    have := h false b' 0 cap'
    rw [hf0]
    simpa using this
end
end Go.SX
