/- Memory that nobody writes any more; copy; maps made and never looked into; structs compared. -/
import Derived.Test.YthlkoehifpnoeaaDoorSxL
namespace Go.SX
section
variable {S : Setup} {k : List Frag} {st : St} {C : Ctx} {ro ro0 : RO} {H F : Hp} {a : Act} {w : World}

def roAdd (ro : RO) (b : Nat) (o : Obj) : RO := fun k => if k = b then some o else ro k
theorem roAdd_le {ro : RO} {b : Nat} {o : Obj} (h : ro b = none) : ROle ro (roAdd ro b o) := by
  intro k x hk
  unfold roAdd
  split
  · rename_i he
    subst he
    rw [h] at hk
    cases hk
  · exact hk

theorem Sat.freeze {e : Env} {ro : RO} {b : Nat} {o : Obj} {H : Hp} {w : World} (h : Sat e ro ((b, o) :: H) w) : Sat e (roAdd ro b o) H w ∧ ROle ro (roAdd ro b o) ∧ roAdd ro b o b = some o := by
  have hb := h.own (b, o) (by simp)
  have hnod := h.nod
  rw [List.map_cons, List.nodup_cons] at hnod
  refine ⟨⟨h.os, h.tape, h.out, fun k x hk => ?_, fun p hp => ⟨(h.own p (List.mem_cons_of_mem _ hp)).1, ?_⟩, hnod.2⟩, roAdd_le hb.2, by simp [roAdd]⟩
  · unfold roAdd at hk
    split at hk
    · rename_i he
      subst he
      injection hk with hk
      subst hk
      exact hb.1
    · exact h.rom k x hk
  · unfold roAdd
    rw [if_neg (fun he => hnod.1 (List.mem_map.2 ⟨p, hp, he⟩))]
    exact (h.own p (List.mem_cons_of_mem _ hp)).2

def frz (nl : Bool) (b off n cap sz : Nat) (f : Nat → Nat → SV) : SV := .view (if nl then none else some ⟨b, off, none⟩) n cap sz f

theorem frz_ok {ro' : RO} {nl : Bool} {b off n cap sz : Nat} {T : TypeId} {f : Nat → Nat → SV} (h : (Chunk.row nl b T off sz n cap f).sat ro H) (hle : ROle ro ro') (hin : ∀ p ∈ H, ro' p.1 = some p.2) : (frz nl b off n cap sz f).ok ro' := by
  cases nl with
  | true =>
    obtain ⟨_, rfl, rfl⟩ := h
    simp only [frz, SV.ok]
    exact ⟨Nat.le_refl _, fun i j hi => absurd hi (by omega)⟩
  | false =>
    obtain ⟨arr, fz, rfl, _, h2, h3, h4⟩ := h
    simp only [frz, SV.ok, Bool.false_eq_true, if_false]
    refine ⟨h2, fun i j hi hj => ⟨⟨_, rfl, ?_⟩, SV.ok_mono hle _ (h4 i j hi hj).2⟩⟩
    have hb : ro' b = some (.cells arr T fz) := hin (b, _) (by simp)
    rw [add_none]
    simp only [roCell, hb, Option.isSome_none, Bool.false_eq_true, if_false]
    rw [← Nat.add_assoc]
    exact (h4 i j hi hj).1

theorem hsat_snoc_inv {hp : List Chunk} {c : Chunk} {H : Hp} (h : hsat ro (hp ++ [c]) H) : ∃ H1 H2, H = H1 ++ H2 ∧ hsat ro hp H1 ∧ c.sat ro H2 := by
  obtain ⟨H1, H2, rfl, h1, H3, H4, rfl, h3, h4⟩ := hsat_append.1 h
  have h4 : H4 = [] := h4
  subst h4
  exact ⟨H1, H3, by simp, h1, h3⟩

/-- A row at the end of the memory is frozen, the value at the head of the slots with it. -/
theorem safe_frz {d c b off n cap sz : Nat} {nl : Bool} {T : TypeId} {f : Nat → Nat → SV} {env : List (Nat × SV)} {hp : List Chunk} (h : Safe S k ⟨(d, frz nl b off n cap sz f) :: env, hp⟩) :
    Safe S k ⟨(d, .osl c nl b off n cap) :: env, hp ++ [.row nl b T off sz n cap f]⟩ := by
  rintro ro0 F a w ⟨ro, H, hle, g⟩
  obtain ⟨H1, H2, rfl, h1, h2⟩ := hsat_snoc_inv g.heap
  have fin : ∀ ro', ROle ro ro' → (∀ p ∈ H2, ro' p.1 = some p.2) → Sat S.C.E ro' (H1 ++ F) w → contK S ro0 F k .normal a w := by
    intro ro' hle' hin hs
    refine h ro0 F a w ⟨ro', H1, hle.trans hle', g.defs, g.size, hsat_mono hle' h1, hs, fun t s ht => ?_⟩
    simp only [look] at ht
    cases hte : (d == t) with
    | true =>
      rw [hte, cond_true] at ht
      injection ht with ht
      subst ht
      obtain ⟨e1, _⟩ := g.env t (.osl c nl b off n cap) (by simp [look, hte])
      exact ⟨e1, frz_ok h2 hle' hin⟩
    | false =>
      rw [hte, cond_false] at ht
      obtain ⟨e1, e2⟩ := g.env t s (by simp [look, hte, ht])
      exact ⟨e1, SV.ok_mono hle' _ e2⟩
  cases nl with
  | true =>
    have h2' := h2
    obtain ⟨rfl, _⟩ := h2'
    exact fin ro (ROle.refl _) (by simp) (by simpa using g.sat)
  | false =>
    have h2' := h2
    obtain ⟨arr, fz, rfl, _⟩ := h2'
    obtain ⟨s1, s2, s3⟩ := Sat.freeze (g.sat.perm (H' := (b, .cells arr T fz) :: (H1 ++ F)) (by simp))
    exact fin _ s2 (by simpa using s3) s1

/-- what a function leaves, seen otherwise -/
theorem Spec.post {P : Program} {E : Env} {f : FuncId} {args : List SV} {heap : List Chunk} {Post Post' : SV → List Chunk → Prop} (h : Spec P E f args heap Post)
    (hp : ∀ v hp, Post v hp → Post' v hp) : Spec P E f args heap Post' := by
  intro ro F H w h1 h2 h3
  refine Calls.mono (h ro F H w h1 h2 h3) fun e w' hf => ?_
  obtain ⟨v, heap', ro', H', e1, e2, e3⟩ := hf
  exact ⟨v, heap', ro', H', e1, hp _ _ e2, e3⟩

/-- memory that is left behind -/
theorem Spec.leave {P : Program} {E : Env} {f : FuncId} {args : List SV} {heap : List Chunk} {Post Post' : SV → List Chunk → Prop} (h : Spec P E f args heap Post)
    (hp : ∀ v hp, Post v hp → ∃ hp' X, hp = hp' ++ X ∧ Post' v hp') : Spec P E f args heap Post' := by
  intro ro F H w h1 h2 h3
  refine Calls.mono (h ro F H w h1 h2 h3) fun e w' hf => ?_
  obtain ⟨v, heap', ro', H', e1, e2, e3, e4, e5, e6⟩ := hf
  obtain ⟨hp', X, rfl, hpost⟩ := hp v heap' e2
  obtain ⟨H1, H2, rfl, h1, h2⟩ := hsat_append.1 e5
  refine ⟨v, hp', ro', H1, e1, hpost, e3, e4, h1, Sat.drop (H := H2) (e6.perm ?_)⟩
  rw [← List.append_assoc]
  exact List.Perm.append_right F List.perm_append_comm

/-- one value in two ways -/
def Eqv (v v' : SV) : Prop := v'.den = v.den ∧ ∀ ro, v.ok ro → v'.ok ro
theorem Eqv.refl (v : SV) : Eqv v v := ⟨rfl, fun _ h => h⟩
theorem Eqv.nil (n : Nat) (s s' : Nat) (f f' : Nat → Nat → SV) : Eqv (.view none 0 n s f) (.view none 0 n s' f') :=
  ⟨rfl, fun ro h => by simp only [SV.ok] at h ⊢; exact ⟨h.1, fun i j hi => absurd hi (by omega)⟩⟩
theorem Eqv.view {a : Option Addr} {n c s : Nat} {f f' : Nat → Nat → SV} (h : ∀ i j, i < n → j < s → f i j = f' i j) : Eqv (.view a n c s f) (.view a n c s f') :=
  ⟨rfl, fun ro hs => by
    simp only [SV.ok] at hs ⊢
    exact ⟨hs.1, fun i j hi hj => by rw [← h i j hi hj]; exact hs.2 i j hi hj⟩⟩
def EqvL : List SV → List SV → Prop
  | [], [] => True
  | x :: xs, y :: ys => Eqv x y ∧ EqvL xs ys
  | _, _ => False
theorem EqvL.ok : ∀ {xs ys : List SV}, EqvL xs ys → SV.dens ys = SV.dens xs ∧ ∀ ro, SV.oks ro xs → SV.oks ro ys
  | [], [], _ => ⟨rfl, fun _ h => h⟩
  | x :: xs, y :: ys, h => by
    obtain ⟨h1, h2⟩ := h
    obtain ⟨i1, i2⟩ := EqvL.ok h2
    exact ⟨by simp [SV.dens, h1.1, i1], fun ro h => by simp only [SV.oks] at h ⊢; exact ⟨h1.2 ro h.1, i2 ro h.2⟩⟩
  | [], _ :: _, h => h.elim
  | _ :: _, [], h => h.elim
theorem EqvL.refl : ∀ xs : List SV, EqvL xs xs
  | [] => trivial
  | x :: xs => ⟨Eqv.refl x, EqvL.refl xs⟩

def CEqv : Chunk → Chunk → Prop
  | .cells b T cs, .cells b' T' cs' => b = b' ∧ T = T' ∧ EqvL cs cs'
  | c, c' => c = c'
theorem CEqv.sat {c c' : Chunk} (h : CEqv c c') {H : Hp} (hs : c.sat ro H) : c'.sat ro H := by
  unfold CEqv at h
  split at h
  · obtain ⟨rfl, rfl, h⟩ := h
    obtain ⟨rfl, h2⟩ := hs
    obtain ⟨e1, e2⟩ := h.ok
    exact ⟨by rw [e1], e2 ro h2⟩
  · subst h
    exact hs
theorem CEqv.refl (c : Chunk) : CEqv c c := by cases c <;> simp [CEqv, EqvL.refl]
def HEqv : List Chunk → List Chunk → Prop
  | [], [] => True
  | x :: xs, y :: ys => CEqv x y ∧ HEqv xs ys
  | _, _ => False
theorem HEqv.refl : ∀ xs : List Chunk, HEqv xs xs
  | [] => trivial
  | x :: xs => ⟨CEqv.refl x, HEqv.refl xs⟩
theorem HEqv.sat {ro : RO} : ∀ {xs ys : List Chunk}, HEqv xs ys → ∀ {H : Hp}, hsat ro xs H → hsat ro ys H
  | [], [], _, _, h => h
  | _ :: _, _ :: _, h, _, hs => by
    obtain ⟨H1, H2, he, h1, h2⟩ := hs
    exact ⟨H1, H2, he, h.1.sat h1, HEqv.sat h.2 h2⟩
  | [], _ :: _, h, _, _ => h.elim
  | _ :: _, [], h, _, _ => h.elim

theorem Spec.conv {P : Program} {E : Env} {f : FuncId} {args : List SV} {heap : List Chunk} {Post Post' : SV → List Chunk → Prop} (h : Spec P E f args heap Post)
    (hp : ∀ v hp, Post v hp → ∃ v' hp' X, Eqv v v' ∧ HEqv hp (hp' ++ X) ∧ Post' v' hp') : Spec P E f args heap Post' := by
  intro ro F H w h1 h2 h3
  refine Calls.mono (h ro F H w h1 h2 h3) fun e w' hf => ?_
  obtain ⟨v, heap', ro', H', rfl, e2, e3, e4, e5, e6⟩ := hf
  obtain ⟨v', hp', X, q1, q2, q3⟩ := hp v heap' e2
  obtain ⟨H1, H2, rfl, h1, h2⟩ := hsat_append.1 (q2.sat e5)
  refine ⟨v', hp', ro', H1, by rw [q1.1], q3, e3, q1.2 _ e4, h1, Sat.drop (H := H2) (e6.perm ?_)⟩
  rw [← List.append_assoc]
  exact List.Perm.append_right F List.perm_append_comm

/-- memory and slots seen otherwise -/
theorem Sub.eqv {st st' : St} {X : List Chunk} (he : ∀ t s, look st'.env t = some s → ∃ s', look st.env t = some s' ∧ Eqv s' s) (hh : HEqv st.heap (st'.heap ++ X)) : Sub st st' := by
  refine ⟨fun t s ht => ?_, fun ro H hs => ?_⟩
  · obtain ⟨s', h1, h2, h3⟩ := he t s ht
    exact ⟨s', h1, h2.symm, fun ro h => h3 ro h⟩
  · obtain ⟨H1, H2, rfl, h1, _⟩ := hsat_append.1 (hh.sat hs)
    exact ⟨H1, H2, List.Perm.refl _, h1⟩

/-- a row that is handed back is frozen; other memory is left -/
theorem Spec.frz {P : Program} {E : Env} {f : FuncId} {args : List SV} {heap : List Chunk} {Post Post' : SV → List Chunk → Prop} (h : Spec P E f args heap Post)
    (hp : ∀ v hp, Post v hp → (∃ v', Eqv v v' ∧ Post' v' []) ∨ ∃ c nl b T off sz n cap f, v = .osl c nl b off n cap ∧ (∃ X, hp = .row nl b T off sz n cap f :: X) ∧ Post' (frz nl b off n cap sz f) []) : Spec P E f args heap Post' := by
  intro ro F H w h1 h2 h3
  refine Calls.mono (h ro F H w h1 h2 h3) fun e w' hf => ?_
  obtain ⟨v, heap', ro', H', rfl, e2, e3, e4, e5, e6⟩ := hf
  rcases hp v heap' e2 with ⟨v', q1, q2⟩ | ⟨c, nl, b, T, off, sz, n, cap, f, rfl, ⟨X, rfl⟩, hpost⟩
  · refine ⟨v', [], ro', [], by rw [q1.1], q2, e3, q1.2 _ e4, rfl, Sat.drop (H := H') (e6.perm ?_)⟩
    simp
  obtain ⟨H1, H2, rfl, h2, h1⟩ := e5
  have e6' : Sat E ro' (H1 ++ F) w' := by
    refine Sat.drop (H := H2) (e6.perm ?_)
    rw [← List.append_assoc]
    exact List.Perm.append_right F List.perm_append_comm
  cases nl with
  | true =>
    have h2' := h2
    obtain ⟨rfl, _⟩ := h2'
    exact ⟨SX.frz true b off n cap sz f, [], ro', [], rfl, hpost, e3, frz_ok h2 (ROle.refl _) (by simp), rfl, by simpa using e6'⟩
  | false =>
    have h2' := h2
    obtain ⟨arr, fz, rfl, _⟩ := h2'
    obtain ⟨s1, s2, s3⟩ := Sat.freeze (o := .cells arr T fz) (b := b) (H := F) (by simpa using e6')
    exact ⟨SX.frz false b off n cap sz f, [], _, [], rfl, hpost, e3.trans s2, frz_ok h2 s2 (by simpa using s3), rfl, by simpa using s1⟩


theorem Spec.of_ok {P : Program} {E : Env} {f : FuncId} {args : List SV} {heap : List Chunk} {Post : SV → List Chunk → Prop} (h : (∃ ro, SV.oks ro args) → Spec P E f args heap Post) : Spec P E f args heap Post :=
  fun ro F H w h1 h2 h3 => h ⟨ro, h2⟩ ro F H w h1 h2 h3
theorem view_nil {a : Option Addr} {n cap sz : Nat} {f : Nat → Nat → SV} (h : (SV.view a n cap sz f).ok ro) (hsz : 0 < sz) (ha : a.isNone = true) : n = 0 := by
  simp only [SV.ok] at h
  rcases Nat.eq_zero_or_pos n with h0 | h0
  · exact h0
  · obtain ⟨⟨ad, rfl, _⟩, _⟩ := h.2 0 0 h0 hsz
    cases ha

def ovF (g : Nat → Nat → SV) (m : Nat) (f : Nat → Nat → SV) : Nat → Nat → SV := fun i j => bif Nat.blt i m then g i j else f i j

/-- rows laid over the first rows of an own row -/
theorem stRows (g : G C ro H F st a w) {c b off sz n cap m : Nat} {T : TypeId} {f gx : Nat → Nat → SV} (hc : getC st.heap c = .row false b T off sz n cap f) (hsz : 0 < sz) (hm : m ≤ n)
    (h1 : onesF gx m sz) (hok : ∀ i j, i < m → j < sz → (gx i j).ok ro) (P : Program) :
    ∃ w' H', (storeCells ⟨b, off, none⟩ (SV.dens (rowL gx m sz))).run P w = .ok () w' ∧ G C ro H' F ⟨st.env, setC st.heap c (.row false b T off sz n cap (ovF gx m f))⟩ a w' := by
  obtain ⟨H1, hs, hmem, hput⟩ := g.putChunk (c := c) (getC_lt (by rw [hc]; simp))
  rw [hc] at hs
  obtain ⟨arr, fz, rfl, hfz, hn, hsize, hcell⟩ := hs
  have hb := hmem _ (List.mem_singleton.2 rfl)
  have hlen : (SV.dens (rowL gx m sz)).length = m * sz := by rw [dens_eq]; simp [rowL_len]
  have hmn : m * sz ≤ n * sz := Nat.mul_le_mul_right _ hm
  have hnc : n * sz ≤ cap * sz := Nat.mul_le_mul_right _ hn
  have hone : ∀ v ∈ SV.dens (rowL gx m sz), v.oneCell' = true := by
    rw [dens_eq]
    intro v hv
    obtain ⟨s, hs, rfl⟩ := List.mem_map.1 hv
    obtain ⟨i, j, hi, hj, rfl⟩ := rowL_of hsz hs
    exact one_den (h1 i j hi hj)
  obtain ⟨w', r1, r2, r3, r4, r5, r6⟩ := stCells P b off T fz (SV.dens (rowL gx m sz)) 0 _ w hb hfz (by rw [hlen]; simpa using (by omega : off + m * sz ≤ arr.size)) hone
  have hrow : (Chunk.row false b T off sz n cap (ovF gx m f)).sat ro [(b, .cells (arr.toList.take (off + 0) ++ SV.dens (rowL gx m sz) ++ arr.toList.drop (off + 0 + (SV.dens (rowL gx m sz)).length)).toArray T fz)] := by
    have hsz2 : ((arr.toList.take (off + 0) ++ SV.dens (rowL gx m sz) ++ arr.toList.drop (off + 0 + (SV.dens (rowL gx m sz)).length)).toArray).size = arr.size := by
      simp [hlen]
      omega
    refine ⟨_, fz, rfl, by rw [hsz2]; exact hfz, hn, by rw [hsz2]; exact hsize, fun i j hi hj => ?_⟩
    have hold := hcell i j hi hj
    have hmi : i * sz + j < n * sz := by
      have : (i + 1) * sz ≤ n * sz := Nat.mul_le_mul_right sz hi
      rw [Nat.add_mul, Nat.one_mul] at this
      omega
    rw [List.getElem?_toArray, Nat.add_zero, over_get _ _ _ _ (by rw [hlen]; simp; omega)]
    by_cases him : i < m
    · have e : Nat.blt i m = true := by rw [Nat.blt_eq]; exact him
      have hlt : i * sz + j < m * sz := by
        have : (i + 1) * sz ≤ m * sz := Nat.mul_le_mul_right sz him
        rw [Nat.add_mul, Nat.one_mul] at this
        omega
      rw [if_pos (by rw [hlen]; omega)]
      simp only [ovF, e, cond_true]
      refine ⟨?_, hok i j him hj⟩
      rw [show off + i * sz + j - off = i * sz + j by omega, dens_eq, List.getElem?_map, rowL_at gx him hj]
      rfl
    · have e : Nat.blt i m = false := by rw [Bool.eq_false_iff, ne_eq, Nat.blt_eq]; exact him
      have hge : m * sz ≤ i * sz := Nat.mul_le_mul_right sz (by omega)
      rw [if_neg (by rw [hlen]; omega)]
      simp only [ovF, e, cond_false]
      rw [Array.getElem?_toList]
      exact hold
  obtain ⟨H', g'⟩ := hput b _ _ _ w' rfl hrow r2 r3 r4 (by simpa using r5) r6
  exact ⟨w', H', r1, g'⟩

/-- copy onto an own row that is long enough -/
theorem stp_copy {d : Nat} {x y : Operand} {t t' ty e : TypeId} {ps : List SOp} {l : List (SOp × List SOp)} {c b off sz n cap m : Nat} {T : TypeId} {f gx : Nat → Nat → SV} {sx : SV} {vc : Prop} {xo yo : Opd} (hxo : copd x = some xo) (hyo : copd y = some yo)
    (hu : S.C.P.underlying t = some (.slice e)) (he : szOf S.C.P e = some sz) (hsz : 0 < sz) (hx : opv st.env xo = some (.osl c false b off n cap)) (hc : getC st.heap c = .row false b T off sz n cap f)
    (hy : opv st.env yo = some sx) (hsrc : srcV st.heap sx sz = some (m, gx, vc)) (hvc : vc) (hm : m ≤ n) (h1 : onesF gx m sz)
    (hre : recheck S.C ⟨(d, .val (.int .i64 m)) :: st.env, setC st.heap c (.row false b T off sz n cap (ovF gx m f))⟩ ps)
    (h : Safe S (.ops l :: k) ⟨(d, .val (.int .i64 m)) :: st.env, setC st.heap c (.row false b T off sz n cap (ovF gx m f))⟩) :
    Stp S k l ps st (.oth (some d) (.call { callee := .builtin .copy, args := #[x, y], argTypes := #[t, t'] }) ty) := by
  intro ro0 F a w o hg hce
  obtain ⟨i1, i2, i3, i4⟩ := ceff_inv hce
  obtain ⟨ro, H, hle, g⟩ := hg
  obtain ⟨e1, _⟩ := opv_ok g hxo hx
  obtain ⟨e2, e3⟩ := opv_ok g hyo hy
  obtain ⟨A, xc, e4, s1, s2⟩ := src_ok g hsz e3 hsrc hvc
  obtain ⟨w', H', r1, g'⟩ := stRows g hc hsz hm h1 s2 S.C.P
  have hrun : (execOp a.eval o).run S.C.P w = .ok (.value (.int .i64 m)) w' := by
    obtain ⟨dst, op, ty', pos, aft, gd⟩ := o
    simp only at i1
    subst i1
    have hmin : Nat.min m n = m := Nat.min_eq_left hm
    have hs1 := s1 S.C.P w (fun _ => rfl)
    simp [execOp, resolve, invoke, builtin, Builtin.copy_, e1, e2, e4, SV.den, run_underlying hu, Builtin.lenOf, sizeOf_run he, hmin, hs1, r1, goInt]
  rw [hrun]
  simp only [Oper.uponIn, i2]
  exact ⟨_, ⟨ro, H', hle, g'.put (s := .val (.int .i64 m)) (by simpa using i4) (by simp only [SV.ok])⟩, hre, h⟩

/-- a map made: a block of its own -/
def mapC (b : Nat) : Chunk := .abs ⟨fun _ H => H = [(b, .map #[] 0)], fun _ _ _ _ h => h⟩

theorem stp_mkmap {d : Nat} {t ty : TypeId} {ps : List SOp} {l : List (SOp × List SOp)}
    (h : ∀ b, recheck S.C ⟨(d, .val (.map (some b))) :: st.env, st.heap ++ [mapC b]⟩ ps ∧ Safe S (.ops l :: k) ⟨(d, .val (.map (some b))) :: st.env, st.heap ++ [mapC b]⟩) :
    Stp S k l ps st (.oth (some d) (.makeMap t none) ty) := by
  intro ro0 F a w o hg hce
  obtain ⟨i1, i2, i3, i4⟩ := ceff_inv hce
  obtain ⟨ro, H, hle, g⟩ := hg
  have hrun : (execOp a.eval o).run S.C.P w = .ok (.value (.map (some w.heap.size))) { w with heap := w.heap.push (.map #[] 0) } := by
    obtain ⟨dst, op, ty', pos, aft, gd⟩ := o
    simp only at i1
    subst i1
    simp [execOp, Instr.makeMap]
  rw [hrun]
  simp only [Oper.uponIn, i2]
  obtain ⟨k1, k2⟩ := h w.heap.size
  have g1 := g.alloc (o := .map #[] 0) (c := mapC w.heap.size) rfl
  exact ⟨_, ⟨ro, _, hle, g1.put (s := .val (.map (some w.heap.size))) (by simpa using i4) (by simp only [SV.ok])⟩, k1, k2⟩
end
end Go.SX
