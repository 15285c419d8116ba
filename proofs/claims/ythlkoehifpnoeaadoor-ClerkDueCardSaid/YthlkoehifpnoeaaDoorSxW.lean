/- Chunks opened and shut; maps. -/
import Derived.Test.YthlkoehifpnoeaaDoorSxU
import Derived.MapKept
import Derived.Maps.RangeRun
namespace Go.SX
open Go.ChangeMaps (setBlock)

/-- chunks, in whatever order, as one -/
def sepC (cs : List Chunk) : Chunk := .abs ⟨fun ro H => ∃ H', H.Perm H' ∧ hsat ro cs H', fun _ _ _ h ⟨H', h1, h2⟩ => ⟨H', h1, hsat_mono h h2⟩⟩
def exC {ι : Type} (F : ι → Chunk) : Chunk := .abs ⟨fun ro H => ∃ x, (F x).sat ro H, fun _ _ _ h ⟨x, hx⟩ => ⟨x, Chunk.sat_mono h hx⟩⟩
/-- and a fact beside -/
def andC (p : Prop) (c : Chunk) : Chunk := .abs ⟨fun ro H => p ∧ c.sat ro H, fun _ _ _ h ⟨x, hx⟩ => ⟨x, Chunk.sat_mono h hx⟩⟩

section
variable {S : Setup} {k : List Frag} {st : St} {C : Ctx} {ro ro0 : RO} {H F : Hp} {a : Act} {w : World} {env : List (Nat × SV)} {hp : List Chunk}

theorem getC_app_lt : ∀ {l r : List Chunk} {n : Nat}, n < l.length → getC (l ++ r) n = getC l n
  | [], _, _, h => by simp at h
  | _ :: _, _, 0, _ => rfl
  | _ :: l, r, n + 1, h => getC_app_lt (l := l) (by simpa using h)
theorem getC_app_len : ∀ {l r : List Chunk}, getC (l ++ r) l.length = getC r 0
  | [], r => rfl
  | _ :: l, r => getC_app_len (l := l)
theorem setC_app_lt : ∀ {l r : List Chunk} {n : Nat} {d : Chunk}, n < l.length → setC (l ++ r) n d = setC l n d ++ r
  | [], _, _, _, h => by simp at h
  | _ :: _, _, 0, _, _ => rfl
  | c :: l, r, n + 1, d, h => by
    show c :: setC (l ++ r) n d = c :: (setC l n d ++ r)
    rw [setC_app_lt (l := l) (by simpa using h)]

/-- the heap seen otherwise, up to order -/
theorem safe_hp {hp' : List Chunk} (hh : ∀ ro H, hsat ro hp H → ∃ H' X, H.Perm (H' ++ X) ∧ hsat ro hp' H') (h : Safe S k ⟨env, hp'⟩) : Safe S k ⟨env, hp⟩ :=
  Safe.sub (st := ⟨env, hp⟩) (st' := ⟨env, hp'⟩) ⟨fun _ s ht => ⟨s, ht, rfl, fun _ h => h⟩, hh⟩ h

theorem safe_ex {ι : Type} {Φ : ι → Chunk} (c : Nat) (hc : getC hp c = exC Φ) (h : ∀ x, Safe S k ⟨env, setC hp c (Φ x)⟩) : Safe S k ⟨env, hp⟩ := by
  rintro ro0 F a w ⟨ro, H, hle, g⟩
  have hlt : c < hp.length := getC_lt (by rw [hc]; simp [exC])
  obtain ⟨H1, H2, hp1, hs, hput⟩ := hsat_at c g.heap hlt
  rw [hc] at hs
  obtain ⟨x, hx⟩ := hs
  obtain ⟨H'', hp2, hs2⟩ := hput ro (Φ x) H1 (ROle.refl _) hx
  exact h x ro0 F a w ⟨ro, H'', hle, g.defs, g.size, hs2, g.sat.perm ((hp1.trans hp2.symm).append_right F), g.env⟩

theorem safe_and {p : Prop} {d : Chunk} (c : Nat) (hc : getC hp c = andC p d) (h : p → Safe S k ⟨env, setC hp c d⟩) : Safe S k ⟨env, hp⟩ := by
  rintro ro0 F a w ⟨ro, H, hle, g⟩
  have hlt : c < hp.length := getC_lt (by rw [hc]; simp [andC])
  obtain ⟨H1, H2, hp1, hs, hput⟩ := hsat_at c g.heap hlt
  rw [hc] at hs
  obtain ⟨hx, hd⟩ := hs
  obtain ⟨H'', hp2, hs2⟩ := hput ro d H1 (ROle.refl _) hd
  exact h hx ro0 F a w ⟨ro, H'', hle, g.defs, g.size, hs2, g.sat.perm ((hp1.trans hp2.symm).append_right F), g.env⟩

/-- one chunk in the place of another -/
theorem hsat_repl {c : Nat} {d : Chunk} {H : Hp} (hh : ∀ H, (getC hp c).sat ro H → d.sat ro H) (h : hsat ro hp H) : hsat ro (setC hp c d) H := hsat_set c hh h

/-- chunks out of a bag: they stand at the end -/
theorem hsat_unbag {cs : List Chunk} {c : Nat} {H : Hp} (hc : getC hp c = sepC cs) (h : hsat ro hp H) : ∃ H', H.Perm H' ∧ hsat ro (setC hp c .emp ++ cs) H' := by
  have hlt : c < hp.length := getC_lt (by rw [hc]; simp [sepC])
  obtain ⟨H1, H2, hp1, hs, hput⟩ := hsat_at c h hlt
  rw [hc] at hs
  obtain ⟨K, hK, hcs⟩ := hs
  obtain ⟨H'', hp2, hs2⟩ := hput ro .emp [] (ROle.refl _) rfl
  refine ⟨H'' ++ K, ?_, hsat_append.2 ⟨H'', K, rfl, hs2, hcs⟩⟩
  refine hp1.trans ?_
  refine (List.Perm.append hK (hp2.trans (by simp)).symm).trans ?_
  exact List.perm_append_comm
theorem hsat_bag {cs : List Chunk} {c : Nat} {H : Hp} (hlt : c < hp.length) (he : getC hp c = .emp) (h : hsat ro (hp ++ cs) H) : ∃ H', H.Perm H' ∧ hsat ro (setC hp c (sepC cs)) H' := by
  obtain ⟨H1, H2, rfl, h1, h2⟩ := hsat_append.1 h
  obtain ⟨K1, K2, hp1, hs, hput⟩ := hsat_at c h1 hlt
  rw [he] at hs
  have hs : K1 = [] := hs
  subst hs
  obtain ⟨H'', hp2, hs2⟩ := hput ro (sepC cs) H2 (ROle.refl _) ⟨H2, List.Perm.refl _, h2⟩
  refine ⟨H'', ?_, hs2⟩
  refine List.Perm.trans ?_ hp2.symm
  refine (List.Perm.append_right H2 hp1).trans ?_
  simpa using List.perm_append_comm

theorem safe_unbag {cs : List Chunk} (c : Nat) (hc : getC hp c = sepC cs) (h : Safe S k ⟨env, setC hp c .emp ++ cs⟩) : Safe S k ⟨env, hp⟩ :=
  safe_hp (fun _ _ hs => by
    obtain ⟨H', h1, h2⟩ := hsat_unbag hc hs
    exact ⟨H', [], by simpa using h1, h2⟩) h
theorem safe_bag {cs : List Chunk} (c : Nat) (hlt : c < hp.length) (he : getC hp c = .emp) (h : Safe S k ⟨env, setC hp c (sepC cs)⟩) : Safe S k ⟨env, hp ++ cs⟩ :=
  safe_hp (fun _ _ hs => by
    obtain ⟨H', h1, h2⟩ := hsat_bag hlt he hs
    exact ⟨H', [], by simpa using h1, h2⟩) h

end

section
variable {κ : Type} [DecidableEq κ]
def lookE : List (κ × SV) → κ → Option SV
  | [], _ => none
  | (k, v) :: r, x => if k = x then some v else lookE r x
def setE : List (κ × SV) → κ → SV → List (κ × SV)
  | [], x, v => [(x, v)]
  | (k, u) :: r, x, v => if k = x then (k, v) :: r else (k, u) :: setE r x v
def delE : List (κ × SV) → κ → List (κ × SV)
  | [], _ => []
  | (k, u) :: r, x => if k = x then r else (k, u) :: delE r x
end

/-- how keys are said -/
structure KV (κ : Type) where
  v : κ → Value
  d : TypeDesc
  inj : ∀ x y, v x = v y → x = y
  key : ∀ x, MapKept.IsKey d (v x)

section
variable {κ : Type}

def mpArr (K : KV κ) (es : List (κ × SV)) (ro : RO) (arr : Array MapEntry) (clock : Nat) : Prop :=
  MapKept.Stamped arr clock ∧ arr.toList.map (·.key) = es.map (fun p => K.v p.1) ∧ arr.toList.map (·.val) = es.map (fun p => p.2.den) ∧ SV.oks ro (es.map (·.2))
theorem mpArr.mono {K : KV κ} {es : List (κ × SV)} {r r' : RO} (h : ROle r r') {arr : Array MapEntry} {clock : Nat} (hm : mpArr K es r arr clock) : mpArr K es r' arr clock :=
  ⟨hm.1, hm.2.1, hm.2.2.1, SV.oks_mono h _ hm.2.2.2⟩
/-- a map, known -/
def mpC (K : KV κ) (b : Nat) (es : List (κ × SV)) : Chunk := .abs ⟨fun ro H => ∃ arr clock, H = [(b, .map arr clock)] ∧ mpArr K es ro arr clock, fun _ _ _ h ⟨a, c, h1, h2⟩ => ⟨a, c, h1, h2.mono h⟩⟩
/-- a map that is ranged over, and who does -/
def mpI (K : KV κ) (b : Nat) (es : List (κ × SV)) (r : Nat) (dn : List Nat) : Chunk :=
  .abs ⟨fun ro H => ∃ arr clock, H = [(b, .map arr clock), (r, .mapIter (some b) clock (dn.map fun i => (arr.getD i default).born).toArray clock)] ∧ mpArr K es ro arr clock ∧ (∀ i ∈ dn, i < es.length), fun _ _ _ h ⟨a, c, h1, h2, h3⟩ => ⟨a, c, h1, h2.mono h, h3⟩⟩
theorem mpI_mpC {K : KV κ} {b : Nat} {es : List (κ × SV)} {r : Nat} {dn : List Nat} {ro : RO} {H : Hp} (h : (mpI K b es r dn).sat ro H) : ∃ H', H = H' ++ [(r, H[1]!.2)] ∧ (mpC K b es).sat ro H' := by
  obtain ⟨arr, clock, rfl, h1, _⟩ := h
  exact ⟨_, rfl, arr, clock, rfl, h1⟩

theorem mpArr.len {K : KV κ} {es : List (κ × SV)} {ro : RO} {arr : Array MapEntry} {clock : Nat} (h : mpArr K es ro arr clock) : arr.size = es.length := by
  have := congrArg List.length h.2.1
  simpa using this
theorem mpArr.get {K : KV κ} {es : List (κ × SV)} {ro : RO} {arr : Array MapEntry} {clock : Nat} (h : mpArr K es ro arr clock) {j : Nat} {e : MapEntry} (he : arr.toList[j]? = some e) : ∃ x v, es[j]? = some (x, v) ∧ e.key = K.v x ∧ e.val = v.den ∧ v.ok ro := by
  have h1 := congrArg (·[j]?) h.2.1
  have h2 := congrArg (·[j]?) h.2.2.1
  simp only [List.getElem?_map, he, Option.map_some] at h1 h2
  cases hj : es[j]? with
  | none => rw [hj] at h1; cases h1
  | some p =>
    obtain ⟨x, v⟩ := p
    rw [hj] at h1 h2
    simp only [Option.map_some, Option.some.injEq] at h1 h2
    refine ⟨x, v, rfl, h1, h2, oks_iff.1 h.2.2.2 v ?_⟩
    exact List.mem_map.2 ⟨(x, v), List.mem_of_getElem? hj, rfl⟩
theorem nodup_map {α β : Type} {f : α → β} : ∀ {l : List α}, (l.map f).Nodup → l.Nodup
  | [], _ => List.nodup_nil
  | x :: l, h => by
    simp only [List.map_cons, List.nodup_cons] at h ⊢
    exact ⟨fun hx => h.1 (List.mem_map.2 ⟨x, hx, rfl⟩), nodup_map h.2⟩

theorem mpArr.nodup {K : KV κ} {es : List (κ × SV)} {ro : RO} {arr : Array MapEntry} {clock : Nat} (h : mpArr K es ro arr clock) : (es.map (·.1)).Nodup := by
  have h3 := h.1.2.2
  rw [h.2.1, show es.map (fun p => K.v p.1) = (es.map (·.1)).map K.v by simp] at h3
  exact nodup_map h3
theorem mpArr.keys {K : KV κ} {es : List (κ × SV)} {ro : RO} {arr : Array MapEntry} {clock : Nat} (h : mpArr K es ro arr clock) : ∀ x ∈ arr.toList, MapKept.IsKey K.d x.key := by
  intro x hx
  have : x.key ∈ arr.toList.map (·.key) := List.mem_map.2 ⟨x, hx, rfl⟩
  rw [h.2.1] at this
  obtain ⟨p, _, hp⟩ := List.mem_map.1 this
  rw [← hp]
  exact K.key _

end
section
variable {κ : Type} [DecidableEq κ]
theorem lookE_get : ∀ {es : List (κ × SV)} {j : Nat} {x : κ} {v : SV}, (es.map (·.1)).Nodup → es[j]? = some (x, v) → lookE es x = some v
  | [], _, _, _, _, h => by simp at h
  | (k, u) :: r, 0, x, v, _, h => by
    simp only [List.getElem?_cons_zero, Option.some.injEq, Prod.mk.injEq] at h
    simp [lookE, h.1, h.2]
  | (k, u) :: r, j + 1, x, v, hn, h => by
    simp only [List.getElem?_cons_succ] at h
    simp only [List.map_cons, List.nodup_cons] at hn
    have : k ≠ x := fun e => hn.1 (List.mem_map.2 ⟨(x, v), List.mem_of_getElem? h, e.symm⟩)
    simp only [lookE, if_neg this]
    exact lookE_get hn.2 h
theorem lookE_none : ∀ {es : List (κ × SV)} {x : κ}, (∀ p ∈ es, p.1 ≠ x) → lookE es x = none
  | [], _, _ => rfl
  | (k, u) :: r, x, h => by
    simp only [lookE, if_neg (h (k, u) (by simp))]
    exact lookE_none fun p hp => h p (by simp [hp])


end
section
variable {κ : Type}
theorem mpArr.find {K : KV κ} {es : List (κ × SV)} {ro : RO} {arr : Array MapEntry} {clock : Nat} (h : mpArr K es ro arr clock) (x : κ) :
    (Instr.findNow K.d (K.v x) arr.toList 0 = some none ∧ (∀ p ∈ es, p.1 ≠ x)) ∨ ∃ j v, Instr.findNow K.d (K.v x) arr.toList 0 = some (some (j, v.den)) ∧ es[j]? = some (x, v) ∧ v.ok ro ∧ ∃ e, arr.toList[j]? = some e ∧ e.key = K.v x := by
  rcases MapKept.findNow_spec (K.key x) arr.toList 0 h.keys with ⟨h1, h2⟩ | ⟨j, e, h1, h2, h3⟩
  · refine .inl ⟨h1, fun p hp hpx => ?_⟩
    obtain ⟨i, hi, rfl⟩ := List.getElem_of_mem hp
    have hi' : i < arr.toList.length := by simpa [h.len] using hi
    obtain ⟨y, v, g1, g2, _⟩ := h.get (List.getElem?_eq_getElem hi')
    rw [List.getElem?_eq_getElem hi] at g1
    simp only [Option.some.injEq] at g1
    rw [g1] at hpx
    exact h2 _ (List.getElem_mem hi') (by rw [g2]; exact congrArg K.v hpx)
  · obtain ⟨y, v, g1, g2, g3, g4⟩ := h.get h2
    have hy : y = x := K.inj _ _ (by rw [← g2, h3])
    subst hy
    exact .inr ⟨j, v, by rw [h1, Nat.zero_add, g3], g1, g4, e, h2, h3⟩
end

section
variable {κ : Type} {S : Setup} {k : List Frag} {st : St} {C : Ctx} {ro ro0 : RO} {H F : Hp} {a : Act} {w : World} {K : KV κ}

theorem G.mp (g : G C ro H F st a w) {c b : Nat} {es : List (κ × SV)} (hc : getC st.heap c = mpC K b es) : ∃ arr clock, w.heap[b]? = some (.map arr clock) ∧ mpArr K es ro arr clock := by
  obtain ⟨H1, hs, hm, _⟩ := g.putChunk (c := c) (getC_lt (by rw [hc]; simp [mpC]))
  rw [hc] at hs
  obtain ⟨arr, clock, rfl, h1⟩ := hs
  exact ⟨arr, clock, hm (b, .map arr clock) (by simp), h1⟩

theorem oth_lookup [DecidableEq κ] {t kt e ty : TypeId} {m kx : Operand} {mo ko : Opd} {x : κ} {b : Nat} {es : List (κ × SV)} {z : Value} (c : Nat) (hmo : copd m = some mo) (hko : copd kx = some ko) (hu : C.P.underlying t = some (.map kt e)) (hk : C.P.underlying kt = some K.d)
    (hm : opv st.env mo = some (.val (.map (some b)))) (hkv : opv st.env ko = some (.val (K.v x))) (hc : getC st.heap c = mpC K b es) (hz : (C.P.info? e).bind (·.zero) = some z) :
    OthV C st (.lookup t m kx true) ty (.tup [(lookE es x).getD (.val z), .val (.bool (lookE es x).isSome)]) := by
  intro ro H F a w g
  obtain ⟨arr, clock, hb, hA⟩ := g.mp hc
  obtain ⟨e1, _⟩ := opv_ok g hmo hm
  obtain ⟨e2, _⟩ := opv_ok g hko hkv
  simp only [SV.den] at e1 e2
  have hinf : ∃ i, C.P.info? e = some i ∧ i.zero = some z := by
    cases hi : C.P.info? e with
    | none => rw [hi] at hz; cases hz
    | some i => rw [hi] at hz; exact ⟨i, rfl, hz⟩
  obtain ⟨i, hi, hz'⟩ := hinf
  have hzero : (zeroValue e).run C.P w = .ok z w := by simp [zeroValue, typeInfo, hi, hz', Result.andThen]
  have hck := MapKept.run_checkKey (w := w) hk (K.key x) arr.isEmpty 9999
  rcases hA.find x with ⟨h1, h2⟩ | ⟨j, v, h1, h2, h3, _⟩
  · have hf := MapKept.run_findKey (w := w) hk h1
    rw [lookE_none h2]
    refine ⟨?_, by simp [SV.ok, SV.oks]⟩
    simp only [execOp, oper0, Instr.lookup, Sem.run_bind, run_underlying hu, Result.andThen, e1, e2, MapKept.run_getObj_map hb, Sem.run_pure, hck, hf, hzero]
    simp [SV.den, SV.dens, Result.andThen]
  · have hf := MapKept.run_findKey (w := w) hk h1
    rw [lookE_get hA.nodup h2]
    refine ⟨?_, by simp [SV.ok, SV.oks, h3]⟩
    simp only [execOp, oper0, Instr.lookup, Sem.run_bind, run_underlying hu, Result.andThen, e1, e2, MapKept.run_getObj_map hb, Sem.run_pure, hck, hf]
    simp [SV.den, SV.dens, Result.andThen]
theorem oth_lookup1 [DecidableEq κ] {t kt e ty : TypeId} {m kx : Operand} {mo ko : Opd} {x : κ} {b : Nat} {es : List (κ × SV)} {z : Value} (c : Nat) (hmo : copd m = some mo) (hko : copd kx = some ko) (hu : C.P.underlying t = some (.map kt e)) (hk : C.P.underlying kt = some K.d)
    (hm : opv st.env mo = some (.val (.map (some b)))) (hkv : opv st.env ko = some (.val (K.v x))) (hc : getC st.heap c = mpC K b es) (hz : (C.P.info? e).bind (·.zero) = some z) :
    OthV C st (.lookup t m kx false) ty ((lookE es x).getD (.val z)) := by
  intro ro H F a w g
  obtain ⟨arr, clock, hb, hA⟩ := g.mp hc
  obtain ⟨e1, _⟩ := opv_ok g hmo hm
  obtain ⟨e2, _⟩ := opv_ok g hko hkv
  simp only [SV.den] at e1 e2
  have hinf : ∃ i, C.P.info? e = some i ∧ i.zero = some z := by
    cases hi : C.P.info? e with
    | none => rw [hi] at hz; cases hz
    | some i => rw [hi] at hz; exact ⟨i, rfl, hz⟩
  obtain ⟨i, hi, hz'⟩ := hinf
  have hzero : (zeroValue e).run C.P w = .ok z w := by simp [zeroValue, typeInfo, hi, hz', Result.andThen]
  have hck := MapKept.run_checkKey (w := w) hk (K.key x) arr.isEmpty 9999
  rcases hA.find x with ⟨h1, h2⟩ | ⟨j, v, h1, h2, h3, _⟩
  · have hf := MapKept.run_findKey (w := w) hk h1
    rw [lookE_none h2]
    refine ⟨?_, by simp [SV.ok, SV.oks]⟩
    simp only [execOp, oper0, Instr.lookup, Sem.run_bind, run_underlying hu, Result.andThen, e1, e2, MapKept.run_getObj_map hb, Sem.run_pure, hck, hf, hzero]
    simp [SV.den, SV.dens, Result.andThen]
  · have hf := MapKept.run_findKey (w := w) hk h1
    rw [lookE_get hA.nodup h2]
    refine ⟨?_, by simpa using h3⟩
    simp only [execOp, oper0, Instr.lookup, Sem.run_bind, run_underlying hu, Result.andThen, e1, e2, MapKept.run_getObj_map hb, Sem.run_pure, hck, hf]
    simp [SV.den, SV.dens, Result.andThen]
end

section
variable {κ : Type} [DecidableEq κ]
theorem setE_get : ∀ {es : List (κ × SV)} {j : Nat} {x : κ} {u v : SV}, (es.map (·.1)).Nodup → es[j]? = some (x, u) → setE es x v = es.set j (x, v)
  | [], _, _, _, _, _, h => by simp at h
  | (k, u') :: r, 0, x, u, v, _, h => by
    simp only [List.getElem?_cons_zero, Option.some.injEq, Prod.mk.injEq] at h
    simp [setE, h.1]
  | (k, u') :: r, j + 1, x, u, v, hn, h => by
    simp only [List.getElem?_cons_succ] at h
    simp only [List.map_cons, List.nodup_cons] at hn
    have : k ≠ x := fun e => hn.1 (List.mem_map.2 ⟨(x, u), List.mem_of_getElem? h, e.symm⟩)
    simp only [setE, if_neg this, List.set_cons_succ]
    rw [setE_get hn.2 h]
theorem setE_none : ∀ {es : List (κ × SV)} {x : κ} {v : SV}, (∀ p ∈ es, p.1 ≠ x) → setE es x v = es ++ [(x, v)]
  | [], _, _, _ => rfl
  | (k, u) :: r, x, v, h => by
    simp only [setE, if_neg (h (k, u) (by simp)), List.cons_append]
    rw [setE_none fun p hp => h p (by simp [hp])]
theorem delE_get : ∀ {es : List (κ × SV)} {j : Nat} {x : κ} {u : SV}, (es.map (·.1)).Nodup → es[j]? = some (x, u) → delE es x = es.eraseIdx j
  | [], _, _, _, _, h => by simp at h
  | (k, u') :: r, 0, x, u, _, h => by
    simp only [List.getElem?_cons_zero, Option.some.injEq, Prod.mk.injEq] at h
    simp [delE, h.1]
  | (k, u') :: r, j + 1, x, u, hn, h => by
    simp only [List.getElem?_cons_succ] at h
    simp only [List.map_cons, List.nodup_cons] at hn
    have : k ≠ x := fun e => hn.1 (List.mem_map.2 ⟨(x, u), List.mem_of_getElem? h, e.symm⟩)
    simp only [delE, if_neg this, List.eraseIdx_cons_succ]
    rw [delE_get hn.2 h]
theorem delE_none : ∀ {es : List (κ × SV)} {x : κ}, (∀ p ∈ es, p.1 ≠ x) → delE es x = es
  | [], _, _ => rfl
  | (k, u) :: r, x, h => by
    simp only [delE, if_neg (h (k, u) (by simp))]
    rw [delE_none fun p hp => h p (by simp [hp])]

theorem mpArr.push {K : KV κ} {es : List (κ × SV)} {ro : RO} {arr : Array MapEntry} {clock : Nat} (h : mpArr K es ro arr clock) {x : κ} {v : SV} (hx : ∀ p ∈ es, p.1 ≠ x) (hv : v.ok ro) :
    mpArr K (setE es x v) ro (arr.push { key := K.v x, val := v.den, born := clock }) (clock + 1) := by
  rw [setE_none hx]
  refine ⟨MapKept.stamped_push h.1 fun e he hk => ?_, by simp [h.2.1], by simp [h.2.2.1], oks_iff.2 fun s hs => ?_⟩
  · obtain ⟨i, hi, rfl⟩ := List.getElem_of_mem he
    obtain ⟨y, u, g1, g2, _⟩ := h.get (List.getElem?_eq_getElem hi)
    exact hx _ (List.mem_of_getElem? g1) (K.inj _ _ (by rw [← g2, hk]))
  · simp only [List.map_append, List.mem_append, List.map_cons, List.map_nil, List.mem_singleton] at hs
    rcases hs with hs | rfl
    · exact oks_iff.1 h.2.2.2 _ hs
    · exact hv
theorem modify_toList {α : Type} (arr : Array α) (j : Nat) (f : α → α) : (arr.modify j f).toList = arr.toList.modify j f := by simp
theorem mpArr.modify {K : KV κ} {es : List (κ × SV)} {ro : RO} {arr : Array MapEntry} {clock : Nat} (h : mpArr K es ro arr clock) {x : κ} {u v : SV} {j : Nat} (hj : es[j]? = some (x, u)) (hv : v.ok ro) :
    mpArr K (setE es x v) ro (arr.modify j fun e => { e with key := K.v x, val := v.den }) clock := by
  rw [setE_get h.nodup hj]
  have hjl : j < es.length := (List.getElem?_eq_some_iff.1 hj).1
  have hkey : ∀ e, arr.toList[j]? = some e → e.key = K.v x := fun e he => by
    obtain ⟨y, u', g1, g2, _⟩ := h.get he
    rw [hj] at g1
    simp only [Option.some.injEq, Prod.mk.injEq] at g1
    rw [g2, ← g1.1]
  have hjs : j < arr.size := by rw [h.len]; exact hjl
  have hget : es[j] = (x, u) := by rw [List.getElem?_eq_getElem hjl] at hj; simpa using hj
  refine ⟨MapKept.stamped_modify h.1 _ _ (fun _ _ => rfl) fun e _ he => (hkey e (by simpa using he)).symm, ?_, ?_, oks_iff.2 fun s hs => ?_⟩
  · rw [MapKept.modify_keys _ _ fun e he => (hkey e (by simpa using he)).symm, h.2.1]
    apply List.ext_getElem?
    intro i
    simp only [List.getElem?_map, List.getElem?_set]
    by_cases hi : j = i
    · subst hi; simp [hjl, hget]
    · simp [hi]
  · have h2 := h.2.2.1
    apply List.ext_getElem?
    intro i
    have h3 := congrArg (·[i]?) h2
    simp only [List.getElem?_map] at h3
    simp only [List.getElem?_map, modify_toList, List.getElem?_modify, List.getElem?_set]
    by_cases hi : j = i
    · subst hi; simp [hjl, hjs]
    · simp only [hi, if_false]
      rw [← h3]
      cases arr.toList[i]? <;> rfl
  · obtain ⟨p, hp, rfl⟩ := List.mem_map.1 hs
    rcases List.mem_or_eq_of_mem_set hp with hp | rfl
    · exact oks_iff.1 h.2.2.2 _ (List.mem_map.2 ⟨p, hp, rfl⟩)
    · exact hv
theorem eraseIdx_map' {α β : Type} (f : α → β) : ∀ (l : List α) (j : Nat), (l.eraseIdx j).map f = (l.map f).eraseIdx j
  | [], _ => rfl
  | _ :: _, 0 => rfl
  | x :: l, j + 1 => by simp [List.eraseIdx, eraseIdx_map' f l j]
theorem mpArr.erase {K : KV κ} {es : List (κ × SV)} {ro : RO} {arr : Array MapEntry} {clock : Nat} (h : mpArr K es ro arr clock) {x : κ} {u : SV} {j : Nat} (hj : es[j]? = some (x, u)) :
    mpArr K (delE es x) ro (arr.eraseIdxIfInBounds j) clock := by
  rw [delE_get h.nodup hj]
  have hjl : j < es.length := (List.getElem?_eq_some_iff.1 hj).1
  have hjs : j < arr.size := by rw [h.len]; exact hjl
  have e : (arr.eraseIdxIfInBounds j).toList = arr.toList.eraseIdx j := by simp [Array.eraseIdxIfInBounds, hjs]
  refine ⟨MapKept.stamped_erase h.1 j, ?_, ?_, oks_iff.2 fun s hs => ?_⟩
  · rw [e, eraseIdx_map', h.2.1, ← eraseIdx_map']
  · rw [e, eraseIdx_map', h.2.2.1, ← eraseIdx_map']
  · obtain ⟨p, hp, rfl⟩ := List.mem_map.1 hs
    exact oks_iff.1 h.2.2.2 _ (List.mem_map.2 ⟨p, (List.eraseIdx_sublist _ _).subset hp, rfl⟩)
end

section
variable {κ : Type} {S : Setup} {k : List Frag} {st : St} {C : Ctx} {ro ro0 : RO} {H F : Hp} {a : Act} {w : World} {K : KV κ}

theorem G.setMap (g : G C ro H F st a w) {c b : Nat} {es es' : List (κ × SV)} (hc : getC st.heap c = mpC K b es) {arr' : Array MapEntry} {clock' : Nat} (h : mpArr K es' ro arr' clock') :
    ∃ H', G C ro H' F ⟨st.env, setC st.heap c (mpC K b es')⟩ a { w with heap := w.heap.setIfInBounds b (.map arr' clock') } := by
  obtain ⟨H1, hs, hm, hput⟩ := g.putChunk (c := c) (getC_lt (by rw [hc]; simp [mpC]))
  rw [hc] at hs
  obtain ⟨arr, clock, rfl, h1⟩ := hs
  obtain ⟨r1, r2⟩ := MapKept.heap_set (o' := .map arr' clock') (hm (b, .map arr clock) (by simp))
  exact hput b _ _ (mpC K b es') _ rfl ⟨arr', clock', rfl, h⟩ rfl rfl rfl r1 r2
end

section
variable {κ : Type} [DecidableEq κ] {S : Setup} {k : List Frag} {st : St} {C : Ctx} {ro ro0 : RO} {H F : Hp} {a : Act} {w : World} {K : KV κ}

theorem stp_mapset {t kt e ty : TypeId} {m kx vx : Operand} {ps : List SOp} {l : List (SOp × List SOp)} {mo ko vo : Opd} {x : κ} {v : SV} {b : Nat} {es : List (κ × SV)} (c : Nat) (hmo : copd m = some mo) (hko : copd kx = some ko) (hvo : copd vx = some vo)
    (hu : S.C.P.underlying t = some (.map kt e)) (hk : S.C.P.underlying kt = some K.d) (hm : opv st.env mo = some (.val (.map (some b)))) (hkv : opv st.env ko = some (.val (K.v x))) (hvv : opv st.env vo = some v)
    (hc : getC st.heap c = mpC K b es) (hre : recheck S.C ⟨st.env, setC st.heap c (mpC K b (setE es x v))⟩ ps) (h : Safe S (.ops l :: k) ⟨st.env, setC st.heap c (mpC K b (setE es x v))⟩) :
    Stp S k l ps st (.oth none (.mapUpdate t m kx vx) ty) := by
  intro ro0 F a w o hg hce
  obtain ⟨i1, i2, i3, i4⟩ := ceff_inv hce
  obtain ⟨ro, H, hle, g⟩ := hg
  obtain ⟨arr, clock, hb, hA⟩ := g.mp hc
  obtain ⟨e1, _⟩ := opv_ok g hmo hm
  obtain ⟨e2, _⟩ := opv_ok g hko hkv
  obtain ⟨e3, hvok⟩ := opv_ok g hvo hvv
  simp only [SV.den] at e1 e2
  have hck := MapKept.run_checkKey (w := w) hk (K.key x) false 9999
  have fin : ∀ arr' clock', mpArr K (setE es x v) ro arr' clock' → (execOp a.eval o).run S.C.P w = .ok .skip { w with heap := w.heap.setIfInBounds b (.map arr' clock') } →
      o.uponIn (fw S.C.rd) 0 S.C.P a (Next S k l ps ro0 F) (fun _ _ _ => False) ((execOp a.eval o).run S.C.P w) := by
    intro arr' clock' hA' hrun
    obtain ⟨H', g'⟩ := g.setMap hc hA'
    rw [hrun]
    simp only [Oper.uponIn]
    refine ⟨_, ⟨ro, H', hle, ?_⟩, hre, h⟩
    rw [i2]
    exact g'
  rcases hA.find x with ⟨h1, h2⟩ | ⟨j, u, h1, h2, h3, en, h4, h5⟩
  · refine fin _ _ (hA.push h2 hvok) ?_
    have hf := MapKept.run_findKey (w := w) hk h1
    obtain ⟨dst, op, ty', pos, aft, gd⟩ := o
    simp only at i1
    subst i1
    simp only [execOp, Instr.mapUpdate, Sem.run_bind, run_underlying hu, Result.andThen, e1, e2, e3, MapKept.run_getObj_map hb, hck, hf, MapKept.run_setObj_map _ hb]
    rfl
  · refine fin _ _ (hA.modify h2 hvok) ?_
    have hf := MapKept.run_findKey (w := w) hk h1
    obtain ⟨dst, op, ty', pos, aft, gd⟩ := o
    simp only at i1
    subst i1
    have h4' : arr[j]? = some en := by simpa using h4
    simp only [execOp, Instr.mapUpdate, Sem.run_bind, run_underlying hu, Result.andThen, e1, e2, e3, MapKept.run_getObj_map hb, hck, hf, h4', Option.map_some, Option.getD_some, h5, MapKept.run_keyThatStays (K.key x), MapKept.run_setObj_map _ hb]
    rfl

theorem stp_mapdel {t kt e t' ty : TypeId} {m kx : Operand} {ps : List SOp} {l : List (SOp × List SOp)} {mo ko : Opd} {x : κ} {b : Nat} {es : List (κ × SV)} (c : Nat) (hmo : copd m = some mo) (hko : copd kx = some ko)
    (hu : S.C.P.underlying t = some (.map kt e)) (hk : S.C.P.underlying kt = some K.d) (hm : opv st.env mo = some (.val (.map (some b)))) (hkv : opv st.env ko = some (.val (K.v x)))
    (hc : getC st.heap c = mpC K b es) (hre : recheck S.C ⟨st.env, setC st.heap c (mpC K b (delE es x))⟩ ps) (h : Safe S (.ops l :: k) ⟨st.env, setC st.heap c (mpC K b (delE es x))⟩) :
    Stp S k l ps st (.oth none (.call { callee := .builtin .delete, args := #[m, kx], argTypes := #[t, t'] }) ty) := by
  intro ro0 F a w o hg hce
  obtain ⟨i1, i2, i3, i4⟩ := ceff_inv hce
  obtain ⟨ro, H, hle, g⟩ := hg
  obtain ⟨arr, clock, hb, hA⟩ := g.mp hc
  obtain ⟨e1, _⟩ := opv_ok g hmo hm
  obtain ⟨e2, _⟩ := opv_ok g hko hkv
  simp only [SV.den] at e1 e2
  have hck := MapKept.run_checkKey (w := w) hk (K.key x) arr.isEmpty 9999
  have fin : ∀ arr' clock', mpArr K (delE es x) ro arr' clock' → (execOp a.eval o).run S.C.P w = .ok (.value (.tuple #[])) { w with heap := w.heap.setIfInBounds b (.map arr' clock') } →
      o.uponIn (fw S.C.rd) 0 S.C.P a (Next S k l ps ro0 F) (fun _ _ _ => False) ((execOp a.eval o).run S.C.P w) := by
    intro arr' clock' hA' hrun
    obtain ⟨H', g'⟩ := g.setMap hc hA'
    rw [hrun]
    simp only [Oper.uponIn]
    refine ⟨_, ⟨ro, H', hle, ?_⟩, hre, h⟩
    rw [i2]
    exact g'
  rcases hA.find x with ⟨h1, h2⟩ | ⟨j, u, h1, h2, h3, en, h4, h5⟩
  · refine fin arr clock (by rw [delE_none h2]; exact hA) ?_
    have hf := MapKept.run_findKey (w := w) hk h1
    obtain ⟨dst, op, ty', pos, aft, gd⟩ := o
    simp only at i1
    subst i1
    have hd : (Builtin.delete_ #[t, t'] ty' #[.map (some b), K.v x]).run S.C.P w = .ok (.tuple #[]) { w with heap := w.heap.setIfInBounds b (.map arr clock) } := by
      simp only [Builtin.delete_, Sem.run_bind, run_underlying hu, Result.andThen, MapKept.run_getObj_map hb, hck, hf, MapKept.run_setObj_map _ hb]
      simp [run_underlying hu, Result.andThen, MapKept.run_getObj_map hb, hck, hf, MapKept.run_setObj_map _ hb]
    simp [execOp, resolve, invoke, builtin, e1, e2, hd, Result.andThen]
  · refine fin _ _ (hA.erase h2) ?_
    have hf := MapKept.run_findKey (w := w) hk h1
    obtain ⟨dst, op, ty', pos, aft, gd⟩ := o
    simp only at i1
    subst i1
    have hd : (Builtin.delete_ #[t, t'] ty' #[.map (some b), K.v x]).run S.C.P w = .ok (.tuple #[]) { w with heap := w.heap.setIfInBounds b (.map (arr.eraseIdxIfInBounds j) clock) } := by
      simp only [Builtin.delete_, Sem.run_bind, run_underlying hu, Result.andThen, MapKept.run_getObj_map hb, hck, hf, MapKept.run_setObj_map _ hb]
      simp [run_underlying hu, Result.andThen, MapKept.run_getObj_map hb, hck, hf, MapKept.run_setObj_map _ hb]
    simp [execOp, resolve, invoke, builtin, e1, e2, hd, Result.andThen]
end

section
variable {κ : Type} {S : Setup} {k : List Frag} {st : St} {C : Ctx} {ro ro0 : RO} {H F : Hp} {a : Act} {w : World} {K : KV κ}

/-- the last block of a chunk is laid anew, the world's draws may have gone on -/
theorem G.putLast (g : G C ro H F st a w) {c r : Nat} {X H2 : Hp} {o o' : Obj} {d' : Chunk} (hp : H.Perm ((X ++ [(r, o)]) ++ H2)) (hput : ∃ H'', H''.Perm ((X ++ [(r, o')]) ++ H2) ∧ hsat ro (setC st.heap c d') H'') {w1 : World} (hw : w1 = w ∨ w1 = w.drew) :
    ∃ H', G C ro H' F ⟨st.env, setC st.heap c d'⟩ a (setBlock w1 r o') := by
  obtain ⟨H'', hp'', hs''⟩ := hput
  have hsat1 : Sat C.E ro (H ++ F) w1 := by
    rcases hw with rfl | rfl
    · exact g.sat
    · exact ⟨g.sat.os, g.sat.tape, g.sat.out, g.sat.rom, g.sat.own, g.sat.nod⟩
  have hmid : ∀ z : Obj, ((X ++ [(r, z)]) ++ H2 ++ F).Perm ((r, z) :: (X ++ H2 ++ F)) := fun z => by
    rw [show (X ++ [(r, z)]) ++ H2 ++ F = X ++ (r, z) :: (H2 ++ F) by simp, show X ++ H2 ++ F = X ++ (H2 ++ F) by simp]
    exact List.perm_middle
  have s1 : Sat C.E ro ((r, o) :: (X ++ H2 ++ F)) w1 := hsat1.perm ((hp.append_right F).trans (hmid o))
  have hr : w1.heap[r]? = some o := (s1.own (r, o) (by simp)).1
  obtain ⟨q1, q2⟩ := MapKept.heap_set (o' := o') hr
  have s2 := s1.set (w' := setBlock w1 r o') (o' := o') rfl rfl rfl q1 q2
  exact ⟨H'', g.defs, g.size, hs'', s2.perm ((hp''.append_right F).trans (hmid o')).symm, g.env⟩

theorem stp_maprange {d : Nat} {t kt e ty : TypeId} {m : Operand} {ps : List SOp} {l : List (SOp × List SOp)} {mo : Opd} {b : Nat} {es : List (κ × SV)} (c : Nat) (hmo : copd m = some mo) (hu : S.C.P.underlying t = some (.map kt e))
    (hm : opv st.env mo = some (.val (.map (some b)))) (hc : getC st.heap c = mpC K b es)
    (h : ∀ r, recheck S.C ⟨(d, .val (.pointer (some ⟨r, 0, none⟩))) :: st.env, setC st.heap c (mpI K b es r [])⟩ ps ∧ Safe S (.ops l :: k) ⟨(d, .val (.pointer (some ⟨r, 0, none⟩))) :: st.env, setC st.heap c (mpI K b es r [])⟩) :
    Stp S k l ps st (.oth (some d) (.range t m) ty) := by
  intro ro0 F a w o hg hce
  obtain ⟨i1, i2, i3, i4⟩ := ceff_inv hce
  obtain ⟨ro, H, hle, g⟩ := hg
  have hlt : c < st.heap.length := getC_lt (by rw [hc]; simp [mpC])
  obtain ⟨H1, H2, hp, hs, hput⟩ := hsat_at c g.heap hlt
  rw [hc] at hs
  obtain ⟨arr, clock, rfl, hA⟩ := hs
  have hb : w.heap[b]? = some (.map arr clock) := (g.sat.own (b, .map arr clock) (List.mem_append_left _ (hp.mem_iff.2 (by simp)))).1
  obtain ⟨e1, _⟩ := opv_ok g hmo hm
  simp only [SV.den] at e1
  have hrun : (execOp a.eval o).run S.C.P w = .ok (.value (.pointer (some ⟨w.heap.size, 0, none⟩))) { w with heap := w.heap.push (.mapIter (some b) clock #[] clock) } := by
    obtain ⟨dst, op, ty', pos, aft, gd⟩ := o
    simp only at i1
    subst i1
    simp [execOp, Instr.range, e1, run_underlying hu, MapKept.run_getObj_map hb, Result.andThen]
  rw [hrun]
  simp only [Oper.uponIn, i2]
  obtain ⟨k1, k2⟩ := h w.heap.size
  obtain ⟨H'', hp2, hs2⟩ := hput ro (mpI K b es w.heap.size []) [(b, .map arr clock), (w.heap.size, .mapIter (some b) clock #[] clock)] (ROle.refl _) ⟨arr, clock, rfl, hA, by simp⟩
  have g1 : G S.C ro H'' F ⟨st.env, setC st.heap c (mpI K b es w.heap.size [])⟩ a { w with heap := w.heap.push (.mapIter (some b) clock #[] clock) } := by
    refine ⟨g.defs, g.size, hs2, (g.sat.alloc (.mapIter (some b) clock #[] clock)).perm ?_, g.env⟩
    refine List.Perm.symm ?_
    refine (hp2.append_right F).trans ?_
    refine (List.Perm.trans ?_ ((hp.append_right F).symm.cons _))
    simpa using List.Perm.swap _ _ _
  exact ⟨_, ⟨ro, _, hle, g1.put (s := .val (.pointer (some ⟨w.heap.size, 0, none⟩))) (by simpa using i4) (by simp only [SV.ok])⟩, k1, k2⟩

theorem born_eq {arr : Array MapEntry} (hn : (arr.toList.map (·.born)).Nodup) {i j : Nat} (hi : i < arr.size) (hj : j < arr.size) (h : (arr.getD i default).born = (arr.getD j default).born) : i = j := by
  have h1 : (arr.toList.map (·.born))[i]? = some (arr.getD i default).born := by simp [Array.getD, hi]
  have h2 : (arr.toList.map (·.born))[j]? = some (arr.getD j default).born := by simp [Array.getD, hj]
  exact (List.getElem?_inj (by simpa using hi) hn).1 (by rw [h1, h2, h])

theorem stp_mapnext {d : Nat} {ty : TypeId} {it : Operand} {ps : List SOp} {l : List (SOp × List SOp)} {ito : Opd} {b r : Nat} {es : List (κ × SV)} {dn : List Nat} (c : Nat) (hio : copd it = some ito) (hi : opv st.env ito = some (.val (.pointer (some ⟨r, 0, none⟩))))
    (hc : getC st.heap c = mpI K b es r dn)
    (hd : (∀ i, i < es.length → i ∈ dn) → recheck S.C ⟨(d, .tup [.val (.bool false)]) :: st.env, st.heap⟩ ps ∧ Safe S (.ops l :: k) ⟨(d, .tup [.val (.bool false)]) :: st.env, st.heap⟩)
    (hm : ∀ i x v, es[i]? = some (x, v) → i ∉ dn → recheck S.C ⟨(d, .tup [.val (.bool true), .val (K.v x), v]) :: st.env, setC st.heap c (mpI K b es r (dn ++ [i]))⟩ ps ∧
      Safe S (.ops l :: k) ⟨(d, .tup [.val (.bool true), .val (K.v x), v]) :: st.env, setC st.heap c (mpI K b es r (dn ++ [i]))⟩) :
    Stp S k l ps st (.oth (some d) (.next it false) ty) := by
  intro ro0 F a w o hg hce
  obtain ⟨i1, i2, i3, i4⟩ := ceff_inv hce
  obtain ⟨ro, H, hle, g⟩ := hg
  have hlt : c < st.heap.length := getC_lt (by rw [hc]; simp [mpI])
  obtain ⟨H1, H2, hp, hs, hput⟩ := hsat_at c g.heap hlt
  rw [hc] at hs
  obtain ⟨arr, clock, rfl, hA, hdn⟩ := hs
  have hb : w.heap[b]? = some (.map arr clock) := (g.sat.own (b, .map arr clock) (List.mem_append_left _ (hp.mem_iff.2 (by simp)))).1
  have hr : w.heap[r]? = some (.mapIter (some b) clock (dn.map fun i => (arr.getD i default).born).toArray clock) := (g.sat.own (r, _) (List.mem_append_left _ (hp.mem_iff.2 (by simp)))).1
  obtain ⟨e1, _⟩ := opv_ok g hio hi
  simp only [SV.den] at e1
  have hlen := hA.len
  rcases run_next_at (P := S.C.P) w o.type r b clock clock _ arr clock hr hb hA.1.1 (Nat.le_refl _) with ⟨h0, hrun⟩ | ⟨en, hen, w1, hw1, hrun⟩
  · have hrun' : (execOp a.eval o).run S.C.P w = .ok (.value (.tuple #[.bool false])) w := by
      obtain ⟨dst, op, ty', pos, aft, gd⟩ := o
      simp only at i1 hrun
      subst i1
      simp [execOp, e1, hrun, Result.andThen]
    obtain ⟨k1, k2⟩ := hd fun i hil => by
      have h1 : leftOf arr (dn.map fun i => (arr.getD i default).born).toArray = #[] := Array.eq_empty_of_size_eq_zero h0
      unfold leftOf at h1
      rw [Array.filter_eq_empty_iff] at h1
      have hil' : i < arr.size := by omega
      have h2 := h1 (arr.getD i default) (by simp [Array.getD, hil'])
      simp only [Bool.not_eq_true', Bool.not_eq_false, List.contains_toArray, List.contains_eq_mem, decide_eq_true_eq, List.mem_map] at h2
      obtain ⟨j, hj, hjb⟩ := h2
      have := born_eq hA.1.2.1 (by have := hdn j hj; omega) hil' hjb
      rwa [← this]
    rw [hrun']
    simp only [Oper.uponIn, i2]
    exact ⟨_, ⟨ro, H, hle, g.put (s := .tup [.val (.bool false)]) (by simpa using i4) (by simp [SV.ok, SV.oks])⟩, k1, k2⟩
  · have hmem : en ∈ arr.toList ∧ en.born ∉ dn.map fun i => (arr.getD i default).born := by
      unfold leftOf at hen
      simp at hen
      exact ⟨by simpa using hen.1, by simpa using hen.2⟩
    obtain ⟨i, hil, hie⟩ := List.getElem_of_mem hmem.1
    have hil' : i < arr.size := by simpa using hil
    have hgd : arr.getD i default = en := by simpa [Array.getD, hil'] using hie
    obtain ⟨x, v, g1, g2, g3, g4⟩ := hA.get (j := i) (e := en) (by rw [List.getElem?_eq_getElem hil, hie])
    have hni : i ∉ dn := fun hm => hmem.2 (List.mem_map.2 ⟨i, hm, by rw [hgd]⟩)
    have hrun' : (execOp a.eval o).run S.C.P w = .ok (.value (.tuple #[.bool true, K.v x, v.den])) (setBlock w1 r (.mapIter (some b) clock ((dn.map fun i => (arr.getD i default).born).toArray.push en.born) clock)) := by
      obtain ⟨dst, op, ty', pos, aft, gd⟩ := o
      simp only at i1 hrun
      subst i1
      simp [execOp, e1, hrun, Result.andThen, g2, g3]
    obtain ⟨k1, k2⟩ := hm i x v g1 hni
    have hq : (dn.map fun i => (arr.getD i default).born).toArray.push en.born = ((dn ++ [i]).map fun i => (arr.getD i default).born).toArray := by
      simp only [List.map_append, List.map_cons, List.map_nil, hgd]
      simp
    rw [hq] at hrun'
    have hlast : (mpI K b es r (dn ++ [i])).sat ro ([(b, .map arr clock)] ++ [(r, .mapIter (some b) clock ((dn ++ [i]).map fun i => (arr.getD i default).born).toArray clock)]) := by
      refine ⟨arr, clock, rfl, hA, fun j hj => ?_⟩
      rcases List.mem_append.1 hj with hj | hj
      · exact hdn j hj
      · simp at hj; omega
    obtain ⟨H', g'⟩ := g.putLast (c := c) (X := [(b, .map arr clock)]) hp (hput ro _ _ (ROle.refl _) hlast) hw1
    rw [hrun']
    simp only [Oper.uponIn, i2]
    exact ⟨_, ⟨ro, H', hle, g'.put (s := .tup [.val (.bool true), .val (K.v x), v]) (by simpa using i4) (by simp [SV.ok, SV.oks, g4])⟩, k1, k2⟩

theorem oth_entry {it : Operand} {ito : Opd} {b r i : Nat} {es : List (κ × SV)} {dn : List Nat} {ty : TypeId} {x : κ} {v : SV} (c : Nat) (hio : copd it = some ito) (hi : opv st.env ito = some (.val (.pointer (some ⟨r, 0, none⟩))))
    (hc : getC st.heap c = mpI K b es r (dn ++ [i])) (hx : es[i]? = some (x, v)) : OthV C st (.entry it) ty (.tup [.val (K.v x), v]) := by
  intro ro H F a w g
  have hlt : c < st.heap.length := getC_lt (by rw [hc]; simp [mpI])
  obtain ⟨H1, H2, hp, hs, _⟩ := hsat_at c g.heap hlt
  rw [hc] at hs
  obtain ⟨arr, clock, rfl, hA, hdn⟩ := hs
  have hb : w.heap[b]? = some (.map arr clock) := (g.sat.own (b, .map arr clock) (List.mem_append_left _ (hp.mem_iff.2 (by simp)))).1
  have hr : w.heap[r]? = some (.mapIter (some b) clock ((dn ++ [i]).map fun i => (arr.getD i default).born).toArray clock) := (g.sat.own (r, _) (List.mem_append_left _ (hp.mem_iff.2 (by simp)))).1
  obtain ⟨e1, _⟩ := opv_ok g hio hi
  simp only [SV.den] at e1
  have hil : i < es.length := (List.getElem?_eq_some_iff.1 hx).1
  have hil' : i < arr.size := by rw [hA.len]; exact hil
  have hget : arr.toList[i]? = some (arr.getD i default) := by simp [Array.getD, hil']
  obtain ⟨y, u, g1, g2, g3, g4⟩ := hA.get hget
  rw [hx] at g1
  simp only [Option.some.injEq, Prod.mk.injEq] at g1
  obtain ⟨rfl, rfl⟩ := g1
  have hq : ((dn ++ [i]).map fun i => (arr.getD i default).born).toArray = (dn.map fun i => (arr.getD i default).born).toArray.push (arr.getD i default).born := by simp
  rw [hq] at hr
  have hrun := run_entry_at (P := C.P) w r b clock _ arr clock (arr.getD i default) hr hb (List.mem_of_getElem? hget) hA.1.2.1
  refine ⟨?_, by simp [SV.ok, SV.oks, g4]⟩
  rw [g2, g3] at hrun
  simp [execOp, oper0, e1, hrun, Result.andThen, SV.den, SV.dens]

/-- who ranges over a text -/
def strI (r : Nat) (s : ByteArray) (pos : Nat) : Chunk := .abs ⟨fun _ H => H = [(r, .stringIter s pos)], fun _ _ _ _ h => h⟩
theorem stp_strrange {d : Nat} {t ty : TypeId} {m : Operand} {ps : List SOp} {l : List (SOp × List SOp)} {mo : Opd} {s : ByteArray} (hmo : copd m = some mo) (hu : S.C.P.underlying t = some .string) (hm : opv st.env mo = some (.val (.string s)))
    (h : ∀ r, recheck S.C ⟨(d, .val (.pointer (some ⟨r, 0, none⟩))) :: st.env, st.heap ++ [strI r s 0]⟩ ps ∧ Safe S (.ops l :: k) ⟨(d, .val (.pointer (some ⟨r, 0, none⟩))) :: st.env, st.heap ++ [strI r s 0]⟩) :
    Stp S k l ps st (.oth (some d) (.range t m) ty) := by
  intro ro0 F a w o hg hce
  obtain ⟨i1, i2, i3, i4⟩ := ceff_inv hce
  obtain ⟨ro, H, hle, g⟩ := hg
  obtain ⟨e1, _⟩ := opv_ok g hmo hm
  simp only [SV.den] at e1
  have hrun : (execOp a.eval o).run S.C.P w = .ok (.value (.pointer (some ⟨w.heap.size, 0, none⟩))) { w with heap := w.heap.push (.stringIter s 0) } := by
    obtain ⟨dst, op, ty', pos, aft, gd⟩ := o
    simp only at i1
    subst i1
    simp [execOp, Instr.range, e1, run_underlying hu, Result.andThen]
  rw [hrun]
  simp only [Oper.uponIn, i2]
  obtain ⟨k1, k2⟩ := h w.heap.size
  have g1 := g.alloc (o := .stringIter s 0) (c := strI w.heap.size s 0) rfl
  exact ⟨_, ⟨ro, _, hle, g1.put (s := .val (.pointer (some ⟨w.heap.size, 0, none⟩))) (by simpa using i4) (by simp only [SV.ok])⟩, k1, k2⟩
theorem stp_strnext {d : Nat} {ty : TypeId} {it : Operand} {ps : List SOp} {l : List (SOp × List SOp)} {ito : Opd} {r : Nat} {s : ByteArray} {pos : Nat} (c : Nat) (hio : copd it = some ito) (hi : opv st.env ito = some (.val (.pointer (some ⟨r, 0, none⟩))))
    (hc : getC st.heap c = strI r s pos)
    (hd : s.size ≤ pos → recheck S.C ⟨(d, .tup [.val (.bool false)]) :: st.env, st.heap⟩ ps ∧ Safe S (.ops l :: k) ⟨(d, .tup [.val (.bool false)]) :: st.env, st.heap⟩)
    (hm : pos < s.size → recheck S.C ⟨(d, .tup [.val (.bool true), .val (.int .i64 pos), .val (.int .i32 (Utf8.decode s pos).1)]) :: st.env, setC st.heap c (strI r s (pos + (Utf8.decode s pos).2))⟩ ps ∧
      Safe S (.ops l :: k) ⟨(d, .tup [.val (.bool true), .val (.int .i64 pos), .val (.int .i32 (Utf8.decode s pos).1)]) :: st.env, setC st.heap c (strI r s (pos + (Utf8.decode s pos).2))⟩) :
    Stp S k l ps st (.oth (some d) (.next it true) ty) := by
  intro ro0 F a w o hg hce
  obtain ⟨i1, i2, i3, i4⟩ := ceff_inv hce
  obtain ⟨ro, H, hle, g⟩ := hg
  have hlt : c < st.heap.length := getC_lt (by rw [hc]; simp [strI])
  obtain ⟨H1, H2, hp, hs, hput⟩ := hsat_at c g.heap hlt
  rw [hc] at hs
  have hs : H1 = [(r, .stringIter s pos)] := hs
  subst hs
  have hr : w.heap[r]? = some (.stringIter s pos) := (g.sat.own (r, .stringIter s pos) (List.mem_append_left _ (hp.mem_iff.2 (by simp)))).1
  obtain ⟨e1, _⟩ := opv_ok g hio hi
  simp only [SV.den] at e1
  rcases Nat.lt_or_ge pos s.size with hlt' | hge
  · have hrun : (execOp a.eval o).run S.C.P w = .ok (.value (.tuple #[.bool true, .int .i64 pos, .int .i32 (Utf8.decode s pos).1])) (setBlock w r (.stringIter s (pos + (Utf8.decode s pos).2))) := by
      obtain ⟨dst, op, ty', pos', aft, gd⟩ := o
      simp only at i1
      subst i1
      simp only [execOp, Instr.next, getObj, setObj, e1, Sem.run_bind, Sem.run, hr, Result.andThen, hlt', if_true]
      rfl
    obtain ⟨k1, k2⟩ := hm hlt'
    obtain ⟨H', g'⟩ := g.putLast (c := c) (X := []) (d' := strI r s (pos + (Utf8.decode s pos).2)) (o' := .stringIter s (pos + (Utf8.decode s pos).2)) hp (hput ro _ _ (ROle.refl _) rfl) (.inl rfl)
    rw [hrun]
    simp only [Oper.uponIn, i2]
    exact ⟨_, ⟨ro, H', hle, g'.put (s := .tup [.val (.bool true), .val (.int .i64 pos), .val (.int .i32 (Utf8.decode s pos).1)]) (by simpa using i4) (by simp [SV.ok, SV.oks])⟩, k1, k2⟩
  · have hrun : (execOp a.eval o).run S.C.P w = .ok (.value (.tuple #[.bool false])) w := by
      obtain ⟨dst, op, ty', pos', aft, gd⟩ := o
      simp only at i1
      subst i1
      simp only [execOp, Instr.next, getObj, setObj, e1, Sem.run_bind, Sem.run, hr, Result.andThen, if_neg (Nat.not_lt.2 hge)]
      rfl
    obtain ⟨k1, k2⟩ := hd hge
    rw [hrun]
    simp only [Oper.uponIn, i2]
    exact ⟨_, ⟨ro, H, hle, g.put (s := .tup [.val (.bool false)]) (by simpa using i4) (by simp [SV.ok, SV.oks])⟩, k1, k2⟩
end

section
variable {S : Setup} {k : List Frag} {C : Ctx} {ro : RO} {env : List (Nat × SV)} {hp : List Chunk}
theorem hsat_perm {hp hp' : List Chunk} (h : hp.Perm hp') : ∀ {H : Hp}, hsat ro hp H → ∃ H', H.Perm H' ∧ hsat ro hp' H' := by
  induction h with
  | nil => exact fun h => ⟨_, List.Perm.refl _, h⟩
  | cons x _ ih =>
    rintro H ⟨H1, H2, rfl, h1, h2⟩
    obtain ⟨H', q1, q2⟩ := ih h2
    exact ⟨H1 ++ H', List.Perm.append_left _ q1, H1, H', rfl, h1, q2⟩
  | swap x y l =>
    rintro H ⟨H1, H2, rfl, h1, H3, H4, rfl, h3, h4⟩
    refine ⟨H3 ++ (H1 ++ H4), ?_, H3, _, rfl, h3, H1, H4, rfl, h1, h4⟩
    rw [← List.append_assoc, ← List.append_assoc]
    exact List.Perm.append_right _ List.perm_append_comm
  | trans _ _ ih1 ih2 =>
    intro H h
    obtain ⟨H', q1, q2⟩ := ih1 h
    obtain ⟨H'', q3, q4⟩ := ih2 q2
    exact ⟨H'', q1.trans q3, q4⟩

/-- memory seen as other memory, with more that is left -/
def Sees (hp hp' : List Chunk) : Prop := ∀ ro H, hsat ro hp H → ∃ H' X, H.Perm (H' ++ X) ∧ hsat ro hp' H'
theorem Sees.refl (hp : List Chunk) : Sees hp hp := fun _ H h => ⟨H, [], by simp, h⟩
theorem Sees.trans {a b c : List Chunk} (h1 : Sees a b) (h2 : Sees b c) : Sees a c := fun ro H h => by
  obtain ⟨H', X, q1, q2⟩ := h1 ro H h
  obtain ⟨H'', Y, q3, q4⟩ := h2 ro H' q2
  exact ⟨H'', Y ++ X, q1.trans (by rw [← List.append_assoc]; exact q3.append_right X), q4⟩
theorem Sees.perm {a b : List Chunk} (h : a.Perm b) : Sees a b := fun ro H hs => by
  obtain ⟨H', q1, q2⟩ := hsat_perm (ro := ro) h hs
  exact ⟨H', [], by simpa using q1, q2⟩
theorem Sees.left {a X : List Chunk} : Sees (a ++ X) a := fun ro H hs => by
  obtain ⟨H1, H2, rfl, h1, _⟩ := hsat_append.1 hs
  exact ⟨H1, H2, List.Perm.refl _, h1⟩
theorem Sees.cons {x y : Chunk} {a b : List Chunk} (hx : ∀ ro H, x.sat ro H → ∃ H' X, H.Perm (H' ++ X) ∧ y.sat ro H') (h : Sees a b) : Sees (x :: a) (y :: b) := fun ro H hs => by
  obtain ⟨H1, H2, rfl, h1, h2⟩ := hs
  obtain ⟨K, X, q1, q2⟩ := hx ro H1 h1
  obtain ⟨L, Y, q3, q4⟩ := h ro H2 h2
  refine ⟨K ++ L, X ++ Y, (List.Perm.append q1 q3).trans ?_, K, L, rfl, q2, q4⟩
  rw [List.append_assoc, List.append_assoc]
  refine List.Perm.append_left _ ?_
  rw [← List.append_assoc, ← List.append_assoc]
  exact List.Perm.append_right _ List.perm_append_comm
theorem Sees.same {x : Chunk} {a b : List Chunk} (h : Sees a b) : Sees (x :: a) (x :: b) := Sees.cons (fun _ H h => ⟨H, [], by simp, h⟩) h
theorem Sees.emp {a b : List Chunk} (h : Sees a b) : Sees (.emp :: a) b := fun ro H hs => by
  obtain ⟨H1, H2, rfl, h1, h2⟩ := hs
  have h1 : H1 = [] := h1
  subst h1
  exact h ro H2 h2
theorem Sees.new {a b : List Chunk} {x : Chunk} (hx : ∀ ro, x.sat ro []) (h : Sees a b) : Sees a (x :: b) := fun ro H hs => by
  obtain ⟨H', X, q1, q2⟩ := h ro H hs
  exact ⟨H', X, q1, [], H', rfl, hx ro, q2⟩
theorem Sees.app {a b c d : List Chunk} (h1 : Sees a b) (h2 : Sees c d) : Sees (a ++ c) (b ++ d) := fun ro H hs => by
  obtain ⟨H1, H2, rfl, q1, q2⟩ := hsat_append.1 hs
  obtain ⟨K, X, r1, r2⟩ := h1 ro H1 q1
  obtain ⟨L, Y, r3, r4⟩ := h2 ro H2 q2
  refine ⟨K ++ L, X ++ Y, (List.Perm.append r1 r3).trans ?_, hsat_append.2 ⟨K, L, rfl, r2, r4⟩⟩
  rw [List.append_assoc, List.append_assoc]
  refine List.Perm.append_left _ ?_
  rw [← List.append_assoc, ← List.append_assoc]
  exact List.Perm.append_right _ List.perm_append_comm

/-- one chunk out of a bag: it stands at the end -/
theorem Sees.take {cs : List Chunk} (c i : Nat) (hc : getC hp c = sepC cs) (hi : i < cs.length) : Sees hp (setC hp c (sepC (setC cs i .emp)) ++ [getC cs i]) :=
  (fun ro H hs => by
    have hlt : c < hp.length := getC_lt (by rw [hc]; simp [sepC])
    obtain ⟨H1, H2, hp1, hs1, hput⟩ := hsat_at c hs hlt
    rw [hc] at hs1
    obtain ⟨K, hK, hcs⟩ := hs1
    obtain ⟨K1, K2, q1, q2, qput⟩ := hsat_at i hcs hi
    obtain ⟨J, j1, j2⟩ := qput ro .emp [] (ROle.refl _) rfl
    obtain ⟨H'', hp2, hs2⟩ := hput ro (sepC (setC cs i .emp)) J (ROle.refl _) ⟨J, List.Perm.refl _, j2⟩
    refine ⟨H'' ++ K1, [], ?_, hsat_snoc hs2 q2⟩
    rw [List.append_nil]
    have e1 : H.Perm (K1 ++ K2 ++ H2) := hp1.trans ((hK.trans q1).append_right H2)
    have e2 : (H'' ++ K1).Perm (K2 ++ H2 ++ K1) := (hp2.append_right K1).trans (((j1.trans (by simp)).append_right H2).append_right K1)
    refine e1.trans (List.Perm.trans ?_ e2.symm)
    rw [List.append_assoc]
    exact List.perm_append_comm)
/-- and back -/
theorem Sees.give {cs : List Chunk} {d : Chunk} (c i : Nat) (hc : getC hp c = sepC cs) (hi : i < cs.length) (he : getC cs i = .emp) : Sees (hp ++ [d]) (setC hp c (sepC (setC cs i d))) :=
  (fun ro H hs => by
    obtain ⟨H1, H2, rfl, h1, h2⟩ := hsat_snoc_inv hs
    have hlt : c < hp.length := getC_lt (by rw [hc]; simp [sepC])
    obtain ⟨K1, K2, hp1, hs1, hput⟩ := hsat_at c h1 hlt
    rw [hc] at hs1
    obtain ⟨K, hK, hcs⟩ := hs1
    obtain ⟨L1, L2, q1, q2, qput⟩ := hsat_at i hcs hi
    rw [he] at q2
    have q2 : L1 = [] := q2
    subst q2
    obtain ⟨J, j1, j2⟩ := qput ro d H2 (ROle.refl _) h2
    obtain ⟨H'', hp2, hs2⟩ := hput ro (sepC (setC cs i d)) J (ROle.refl _) ⟨J, List.Perm.refl _, j2⟩
    refine ⟨H'', [], ?_, hs2⟩
    rw [List.append_nil]
    have e1 : (H1 ++ H2).Perm (L2 ++ K2 ++ H2) := (hp1.trans ((hK.trans (q1.trans (by simp))).append_right K2)).append_right H2
    have e2 : H''.Perm (H2 ++ L2 ++ K2) := hp2.trans (j1.append_right K2)
    refine e1.trans (List.Perm.trans ?_ e2.symm)
    rw [List.append_assoc H2]
    exact List.perm_append_comm)
theorem Sees.unbag (cs : List Chunk) : Sees [sepC cs] cs := fun ro H hs => by
  obtain ⟨H1, H2, rfl, ⟨K, q1, q2⟩, h2⟩ := hs
  have h2 : H2 = [] := h2
  subst h2
  exact ⟨K, [], by simpa using q1, q2⟩
theorem Sees.bag (cs : List Chunk) : Sees cs [sepC cs] := fun ro H hs => ⟨H, [], by simp, H, [], by simp, ⟨H, List.Perm.refl _, hs⟩, rfl⟩
theorem Sees.put {hp : List Chunk} (c : Nat) {x : Chunk} (hx : ∀ ro H, (getC hp c).sat ro H → x.sat ro H) : Sees hp (setC hp c x) := fun ro H hs => ⟨H, [], by simp, hsat_set c (hx ro) hs⟩
theorem sepC_see {cs cs' : List Chunk} (h : ∀ ro H, hsat ro cs H → ∃ H', H.Perm H' ∧ hsat ro cs' H') (ro : RO) (H : Hp) (hs : (sepC cs).sat ro H) : (sepC cs').sat ro H := by
  obtain ⟨K, q1, q2⟩ := hs
  obtain ⟨K', q3, q4⟩ := h ro K q2
  exact ⟨K', q1.trans q3, q4⟩
theorem Sees.bagEnd {A : List Chunk} {x : Chunk} {X : List Chunk} : Sees (sepC A :: x :: X) (sepC (A ++ [x]) :: X) := fun ro H hs => by
  obtain ⟨H1, H2, rfl, ⟨K, q1, q2⟩, H3, H4, rfl, h3, h4⟩ := hs
  refine ⟨(H1 ++ H3) ++ H4, [], by simp, H1 ++ H3, H4, rfl, ⟨K ++ H3, q1.append_right H3, hsat_snoc q2 h3⟩, h4⟩
theorem mpC_see {κ : Type} {K : KV κ} {b : Nat} {es es' : List (κ × SV)} (h1 : es.map (·.1) = es'.map (·.1)) (h2 : es.map (fun p => p.2.den) = es'.map (fun p => p.2.den)) (h3 : ∀ ro, SV.oks ro (es.map (·.2)) → SV.oks ro (es'.map (·.2))) (ro : RO) (H : Hp) (h : (mpC K b es).sat ro H) : (mpC K b es').sat ro H := by
  obtain ⟨arr, clock, rfl, q1, q2, q3, q4⟩ := h
  refine ⟨arr, clock, rfl, q1, ?_, by rw [q3, h2], h3 ro q4⟩
  rw [q2, show es.map (fun p => K.v p.1) = (es.map (·.1)).map K.v by simp, h1]
  simp
/-- nothing, out of a bag -/
theorem hsat_emps : ∀ {cs : List Chunk} {i : Nat} {ro : RO} {H : Hp}, hsat ro (setC cs i .emp) H → i < cs.length → hsat ro (cs.eraseIdx i) H
  | [], _, _, _, _, hi => by simp at hi
  | x :: cs, 0, ro, H, ⟨H1, H2, e, h1, h2⟩, _ => by
    have h1 : H1 = [] := h1
    subst h1
    subst e
    exact h2
  | x :: cs, i + 1, ro, H, ⟨H1, H2, e, h1, h2⟩, hi => ⟨H1, H2, e, h1, hsat_emps h2 (by simpa using hi)⟩

/-- what a function leaves, seen otherwise -/
theorem Spec.sees {P : Program} {E : Env} {f : FuncId} {args : List SV} {heap : List Chunk} {Post Post' : SV → List Chunk → Prop} (h : Spec P E f args heap Post)
    (hp : ∀ v hp, Post v hp → ∃ v' hp', v'.den = v.den ∧ (∀ ro, v.ok ro → v'.ok ro) ∧ Sees hp hp' ∧ Post' v' hp') : Spec P E f args heap Post' := by
  intro ro F H w h1 h2 h3
  refine Calls.mono (h ro F H w h1 h2 h3) fun e w' hf => ?_
  obtain ⟨v, heap', ro', H', rfl, e2, e3, e4, e5, e6⟩ := hf
  obtain ⟨v', hp', q1, q2, q3, q4⟩ := hp v heap' e2
  obtain ⟨K, X, r1, r2⟩ := q3 ro' H' e5
  refine ⟨v', hp', ro', K, by rw [q1], q4, e3, q2 _ e4, r2, Sat.drop (H := X) (e6.perm ?_)⟩
  refine (r1.append_right F).trans ?_
  rw [← List.append_assoc]
  exact List.Perm.append_right F List.perm_append_comm
theorem Spec.see {P : Program} {E : Env} {f : FuncId} {args : List SV} {heap : List Chunk} {Post : SV → List Chunk → Prop} (h : Spec P E f args heap (fun v hp => ∃ hp', Sees hp hp' ∧ Post v hp')) : Spec P E f args heap Post :=
  h.sees fun v _ ⟨hp', h1, h2⟩ => ⟨v, hp', rfl, fun _ h => h, h1, h2⟩
def SeeP (Post : SV → List Chunk → Prop) (v : SV) (hp : List Chunk) : Prop := ∃ v' hp', v'.den = v.den ∧ (∀ ro, v.ok ro → v'.ok ro) ∧ Sees hp hp' ∧ Post v' hp'
theorem Spec.see2 {P : Program} {E : Env} {f : FuncId} {args : List SV} {heap : List Chunk} {Post : SV → List Chunk → Prop} (h : Spec P E f args heap (SeeP Post)) : Spec P E f args heap Post := h.sees fun _ _ h => h
/-- ahead of a call -/
theorem Spec.from {P : Program} {E : Env} {f : FuncId} {args : List SV} {heap heap' : List Chunk} {Post : SV → List Chunk → Prop} (h : Spec P E f args heap' Post) (hh : Sees heap heap') : Spec P E f args heap Post := by
  intro ro F H w h1 h2 h3
  obtain ⟨K, X, r1, r2⟩ := hh ro H h1
  refine Calls.mono (h ro (X ++ F) K w r2 h2 (h3.perm ((r1.append_right F).trans (by simp)))) fun e w' hf => ?_
  obtain ⟨v, hp', ro', H', e1, e2, e3, e4, e5, e6⟩ := hf
  refine ⟨v, hp', ro', H', e1, e2, e3, e4, e5, Sat.drop (H := X) (e6.perm ?_)⟩
  rw [← List.append_assoc, ← List.append_assoc]
  exact List.Perm.append_right F List.perm_append_comm

theorem safe_sees {hp' : List Chunk} (hh : Sees hp hp') (h : Safe S k ⟨env, hp'⟩) : Safe S k ⟨env, hp⟩ := safe_hp hh h

/-- slots seen otherwise -/
def envDen (env : List (Nat × SV)) : List (Nat × SV) → Prop
  | [] => True
  | (t, s) :: r => (∃ s0, look env t = some s0 ∧ s0.den = s.den ∧ ∀ ro, s0.ok ro → s.ok ro) ∧ envDen env r
theorem envDen_ok {env : List (Nat × SV)} : ∀ {env' : List (Nat × SV)}, envDen env env' → ∀ t s, look env' t = some s → ∃ s0, look env t = some s0 ∧ s0.den = s.den ∧ ∀ ro, s0.ok ro → s.ok ro
  | [], _, t, s, h => by simp [look] at h
  | (t', s') :: r, hs, t, s, h => by
    simp only [look] at h
    cases he : (t' == t) with
    | true =>
      rw [he, cond_true] at h
      injection h with h
      subst h
      rw [beq_iff_eq] at he
      subst he
      exact hs.1
    | false =>
      rw [he, cond_false] at h
      exact envDen_ok hs.2 t s h
theorem safe_env {env' : List (Nat × SV)} (he : envDen env env') (h : Safe S k ⟨env', hp⟩) : Safe S k ⟨env, hp⟩ :=
  Safe.sub (st := ⟨env, hp⟩) (st' := ⟨env', hp⟩) ⟨fun t s ht => envDen_ok he t s ht, fun _ H h => ⟨H, [], by simp, h⟩⟩ h
theorem seen (env : List (Nat × SV)) (t : Nat) (s : SV) (h : look env t = some s) : ∃ s0, look env t = some s0 ∧ s0.den = s.den ∧ ∀ ro, s0.ok ro → s.ok ro := ⟨s, h, rfl, fun _ h => h⟩
theorem seenP (env : List (Nat × SV)) (t : Nat) (s0 : SV) (c b o : Nat) (h : look env t = some s0) (hd : s0.den = .pointer (some ⟨b, o, none⟩)) : ∃ s0, look env t = some s0 ∧ s0.den = (SV.ptr c b o).den ∧ ∀ ro, s0.ok ro → (SV.ptr c b o).ok ro :=
  ⟨s0, h, hd, fun _ _ => by simp only [SV.ok]⟩
end
end Go.SX
