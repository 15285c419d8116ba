/- What came in, opened by its type: numbers, texts, slices, structs; with what its size allows. -/
import Derived.Test.YthlkoehifpnoeaaDoorSxV
import Derived.OpenShut
import Derived.SizedLaws
namespace Go.SX
open Go.ChangeShapes Go.WideShapes Go.RowKit Go.Deep

/-- a value of type 't', as it came in, is some 'x', said by 'enc' -/
def Opens (P : Program) (W : World) (t : TypeId) {α : Type} (enc : α → List SV) (Q : α → Prop) : Prop :=
  ∀ ⦃H : Type⦄ (enc0 : TypeId × Value → H) (fuel : Nat) (cs : List Value) (d : DataW H) (ps : List MemPlace), DataW.trod enc0 P W 0 (fun _ => true) true fuel t cs = some (d, ps) →
    ∃ x : α, cs = SV.dens (enc x) ∧ SV.oks (roOf W) (enc x) ∧ ((d.weights P t).all (· ≤ reachBytes) = true → Q x)
theorem reach47 {n : Nat} (h : n ≤ reachBytes) : n < 2 ^ 47 := Nat.lt_of_le_of_lt h reachBytes_lt

section
variable {P : Program} {W : World} {t : TypeId}
theorem opens_int {k : IntKind} (ht : P.underlying t = some (.int k)) : Opens P W t (fun n : Int => [.val (.int k n)]) (fun n => (Lit.int k n).wf = true) := by
  intro H enc0 fuel cs d ps h
  obtain ⟨n, rfl, _, hw⟩ := DataW.trod_int ht h
  exact ⟨n, rfl, by simp only [SV.oks, SV.ok, and_self], fun _ => hw⟩
theorem opens_i64 (ht : P.underlying t = some (.int .i64)) : Opens P W t (fun n : Int => [.val (.int .i64 n)]) inI64 := by
  intro H enc0 fuel cs d ps h
  obtain ⟨n, rfl, _, hw⟩ := DataW.trod_int ht h
  exact ⟨n, rfl, by simp only [SV.oks, SV.ok, and_self], fun _ => bounds_i64 hw⟩
theorem opens_u8 (ht : P.underlying t = some (.int .u8)) : Opens P W t (fun x : UInt8 => [.val (.int .u8 x.toNat)]) (fun _ => True) := by
  intro H enc0 fuel cs d ps h
  obtain ⟨n, rfl, _, hw⟩ := DataW.trod_int ht h
  obtain ⟨h1, h2⟩ := bounds_u8 hw
  refine ⟨UInt8.ofNat n.toNat, ?_, by simp only [SV.oks, SV.ok, and_self], fun _ => trivial⟩
  have : ((UInt8.ofNat n.toNat).toNat : Int) = n := by
    simp only [UInt8.toNat_ofNat']
    omega
  simp only [SV.dens, SV.den, this]
theorem opens_str (ht : P.underlying t = some .string) : Opens P W t (fun x : List UInt8 => [.val (.string ⟨x.toArray⟩)]) (fun x => x.length < 2 ^ 47) := by
  intro H enc0 fuel cs d ps h
  obtain ⟨s, rfl, he, _⟩ := DataW.trod_string ht h
  refine ⟨s.data.toList, rfl, by simp only [SV.oks, SV.ok, and_self], fun hw => ?_⟩
  have hd : d = .lit (.string s.data.toList) := congrArg Prod.fst he
  subst hd
  exact reach47 (by simpa [DataW.weights] using hw)
theorem opens_bool (ht : P.underlying t = some .bool) : Opens P W t (fun b : Bool => [.val (.bool b)]) (fun _ => True) := by
  intro H enc0 fuel cs d ps h
  cases fuel with
  | zero => simp [DataW.trod] at h
  | succ n =>
    unfold DataW.trod at h
    rw [ht] at h
    split at h <;> first | (simp at h; done) | skip
    all_goals first | (rename_i b _ ; exact ⟨b, rfl, by simp only [SV.oks, SV.ok, and_self], fun _ => trivial⟩) | simp_all
theorem opens_mono {α : Type} {enc : α → List SV} {Q Q' : α → Prop} (h : Opens P W t enc Q) (hq : ∀ x, Q x → Q' x) : Opens P W t enc Q' := by
  intro H enc0 fuel cs d ps hd
  obtain ⟨x, h1, h2, h3⟩ := h enc0 fuel cs d ps hd
  exact ⟨x, h1, h2, fun hw => hq x (h3 hw)⟩
/-- in other words -/
theorem opens_map {α β : Type} {enc : α → List SV} {enc' : β → List SV} {Q : α → Prop} {Q' : β → Prop} (h : Opens P W t enc Q) (hq : ∀ x, ∃ y, enc' y = enc x ∧ (Q x → Q' y)) : Opens P W t enc' Q' := by
  intro H enc0 fuel cs d ps hd
  obtain ⟨x, h1, h2, h3⟩ := h enc0 fuel cs d ps hd
  obtain ⟨y, h4, h5⟩ := hq x
  exact ⟨y, by rw [h4]; exact h1, by rw [h4]; exact h2, fun hw => h5 (h3 hw)⟩

/-- a slice -/
structure Sl (α : Type) where
  a : Option Addr
  cap : Nat
  xs : List α
instance {α : Type} : Inhabited (Sl α) := ⟨⟨none, 0, []⟩⟩
def encSl {α : Type} [Inhabited α] (enc : α → List SV) (sz : Nat) (s : Sl α) : List SV := [.view s.a s.xs.length s.cap sz (rowsV enc s.xs)]
theorem list_of {α : Type} [Inhabited α] {p : Nat → α → Prop} : ∀ n, (∀ i, i < n → ∃ x, p i x) → ∃ xs : List α, xs.length = n ∧ ∀ i, i < n → p i (xs.getD i default)
  | 0, _ => ⟨[], rfl, fun i hi => absurd hi (by omega)⟩
  | n + 1, h => by
    obtain ⟨xs, h1, h2⟩ := list_of n fun i hi => h i (by omega)
    obtain ⟨x, hx⟩ := h n (by omega)
    refine ⟨xs ++ [x], by simp [h1], fun i hi => ?_⟩
    rcases Nat.lt_or_ge i n with hlt | hge
    · have : (xs ++ [x]).getD i default = xs.getD i default := by simp [List.getD_eq_getElem?_getD, List.getElem?_append, h1, hlt]
      rw [this]; exact h2 i hlt
    · obtain rfl : i = n := by omega
      have : (xs ++ [x]).getD i default = x := by simp [List.getD_eq_getElem?_getD, h1]
      rw [this]; exact hx
theorem dens_len : ∀ xs : List SV, (SV.dens xs).length = xs.length := fun xs => by rw [dens_eq]; simp
theorem weightsAll_mem {H : Type} {e : TypeId} : ∀ {ds : List (DataW H)} {d : DataW H}, d ∈ ds → ∀ n ∈ d.weights P e, n ∈ DataW.weightsAll P e ds
  | [], _, h, _, _ => by simp at h
  | d0 :: r, d, h, n, hn => by
    simp only [DataW.weightsAll, List.mem_append]
    rcases List.mem_cons.1 h with rfl | h
    · exact .inl hn
    · exact .inr (weightsAll_mem h n hn)
theorem opens_slice {α : Type} [Inhabited α] {e : TypeId} {enc : α → List SV} {Q : α → Prop} {sz : Nat} (ht : P.underlying t = some (.slice e)) (hc : P.cellsOf e = sz) (hz : 0 < sz) (hb : 0 < P.bytesOf e) (hl : ∀ x, (enc x).length = sz) (he : Opens P W e enc Q) :
    Opens P W t (encSl enc sz) (fun s => s.xs.length < 2 ^ 47 ∧ ∀ x ∈ s.xs, Q x) := by
  intro H enc0 fuel cs d ps h
  rcases DataW.trod_slice ht h with ⟨rfl, _⟩ | ⟨a, len, cap, elems, rest, n, _, rfl, hx, _, hl', hm, hlen, hel, _, _⟩
  · exact ⟨⟨none, 0, []⟩, rfl, by simp [encSl, SV.oks, SV.ok], fun _ => ⟨Nat.two_pow_pos 47, fun x hx => by simp at hx⟩⟩
  · have each : ∀ i, i < len → ∃ x : α, (∀ j, j < sz → W.cell? (a.add (i * sz + j)) = some ((enc x).getD j default).den ∧ ((enc x).getD j default).ok (roOf W)) ∧ ((DataW.weightsAll P e (elems.map (·.1))).all (· ≤ reachBytes) = true → Q x) := by
      intro i hi
      have hy : ∃ y, elems[i]? = some y := ⟨elems[i], by simp [hlen, hi]⟩
      obtain ⟨y, hy⟩ := hy
      have h1 := hel i hi
      rw [hy, Option.bind_eq_some_iff] at h1
      obtain ⟨cs', hcs, hy'⟩ := h1
      obtain ⟨x, e1, e2, e3⟩ := he enc0 n cs' y.1 y.2 hy'
      rw [hc] at hcs
      obtain ⟨_, _, hcell⟩ := World.cells?_some hcs
      refine ⟨x, fun j hj => ?_, fun hw => e3 ?_⟩
      · have h2 := hcell j hj
        have hj' : j < (enc x).length := by rw [hl]; exact hj
        have e4 : (enc x).getD j default = (enc x)[j] := by simp [List.getD_eq_getElem?_getD, hj']
        rw [e1, dens_eq, List.getElem?_map, List.getElem?_eq_getElem hj'] at h2
        refine ⟨?_, by rw [e4]; exact oks_iff.1 e2 _ (List.getElem_mem hj')⟩
        rw [e4]
        have e5 : (a.add (i * sz)).add j = a.add (i * sz + j) := by
          unfold Addr.add
          by_cases q1 : i * sz = 0 <;> by_cases q2 : j = 0 <;> simp [q1, q2, Nat.add_assoc]
        rw [e5] at h2
        exact h2
      · rw [List.all_eq_true] at hw ⊢
        intro m hm'
        exact hw m (weightsAll_mem (List.mem_map.2 ⟨y, List.mem_of_getElem? hy, rfl⟩) m hm')
    obtain ⟨xs, hxl, hxs⟩ := list_of len each
    refine ⟨⟨some a, cap, xs⟩, by simp [encSl, SV.dens, SV.den, hxl], ?_, fun hw => ?_⟩
    · simp only [encSl, SV.oks, SV.ok, hxl, and_true]
      refine ⟨hl', fun i j hi hj => ?_⟩
      have h1 := (hxs i hi).1 j hj
      exact ⟨⟨a, rfl, roCell_of h1.1⟩, h1.2⟩
    · have hd : d = .slice (elems.map (·.1)) (rest.map (·.1)) := congrArg Prod.fst hx
      subst hd
      simp only [DataW.weights, ht, List.all_cons, List.all_append, Bool.and_eq_true, decide_eq_true_eq, List.length_map] at hw
      refine ⟨?_, fun x hx' => ?_⟩
      · have h2 : (elems.length + rest.length) * 1 ≤ (elems.length + rest.length) * P.bytesOf e := Nat.mul_le_mul_left _ hb
        have := reach47 hw.1
        show xs.length < 2 ^ 47
        omega
      · obtain ⟨i, hi, rfl⟩ := List.getElem_of_mem hx'
        have := (hxs i (by rw [← hxl]; exact hi)).2 hw.2.1
        have e1 : xs.getD i default = xs[i] := by simp [List.getD_eq_getElem?_getD, hi]
        rw [e1] at this
        exact this

/-- the fields of a struct, one behind the other -/
def OpensF (P : Program) (W : World) (fs : List Field) (ts : List TypeId) (n : Nat) {α : Type} (enc : α → List SV) (Q : α → Prop) : Prop :=
  ∀ ⦃H : Type⦄ (enc0 : TypeId × Value → H) (fuel : Nat) (cs : List Value) (xs : List (DataW H × List MemPlace)),
    cs.length = n → xs.length = fs.length → ts = fs.map (·.type) → (∀ (i : Nat) (f : Field), fs[i]? = some f → DataW.trod enc0 P W 0 (fun _ => true) true fuel f.type ((cs.drop f.offset).take (P.cellsOf f.type)) = xs[i]?) →
    ∃ x : α, cs = SV.dens (enc x) ∧ SV.oks (roOf W) (enc x) ∧ ((DataW.weightsEach P ts (xs.map (·.1))).all (· ≤ reachBytes) = true → Q x)
theorem opens_struct {fs : Array Field} {α : Type} {enc : α → List SV} {Q : α → Prop} {n : Nat} (ht : P.underlying t = some (.struct fs)) (hn : P.cellsOf t = n) (h : OpensF P W fs.toList (fs.toList.map (·.type)) n enc Q) : Opens P W t enc Q := by
  intro H enc0 fuel cs d ps hd
  obtain ⟨xs, m, rfl, hx, hlen, hxl, hf⟩ := DataW.trod_struct ht hd
  obtain ⟨x, h1, h2, h3⟩ := h enc0 m cs xs (hlen.trans hn) (by rw [hxl]; simp) rfl (fun i f hi => hf i f (by simpa using hi))
  refine ⟨x, h1, h2, fun hw => h3 ?_⟩
  have hd' : d = .agg (xs.map (·.1)) := congrArg Prod.fst hx
  subst hd'
  simpa only [DataW.weights, ht] using hw
theorem opensF_nil : OpensF P W [] [] 0 (fun _ : Unit => []) (fun _ => True) := by
  intro H enc0 fuel cs xs h1 h2 _ _
  exact ⟨(), by simpa [SV.dens] using h1, by simp only [SV.oks], fun _ => trivial⟩
/-- one more field, at the end -/
theorem opensF_snoc {fs : List Field} {ts : List TypeId} {n m k : Nat} {α β : Type} {enc : α → List SV} {enc' : β → List SV} {Q : α → Prop} {Q' : β → Prop} {f : Field} (h : OpensF P W fs ts n enc Q) (hall : ∀ g ∈ fs, g.offset + P.cellsOf g.type ≤ n) (ho : f.offset = n) (hc : P.cellsOf f.type = m) (hk : n + m = k)
    (ht : ts = fs.map (·.type)) (hf : Opens P W f.type enc' Q') : OpensF P W (fs ++ [f]) (ts ++ [f.type]) k (fun x : α × β => enc x.1 ++ enc' x.2) (fun x => Q x.1 ∧ Q' x.2) := by
  intro H enc0 fuel cs xs h1 h2 _ h4
  have hxl : xs.length = fs.length + 1 := by simpa using h2
  obtain ⟨ys, y, rfl⟩ : ∃ ys y, xs = ys ++ [y] := ⟨xs.dropLast, xs.getLast (by intro e; rw [e] at hxl; simp at hxl), (List.dropLast_concat_getLast _).symm⟩
  have hyl : ys.length = fs.length := by simpa using hxl
  have hlast := h4 fs.length f (by simp)
  rw [List.getElem?_append_right (by omega), hyl, Nat.sub_self, ho, hc] at hlast
  simp only [List.getElem?_cons_zero] at hlast
  obtain ⟨y', e1, e2, e3⟩ := hf enc0 fuel _ y.1 y.2 hlast
  obtain ⟨x', d1, d2, d3⟩ := h enc0 fuel (cs.take n) ys (by simp; omega) hyl ht (fun i g hg => by
    have hi : i < fs.length := (List.getElem?_eq_some_iff.1 hg).1
    have h5 := h4 i g (by rw [List.getElem?_append_left hi]; exact hg)
    rw [List.getElem?_append_left (by omega)] at h5
    rw [← h5]
    have hle := hall g (List.mem_of_getElem? hg)
    congr 1
    rw [List.drop_take, List.take_take]
    congr 1
    omega)
  refine ⟨(x', y'), ?_, ?_, fun hw => ?_⟩
  · rw [dens_eq, List.map_append, ← dens_eq, ← dens_eq, ← d1, ← e1]
    rw [show (cs.drop n).take m = cs.drop n from List.take_of_length_le (by simp; omega)]
    exact (List.take_append_drop n cs).symm
  · rw [oks_iff] at d2 e2 ⊢
    intro s hs
    rcases List.mem_append.1 hs with hs | hs
    · exact d2 s hs
    · exact e2 s hs
  · have hsplit : ∀ (ts : List TypeId) (ys : List (DataW H)), ts.length = ys.length → ∀ (u : TypeId) (z : DataW H), DataW.weightsEach P (ts ++ [u]) (ys ++ [z]) = DataW.weightsEach P ts ys ++ z.weights P u := by
      intro ts
      induction ts with
      | nil => intro ys hys u z; cases ys with
        | nil => simp [DataW.weightsEach]
        | cons _ _ => simp at hys
      | cons t ts ih => intro ys hys u z; cases ys with
        | nil => simp at hys
        | cons y ys => simp only [List.cons_append, DataW.weightsEach, ih ys (by simpa using hys), List.append_assoc]
    rw [List.map_append, List.map_singleton, hsplit ts (ys.map (·.1)) (by rw [ht]; simp [hyl]), List.all_append, Bool.and_eq_true] at hw
    exact ⟨d3 hw.1, e3 hw.2⟩
end

/-- a parameter -/
theorem open_at {H : Type} {enc0 : TypeId × Value → H} {P : Program} {W : World} {t : TypeId} {v : Value} {d : DataW H} {ps : List MemPlace} {α : Type} {enc : α → List SV} {Q : α → Prop} (h : Opens P W t enc Q) (hc : ∀ x, ∃ s, enc x = [s]) (hv : v.cells.toList = [v])
    (hd : DataW.Trod enc0 P W 0 (fun _ => true) true t v d ps) : ∃ x s, enc x = [s] ∧ v = s.den ∧ s.ok (roOf W) ∧ ((d.weights P t).all (· ≤ reachBytes) = true → Q x) := by
  obtain ⟨fuel, hf⟩ := hd
  obtain ⟨x, h1, h2, h3⟩ := h enc0 fuel _ d ps hf
  obtain ⟨s, hs⟩ := hc x
  rw [hs] at h1 h2
  rw [hv] at h1
  simp only [SV.dens, List.cons.injEq, and_true] at h1
  simp only [SV.oks, and_true] at h2
  exact ⟨x, s, hs, h1, h2, h3⟩
theorem open_slice {H : Type} {enc0 : TypeId × Value → H} {P : Program} {W : World} {t e : TypeId} {v : Value} {d : DataW H} {ps : List MemPlace} {α : Type} [Inhabited α] {enc : α → List SV} {Q : Sl α → Prop} {sz base : Nat} (ht : P.underlying t = some (.slice e)) (h : Opens P W t (encSl enc sz) Q)
    (hok : Value.okWide P W .any base t v) (hd : DataW.Trod enc0 P W 0 (fun _ => true) true t v d ps) : ∃ x : Sl α, v = (SV.view x.a x.xs.length x.cap sz (rowsV enc x.xs)).den ∧ (SV.view x.a x.xs.length x.cap sz (rowsV enc x.xs)).ok (roOf W) ∧ ((d.weights P t).all (· ≤ reachBytes) = true → Q x) := by
  obtain ⟨a0, len0, cap0, rfl⟩ := okWide_slice ht hok
  obtain ⟨x, s, hs, h1, h2, h3⟩ := open_at h (fun x => ⟨_, rfl⟩) rfl hd
  simp only [encSl, List.cons.injEq, and_true] at hs
  subst hs
  exact ⟨x, h1, h2, h3⟩
/-- of one parameter's reading -/
theorem weights_at {H : Type} {P : Program} {ts : List TypeId} {ds : List (DataW H)} {d : DataW H} {t : TypeId} (j : Nat) (h : (DataW.weightsEach P ts ds).all (· ≤ reachBytes) = true) (ht : ts[j]? = some t) (hd : ds[j]? = some d) : (d.weights P t).all (· ≤ reachBytes) = true := by
  rw [List.all_eq_true] at h ⊢
  exact fun n hn => h n (DataW.weights_mem_each ht hd n hn)
end Go.SX
