/- Words for values, for seats other than the first. -/
import Derived.Test.YthlkoehifpnoeaaDoorSxW
import Derived.Test.YthlkoehifpnoeaaDoorSxQ
namespace Go.SX
abbrev I (n : Int) : SV := .val (.int .i64 n)
abbrev Bl (b : Bool) : SV := .val (.bool b)
/-- a text -/
abbrev T (x : List UInt8) : SV := .val (.string ⟨x.toArray⟩)
def kvS : KV (List UInt8) := ⟨fun x => .string ⟨x.toArray⟩, .string, fun x y h => by simpa using h, fun _ => trivial⟩
def nilS : SV := .view none 0 0 1 (fun _ _ => .val undef)
theorem nilOk (ro : RO) (sz : Nat) (f : Nat → Nat → SV) : (SV.view none 0 0 sz f).ok ro := by
  simp only [SV.ok]
  exact ⟨Nat.le_refl _, fun i j hi => absurd hi (by omega)⟩
def encI (n : Int) : List SV := [I n]
abbrev vI (a : Option Addr) (cap : Nat) (xs : List Int) : SV := .view a xs.length cap 1 (rowsV encI xs)
@[simp, go_sem] theorem rowsI (xs : List Int) (i : Nat) : rowsV encI xs i 0 = I (xs.getD i 0) := rfl
def encB (x : UInt8) : List SV := [.val (.int .u8 x.toNat)]
abbrev vB (a : Option Addr) (cap : Nat) (xs : List UInt8) : SV := .view a xs.length cap 1 (rowsV encB xs)
@[simp, go_sem] theorem rowsB (xs : List UInt8) (i : Nat) : rowsV encB xs i 0 = .val (.int .u8 ((xs.getD i 0).toNat)) := rfl
def encT (x : List UInt8) : List SV := [T x]
abbrev vT (a : Option Addr) (cap : Nat) (xs : List (List UInt8)) : SV := .view a xs.length cap 1 (rowsV encT xs)
@[simp, go_sem] theorem rowsT (xs : List (List UInt8)) (i : Nat) : rowsV encT xs i 0 = T (xs.getD i []) := rfl

theorem appF_zero (f g : Nat → Nat → SV) : appF f 0 g = g := by
  funext i j
  have : Nat.blt i 0 = false := by rw [Bool.eq_false_iff, ne_eq, Nat.blt_eq]; omega
  simp only [appF, this, cond_false, Nat.sub_zero]

/-- own memory is frozen, wherever its values stand -/
def FrzL (c : Nat) (nl : Bool) (b off n cap sz : Nat) (f : Nat → Nat → SV) : List (Nat × SV) → List (Nat × SV) → Prop
  | [], [] => True
  | (t, s) :: r, (t', s') :: r' => t = t' ∧ (s' = s ∨ (s = .osl c nl b off n cap ∧ s' = frz nl b off n cap sz f)) ∧ FrzL c nl b off n cap sz f r r'
  | _, _ => False
theorem FrzL.look {c : Nat} {nl : Bool} {b off n cap sz : Nat} {f : Nat → Nat → SV} : ∀ {l l' : List (Nat × SV)}, FrzL c nl b off n cap sz f l l' → ∀ t s, look l' t = some s → ∃ s0, SX.look l t = some s0 ∧ (s = s0 ∨ (s0 = .osl c nl b off n cap ∧ s = frz nl b off n cap sz f))
  | [], [], _, t, s, h => by simp [SX.look] at h
  | (t0, s0) :: r, (t1, s1) :: r', h, t, s, ht => by
    obtain ⟨rfl, h1, h2⟩ := h
    simp only [SX.look] at ht ⊢
    cases hte : (t0 == t) with
    | true =>
      rw [hte, cond_true] at ht
      injection ht with ht
      subst ht
      exact ⟨s0, rfl, h1⟩
    | false =>
      rw [hte, cond_false] at ht
      exact FrzL.look h2 t s ht
  | [], _ :: _, h, _, _, _ => h.elim
  | _ :: _, [], h, _, _, _ => h.elim

theorem safe_frzC {S : Setup} {k : List Frag} {st : St} {c b off n cap sz : Nat} {nl : Bool} {T : TypeId} {f f' : Nat → Nat → SV} {env' : List (Nat × SV)} (hc : getC st.heap c = .row nl b T off sz n cap f) (hf : ∀ i j, i < n → j < sz → f i j = f' i j)
    (he : FrzL c nl b off n cap sz f' st.env env') (h : Safe S k ⟨env', setC st.heap c .emp⟩) : Safe S k st := by
  rintro ro0 F a w ⟨ro, H, hle, g⟩
  obtain ⟨H1, H2, hp, hsat, hput⟩ := hsat_at c g.heap (getC_lt (by rw [hc]; simp))
  rw [hc] at hsat
  have hsat' := row_congr hf hsat
  have fin : ∀ ro', ROle ro ro' → (∀ p ∈ H1, ro' p.1 = some p.2) → Sat S.C.E ro' (H2 ++ F) w → contK S ro0 F k .normal a w := by
    intro ro' hle' hin hs
    obtain ⟨H3, hp3, hs3⟩ := hput ro' .emp [] hle' rfl
    refine h ro0 F a w ⟨ro', H3, hle.trans hle', g.defs, g.size, hs3, hs.perm (hp3.symm.append_right F), fun t s ht => ?_⟩
    obtain ⟨s0, e1, e2⟩ := he.look t s ht
    obtain ⟨e3, e4⟩ := g.env t s0 e1
    rcases e2 with rfl | ⟨rfl, rfl⟩
    · exact ⟨e3, SV.ok_mono hle' _ e4⟩
    · exact ⟨e3, frz_ok hsat' hle' hin⟩
  cases nl with
  | true =>
    have h2' := hsat'
    obtain ⟨rfl, _⟩ := h2'
    exact fin ro (ROle.refl _) (by simp) (g.sat.perm (by simpa using hp.append_right F))
  | false =>
    have h2' := hsat'
    obtain ⟨arr, fz, rfl, _⟩ := h2'
    obtain ⟨s1, s2, s3⟩ := Sat.freeze (g.sat.perm (H' := (b, .cells arr T fz) :: (H2 ++ F)) (by simpa using hp.append_right F))
    exact fin _ s2 (by simpa using s3) s1

/-- nil, as an own row -/
def NilL (c b off : Nat) : List (Nat × SV) → List (Nat × SV) → Prop
  | [], [] => True
  | (t, s) :: r, (t', s') :: r' => t = t' ∧ (s' = s ∨ ((∃ z g, s = .view none 0 0 z g) ∧ s' = .osl c true b off 0 0)) ∧ NilL c b off r r'
  | _, _ => False
theorem NilL.look {c b off : Nat} : ∀ {l l' : List (Nat × SV)}, NilL c b off l l' → ∀ t s, look l' t = some s → ∃ s0, SX.look l t = some s0 ∧ (s = s0 ∨ ((∃ z g, s0 = .view none 0 0 z g) ∧ s = .osl c true b off 0 0))
  | [], [], _, t, s, h => by simp [SX.look] at h
  | (t0, s0) :: r, (t1, s1) :: r', h, t, s, ht => by
    obtain ⟨rfl, h1, h2⟩ := h
    simp only [SX.look] at ht ⊢
    cases hte : (t0 == t) with
    | true =>
      rw [hte, cond_true] at ht
      injection ht with ht
      subst ht
      exact ⟨s0, rfl, h1⟩
    | false =>
      rw [hte, cond_false] at ht
      exact NilL.look h2 t s ht
  | [], _ :: _, h, _, _, _ => h.elim
  | _ :: _, [], h, _, _, _ => h.elim
theorem safe_nilrow {S : Setup} {k : List Frag} {st : St} (b : Nat) (T : TypeId) (off sz : Nat) (f : Nat → Nat → SV) {env' : List (Nat × SV)} (he : NilL st.heap.length b off st.env env') (h : Safe S k ⟨env', st.heap ++ [.row true b T off sz 0 0 f]⟩) : Safe S k st := by
  refine Safe.sub (st' := ⟨env', st.heap ++ [.row true b T off sz 0 0 f]⟩) ⟨fun t s ht => ?_, fun ro H hs => ⟨H, [], by simp, ?_⟩⟩ h
  · obtain ⟨s0, h1, rfl | ⟨⟨z, g, rfl⟩, rfl⟩⟩ := he.look t s ht
    · exact ⟨_, h1, rfl, fun _ h => h⟩
    · exact ⟨_, h1, rfl, fun ro _ => by simp only [SV.ok]⟩
  · have := hsat_snoc (c := .row true b T off sz 0 0 f) (H2 := []) hs (by simp [Chunk.sat])
    simpa using this

theorem getC_set : ∀ (l : List Chunk) (n : Nat) (d : Chunk), n < l.length → getC (setC l n d) n = d
  | [], _, _, h => by simp at h
  | _ :: _, 0, _, _ => rfl
  | _ :: l, n + 1, d, h => by simp only [setC, getC]; exact getC_set l n d (by simpa using h)
/-- append, the row's values named -/
theorem stp_app2 {S : Setup} {k : List Frag} {st : St} {d e sz bytes : Nat} {z : List Value} {so xo : Opd} {ps : List SOp} {l : List (SOp × List SOp)} {c b off n cap N : Nat} {nl : Bool} {x : SV} {f gx f2 : Nat → Nat → SV} {m : Nat} {vc : Prop}
    (hs : opv st.env so = some (.osl c nl b off n cap)) (hx : opv st.env xo = some x) (hch : getC st.heap c = .row nl b e off sz n cap f) (hsrc : srcV st.heap x sz = some (m, gx, vc)) (hvc : vc) (hones : onesF gx m sz) (hfit : (n + m) * bytes ≤ 140737488355328)
    (hN : n + m = N) (hf : ∀ i j, i < N → j < sz → appF f n gx i j = f2 i j)
    (h : ∀ nl' b' off' cap', recheck S.C ⟨(d, .osl c nl' b' off' N cap') :: st.env, setC st.heap c (.row nl' b' e off' sz N cap' (appF f n gx))⟩ ps ∧
      Safe S (.ops l :: k) ⟨(d, .osl c nl' b' off' N cap') :: st.env, setC st.heap c (.row nl' b' e off' sz N cap' f2)⟩) :
    Stp S k l ps st (.app d e sz bytes z so xo) := by
  subst hN
  refine stp_app hs hx hch hsrc hvc hones hfit fun nl' b' off' cap' => ⟨(h nl' b' off' cap').1, ?_⟩
  refine Safe.sub (st' := ⟨(d, .osl c nl' b' off' (n + m) cap') :: st.env, setC st.heap c (.row nl' b' e off' sz (n + m) cap' f2)⟩) ⟨fun t s ht => ⟨s, ht, rfl, fun _ h => h⟩, fun ro H hh => ⟨H, [], by simp, ?_⟩⟩ (h nl' b' off' cap').2
  have := hsat_set c (d := .row nl' b' e off' sz (n + m) cap' f2) (fun H hr => by
    rw [getC_set _ _ _ (getC_lt (by rw [hch]; simp))] at hr
    exact row_congr hf hr) hh
  rwa [setC_setC] at this


theorem app_rows {α : Type} [Inhabited α] {enc : α → List SV} {sz : Nat} {ys zs : List α} : ∀ i j, i < ys.length + zs.length → j < sz → appF (rowsV enc ys) ys.length (rowsV enc zs) i j = rowsV enc (ys ++ zs) i j := by
  intro i j _ _
  simp only [appF, rowsV]
  by_cases h : i < ys.length
  · have e : Nat.blt i ys.length = true := by rw [Nat.blt_eq]; exact h
    have h2 : (ys ++ zs).getD i default = ys.getD i default := by simp only [List.getD_eq_getElem?_getD, List.getElem?_append_left h]
    rw [e, cond_true, h2]
  · have e : Nat.blt i ys.length = false := by rw [Bool.eq_false_iff, ne_eq, Nat.blt_eq]; exact h
    have h2 : (ys ++ zs).getD i default = zs.getD (i - ys.length) default := by simp only [List.getD_eq_getElem?_getD, List.getElem?_append_right (Nat.le_of_not_lt h)]
    rw [e, cond_false, h2]

theorem safe_rownl {S : Setup} {k : List Frag} {st : St} {c b off sz n cap : Nat} {nl : Bool} {T : TypeId} {f : Nat → Nat → SV} (hc : getC st.heap c = .row nl b T off sz n cap f) (h : (nl = true → n = 0 ∧ cap = 0) → Safe S k st) : Safe S k st := by
  rintro ro0 F a w ⟨ro, H, hle, g⟩
  obtain ⟨H1, H2, hp, hsat, _⟩ := hsat_at c g.heap (getC_lt (by rw [hc]; simp))
  rw [hc] at hsat
  refine h (fun hn => ?_) ro0 F a w ⟨ro, H, hle, g⟩
  subst hn
  exact hsat.2
theorem app_one {α : Type} [Inhabited α] {enc : α → List SV} {sz : Nat} {ys : List α} {y : α} : ∀ i j, i < ys.length + 1 → j < sz → appF (rowsV enc ys) ys.length (litF sz (enc y)) i j = rowsV enc (ys ++ [y]) i j := by
  intro i j hi hj
  rw [← appF_rows]
  unfold appF
  cases h : Nat.blt i ys.length with
  | true => simp only [cond_true]
  | false =>
    simp only [cond_false]
    have : ys.length ≤ i := by
      rcases Nat.lt_or_ge i ys.length with h' | h'
      · rw [← Nat.blt_eq, h] at h'
        cases h'
      · exact h'
    rw [show i - ys.length = 0 by omega]
    simp only [litF, rowsV, Nat.zero_mul, Nat.zero_add, List.getD_cons_zero]
theorem safe_cond_mid {S : Setup} {k : List Frag} {st : St} {c : Opd} {x y : SCode} {p : Bool} (mid : St) (hc : opv st.env c = some (.val (.bool p))) (hrest : Safe S k mid) (ht : p = true → Safe S k mid → Safe S (.code x :: k) st) (hf : p = false → Safe S k mid → Safe S (.code y :: k) st) :
    Safe S (.code (.cond c x y) :: k) st := safe_cond hc (fun h => ht h hrest) (fun h => hf h hrest)

theorem safe_cond_midp {S : Setup} {k : List Frag} {st : St} {c : Opd} {x y : SCode} {p : Bool} {κ : Type} (mid : κ → St) (hc : opv st.env c = some (.val (.bool p))) (hrest : ∀ q, Safe S k (mid q)) (ht : p = true → (∀ q, Safe S k (mid q)) → Safe S (.code x :: k) st)
    (hf : p = false → (∀ q, Safe S k (mid q)) → Safe S (.code y :: k) st) : Safe S (.code (.cond c x y) :: k) st := safe_cond hc (fun h => ht h hrest) (fun h => hf h hrest)
theorem safe_alts_mid {S : Setup} {k : List Frag} {st : St} {ls : List (List (SOp × List SOp))} {ι : Type} (mid : ι → St) (hrest : ∀ x, Safe S k (mid x)) (h : ∀ l ∈ ls, (∀ x, Safe S k (mid x)) → Safe S (.ops l :: k) st) :
    Safe S (.code (.alts ls) :: k) st := safe_alts fun l hl => h l hl hrest
theorem safe_ops_mid {S : Setup} {k : List Frag} {st : St} {l : List (SOp × List SOp)} (mid : St) (hrest : Safe S k mid) (h : Safe S k mid → Safe S (.ops l :: k) st) : Safe S (.ops l :: k) st := h hrest
/-- what a guard covers, the guard being on -/
def unc : SV → SV
  | .cnd true x => x
  | x => x
theorem unc_den (x : SV) : (unc x).den = x.den := by
  unfold unc
  split <;> simp [SV.den]
theorem unc_ok {ro : RO} {x : SV} (h : x.ok ro) : (unc x).ok ro := by
  unfold unc
  split
  · simp only [SV.ok] at h; exact h trivial
  · exact h
theorem unc_dens : ∀ xs : List SV, SV.dens xs = SV.dens (xs.map unc)
  | [] => rfl
  | x :: xs => by simp [SV.dens, unc_den, ← unc_dens xs]
theorem unc_oks {ro : RO} : ∀ {xs : List SV}, SV.oks ro xs → SV.oks ro (xs.map unc)
  | [], _ => by simp only [List.map_nil, SV.oks]
  | x :: xs, h => by
    simp only [SV.oks] at h
    simp only [List.map_cons, SV.oks]
    exact ⟨unc_ok h.1, unc_oks h.2⟩
end Go.SX
