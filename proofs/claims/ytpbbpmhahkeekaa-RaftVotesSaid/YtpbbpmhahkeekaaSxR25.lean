/- Contracts of the raft package: voters read; whether an entry may be; rows of entries. -/
import Derived.Test.YtpbbpmhahkeekaaSxR24
import Derived.Laws.Bits64b
namespace Go.SX
open Go.Proofs
set_option maxRecDepth 1000000
variable {E : Env}

/-- own memory is frozen, wherever its values stand -/
def FrzL (c : Nat) (nl : Bool) (b off n cap sz : Nat) (f : Nat → Nat → SV) : List (Nat × SV) → List (Nat × SV) → Prop
  | [], [] => True
  | (t, s) :: r, (t', s') :: r' => t = t' ∧ (s' = s ∨ (s = .osl c nl b off n cap ∧ s' = frz nl b off n cap sz f)) ∧ FrzL c nl b off n cap sz f r r'
  | _, _ => False
theorem FrzL.look {c : Nat} {nl : Bool} {b off n cap sz : Nat} {f : Nat → Nat → SV} : ∀ {l l' : List (Nat × SV)}, FrzL c nl b off n cap sz f l l' → ∀ t s, look l' t = some s → ∃ s0, SX.look l t = some s0 ∧ (s = s0 ∨ (s0 = .osl c nl b off n cap ∧ s = frz nl b off n cap sz f))
  | [], [], _, t, s, h => by simp [SX.look] at h
  | (t0, s0) :: r, (t1, s1) :: r', h, t, s, ht => by
    obtain ⟨rfl, h1, h2⟩ := h
    simp only [SX.look] at ht ⊢
    cases hte : (t0 == t) with
    | true =>
      rw [hte, cond_true] at ht
      injection ht with ht
      subst ht
      exact ⟨s0, rfl, h1⟩
    | false =>
      rw [hte, cond_false] at ht
      exact FrzL.look h2 t s ht
  | [], _ :: _, h, _, _, _ => h.elim
  | _ :: _, [], h, _, _, _ => h.elim

theorem safe_frzC {S : Setup} {k : List Frag} {st : St} {c b off n cap sz : Nat} {nl : Bool} {T : TypeId} {f f' : Nat → Nat → SV} {env' : List (Nat × SV)} (hc : getC st.heap c = .row nl b T off sz n cap f) (hf : ∀ i j, i < n → j < sz → f i j = f' i j)
    (he : FrzL c nl b off n cap sz f' st.env env') (h : Safe S k ⟨env', setC st.heap c .emp⟩) : Safe S k st := by
  rintro ro0 F a w ⟨ro, H, hle, g⟩
  obtain ⟨H1, H2, hp, hsat, hput⟩ := hsat_at c g.heap (getC_lt (by rw [hc]; simp))
  rw [hc] at hsat
  have hsat' := row_congr hf hsat
  have fin : ∀ ro', ROle ro ro' → (∀ p ∈ H1, ro' p.1 = some p.2) → Sat S.C.E ro' (H2 ++ F) w → contK S ro0 F k .normal a w := by
    intro ro' hle' hin hs
    obtain ⟨H3, hp3, hs3⟩ := hput ro' .emp [] hle' rfl
    refine h ro0 F a w ⟨ro', H3, hle.trans hle', g.defs, g.size, hs3, hs.perm (hp3.symm.append_right F), fun t s ht => ?_⟩
    obtain ⟨s0, e1, e2⟩ := he.look t s ht
    obtain ⟨e3, e4⟩ := g.env t s0 e1
    rcases e2 with rfl | ⟨rfl, rfl⟩
    · exact ⟨e3, SV.ok_mono hle' _ e4⟩
    · exact ⟨e3, frz_ok hsat' hle' hin⟩
  cases nl with
  | true =>
    have h2' := hsat'
    obtain ⟨rfl, _⟩ := h2'
    exact fin ro (ROle.refl _) (by simp) (g.sat.perm (by simpa using hp.append_right F))
  | false =>
    have h2' := hsat'
    obtain ⟨arr, fz, rfl, _⟩ := h2'
    obtain ⟨s1, s2, s3⟩ := Sat.freeze (g.sat.perm (H' := (b, .cells arr T fz) :: (H2 ++ F)) (by simpa using hp.append_right F))
    exact fin _ s2 (by simpa using s3) s1

/-- nil, as an own row -/
def NilL (c b off : Nat) : List (Nat × SV) → List (Nat × SV) → Prop
  | [], [] => True
  | (t, s) :: r, (t', s') :: r' => t = t' ∧ (s' = s ∨ ((∃ z g, s = .view none 0 0 z g) ∧ s' = .osl c true b off 0 0)) ∧ NilL c b off r r'
  | _, _ => False
theorem NilL.look {c b off : Nat} : ∀ {l l' : List (Nat × SV)}, NilL c b off l l' → ∀ t s, look l' t = some s → ∃ s0, SX.look l t = some s0 ∧ (s = s0 ∨ ((∃ z g, s0 = .view none 0 0 z g) ∧ s = .osl c true b off 0 0))
  | [], [], _, t, s, h => by simp [SX.look] at h
  | (t0, s0) :: r, (t1, s1) :: r', h, t, s, ht => by
    obtain ⟨rfl, h1, h2⟩ := h
    simp only [SX.look] at ht ⊢
    cases hte : (t0 == t) with
    | true =>
      rw [hte, cond_true] at ht
      injection ht with ht
      subst ht
      exact ⟨s0, rfl, h1⟩
    | false =>
      rw [hte, cond_false] at ht
      exact NilL.look h2 t s ht
  | [], _ :: _, h, _, _, _ => h.elim
  | _ :: _, [], h, _, _, _ => h.elim
theorem safe_nilrow {S : Setup} {k : List Frag} {st : St} (b : Nat) (T : TypeId) (off sz : Nat) (f : Nat → Nat → SV) {env' : List (Nat × SV)} (he : NilL st.heap.length b off st.env env') (h : Safe S k ⟨env', st.heap ++ [.row true b T off sz 0 0 f]⟩) : Safe S k st := by
  refine Safe.sub (st' := ⟨env', st.heap ++ [.row true b T off sz 0 0 f]⟩) ⟨fun t s ht => ?_, fun ro H hs => ⟨H, [], by simp, ?_⟩⟩ h
  · obtain ⟨s0, h1, rfl | ⟨⟨z, g, rfl⟩, rfl⟩⟩ := he.look t s ht
    · exact ⟨_, h1, rfl, fun _ h => h⟩
    · exact ⟨_, h1, rfl, fun ro _ => by simp only [SV.ok]⟩
  · have := hsat_snoc (c := .row true b T off sz 0 0 f) (H2 := []) hs (by simp [Chunk.sat])
    simpa using this

/-- a number out of bytes, most significant first -/
def beN (l : List UInt8) : Nat := l.foldl (fun n x => n * 256 + x.toNat) 0
theorem beN_snoc (l : List UInt8) (x : UInt8) : beN (l ++ [x]) = beN l * 256 + x.toNat := by simp [beN]
theorem beN_lt : ∀ l : List UInt8, beN l < 256 ^ l.length := by
  intro l
  have : ∀ l : List UInt8, ∀ n, l.foldl (fun n x => n * 256 + x.toNat) n < (n + 1) * 256 ^ l.length := by
    intro l
    induction l with
    | nil => intro n; simp
    | cons x l ih =>
      intro n
      rw [List.foldl_cons, List.length_cons, Nat.pow_succ]
      refine Nat.lt_of_lt_of_le (ih _) ?_
      have hx := x.toNat_lt
      rw [Nat.mul_comm (256 ^ l.length) 256, ← Nat.mul_assoc]
      exact Nat.mul_le_mul_right _ (by omega)
  simpa [beN] using this l 0

theorem shl_or {n x : Nat} (hn : n < 2 ^ 56) (hx : x < 256) : bitsI .or .u64 (shlI .u64 (n : Int) 8) (IntKind.u64.wrap (x : Int)) = ((n * 256 + x : Nat) : Int) := by
  have e1 : shlI .u64 (n : Int) 8 = ((n * 256 : Nat) : Int) := by
    unfold shlI
    rw [IntKind.wrap_u64]
    have : min (Int.toNat 8) (IntKind.u64.bits) = 8 := by decide
    rw [this]
    omega
  have e2 : IntKind.u64.wrap (x : Int) = (x : Int) := by rw [IntKind.wrap_u64]; omega
  rw [e1, e2]
  have h := bits_or_u64_nat (n * 256) x (by omega) (by omega)
  have h3 : n * 256 ||| x = n * 256 + x := by
    have h4 : n * 256 = n <<< 8 := by rw [Nat.shiftLeft_eq]
    rw [h4, ← Nat.shiftLeft_add_eq_or_of_lt (by omega : x < 2 ^ 8)]
  rw [h3] at h
  exact h
end Go.SX
