/- More rules: a row frozen as other values of the same cells; conversions of bytes. -/
import Derived.Test.YthlkoehifpnoeaaDoorSxQ
import Derived.Laws.BytesArg
namespace Go.SX
section
variable {S : Setup} {k : List Frag} {st : St} {C : Ctx} {ro ro0 : RO} {H F : Hp} {a : Act} {w : World}

theorem setC_getC : ∀ (l : List Chunk) (n : Nat), setC l n (getC l n) = l
  | [], _ => rfl
  | _ :: _, 0 => rfl
  | c :: l, n + 1 => by simp only [setC, getC, setC_getC l n]

/-- a row at the end is frozen, and seen otherwise -/
theorem safe_frz2 {d c b off n cap sz : Nat} {nl : Bool} {T : TypeId} {f f' : Nat → Nat → SV} {env : List (Nat × SV)} {hp : List Chunk} (hf : ∀ i j, i < n → j < sz → f i j = f' i j) (h : Safe S k ⟨(d, frz nl b off n cap sz f') :: env, hp⟩) :
    Safe S k ⟨(d, .osl c nl b off n cap) :: env, hp ++ [.row nl b T off sz n cap f]⟩ := by
  refine Safe.sub (st' := ⟨(d, .osl c nl b off n cap) :: env, hp ++ [.row nl b T off sz n cap f']⟩) ⟨fun t s ht => ⟨s, ht, rfl, fun _ h => h⟩, fun ro H hs => ?_⟩ (safe_frz h)
  obtain ⟨H1, H2, rfl, h1, h2⟩ := hsat_snoc_inv hs
  exact ⟨H1 ++ H2, [], by simp, hsat_snoc h1 (row_congr hf h2)⟩

/-- '[]byte("..")' of a constant: an own row, converted to its own type -/
theorem stp_conv {d : Nat} {x : Operand} {t e ty : TypeId} {ps : List SOp} {l : List (SOp × List SOp)} {c b off sz n cap n' cap' off' : Nat} {T : TypeId} {f : Nat → Nat → SV} {xo : Opd} (hxo : copd x = some xo)
    (hu : S.C.P.underlying t = some (.slice e)) (he : S.C.P.underlying e = some (.int .u8)) (hx : opv st.env xo = some (.osl c false b off n cap)) (hc : getC st.heap c = .row false b T off' sz n' cap' f)
    (hre : recheck S.C ⟨(d, .osl c false b off n cap) :: st.env, st.heap⟩ ps) (h : Safe S (.ops l :: k) ⟨(d, .osl c false b off n cap) :: st.env, st.heap⟩) :
    Stp S k l ps st (.oth (some d) (.convert t t x) ty) := by
  intro ro0 F a w o hg hce
  obtain ⟨i1, i2, i3, i4⟩ := ceff_inv hce
  obtain ⟨ro, H, hle, g⟩ := hg
  obtain ⟨e1, _⟩ := opv_ok g hxo hx
  obtain ⟨H1, hs, hmem, hput⟩ := g.putChunk (c := c) (getC_lt (by rw [hc]; simp))
  rw [hc] at hs
  obtain ⟨arr, fz, rfl, hfz, hn, hsize, hcell⟩ := hs
  have hb := hmem _ (List.mem_singleton.2 rfl)
  have hrun : (execOp a.eval o).run S.C.P w = .ok (.value (.slice (some ⟨b, off, none⟩) n cap)) (w.freeze ⟨b, arr.size, none⟩ 1) := by
    obtain ⟨dst, op, ty', pos, aft, gd⟩ := o
    simp only at i1
    subst i1
    simp [execOp, e1, SV.den, convert, run_underlying hu, run_underlying he, markStringish, World.shape?, hb]
  rw [hrun]
  simp only [Oper.uponIn, i2]
  have hrow : (Chunk.row false b T off' sz n' cap' f).sat ro [(b, .cells arr T (if fz.1 == fz.2 then (arr.size, arr.size + 1) else (min fz.1 arr.size, max fz.2 (arr.size + 1))))] := by
    refine ⟨arr, _, rfl, ?_, hn, hsize, hcell⟩
    split
    · exact ⟨by simp, fun o ho => by simp; omega⟩
    · rename_i hne
      have hlt : fz.1 < fz.2 := by
        have h1 := hfz.1
        have : fz.1 ≠ fz.2 := by simpa using hne
        omega
      have hge : arr.size ≤ fz.1 := by
        rcases Nat.lt_or_ge fz.1 arr.size with h | h
        · have := hfz.2 fz.1 h
          simp only [Nat.le_refl, decide_true, Bool.true_and, decide_eq_false_iff_not] at this
          omega
        · exact h
      exact ⟨by simp only []; omega, fun o ho => by simp; omega⟩
  obtain ⟨H', g'⟩ := hput b _ _ _ (w.freeze ⟨b, arr.size, none⟩ 1) rfl hrow rfl rfl rfl (by obtain ⟨f1, f2⟩ := fz; simp [World.freeze, Array.getElem?_modify, hb]) (fun k hk => by
    have hk' : b ≠ k := fun e => hk e.symm
    simp [World.freeze, Array.getElem?_modify, hk'])
  have hset : setC st.heap c (.row false b T off' sz n' cap' f) = st.heap := by rw [← hc]; exact setC_getC _ _
  rw [hset] at g'
  exact ⟨_, ⟨ro, H', hle, g'.put (s := .osl c false b off n cap) (by simpa using i4) (by simp only [SV.ok])⟩, hre, h⟩

/-- 'string(b)' of bytes that nobody writes any more -/
theorem oth_str {x : Operand} {src dst e ty : TypeId} {xo : Opd} {sx : SV} {ad : Option Addr} {n cap : Nat} {f : Nat → Nat → SV} {xs : List UInt8} (hxo : copd x = some xo) (hs : C.P.underlying src = some (.slice e)) (he : C.P.underlying e = some (.int .u8))
    (hd : C.P.underlying dst = some .string) (hx : opv st.env xo = some sx) (hden : sx.den = .slice ad n cap) (hok : ∀ ro, sx.ok ro → (SV.view ad n cap 1 f).ok ro) (hl : xs.length = n) (hf : ∀ i, i < n → f i 0 = .val (.int .u8 ((xs.getD i 0).toNat : Nat))) :
    OthV C st (.convert src dst x) ty (.val (.string ⟨xs.toArray⟩)) := by
  intro ro H F a w g
  refine ⟨?_, by simp only [SV.ok]⟩
  obtain ⟨e1, e2⟩ := opv_ok g hxo hx
  have hv := hok ro e2
  simp only [SV.ok] at hv
  have hstr : ∀ l : List UInt8, strOfNums (l.map fun u => ((u.toNat : Nat) : Int)) = ⟨l.toArray⟩ := by
    intro l
    simp [strOfNums, Function.comp_def]
  have hrun : (convert src dst (.slice ad n cap)).run C.P w = .ok (.string ⟨xs.toArray⟩) w := by
    cases ad with
    | none =>
      have hn : n = 0 := by
        rcases Nat.eq_zero_or_pos n with h | h
        · exact h
        · obtain ⟨⟨ad, h1, _⟩, _⟩ := hv.2 0 0 h (by omega)
          cases h1
      have hx0 : xs = [] := List.length_eq_zero_iff.1 (by omega)
      rw [run_convert_bytes_nil w src e hs he _ _ dst hd, hx0]
      rfl
    | some ad =>
      obtain ⟨b, off, sp⟩ := ad
      rcases Nat.eq_zero_or_pos n with h0 | h0
      · have hx0 : xs = [] := List.length_eq_zero_iff.1 (by omega)
        subst h0
        rw [run_convert_bytes_string w src dst e _ _ _ hs he hd, hx0]
        simp [Conv.bytesToString, loadCells]
        rfl
      · have hsp : sp = none := by
          obtain ⟨⟨ad, h1, h2⟩, _⟩ := hv.2 0 0 h0 (by omega)
          injection h1 with h1
          subst h1
          cases sp with
          | none => rfl
          | some s =>
            exfalso
            simp only [roCell] at h2
            split at h2
            · split at h2
              · cases h2
              · rename_i hh
                simp [Addr.add] at hh
            · cases h2
        subst hsp
        have := run_convert_bytes_arg (P := C.P) w src e hs he b off n cap (xs.map fun u => ((u.toNat : Nat) : Int)) (by simpa using hl) (fun i hi => by
          obtain ⟨⟨ad, h1, h2⟩, _⟩ := hv.2 i 0 hi (by omega)
          injection h1 with h1
          subst h1
          rw [add_none] at h2
          have := g.sat.cell h2
          simp only [Nat.mul_one, Nat.add_zero, hf i hi, SV.den] at this
          rw [this]
          simp [List.getD_eq_getElem?_getD, show i < xs.length by omega]) dst hd
        rw [this, hstr]
  simp [execOp, oper0, e1, hden, hrun, SV.den]
end
end Go.SX
