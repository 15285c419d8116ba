/- A node that is the only voter leads, and commits what it is told at once: the statement RaftAlone, for every input. No condition. -/
import Derived.Test.YtpbbpmhahkeekaaSxR22
import Derived.Test.YtpbbpmhahkeekaaSxV
import Derived.Test.YtpbbpmhahkeekaaRows
import Derived.OpenShut
namespace Go.SX
open Go.ChangeShapes Go.WideShapes Go.RowKit Go.Deep
open Go.Proofs

theorem u8_back {n : Int} (h : (Lit.int .u8 n).wf = true) : ((UInt8.ofNat n.toNat).toNat : Int) = n := by
  obtain ⟨h1, h2⟩ := bounds_u8 h
  simp only [UInt8.toNat_ofNat']
  omega

/-- a slice of slices of bytes, as it came in -/
theorem open_bytes2 {H : Type} {enc : TypeId × Value → H} {P : Program} {W : World} {t e q : TypeId} {v : Value} {d : DataW H} {ps : List MemPlace} (ht : P.underlying t = some (.slice e)) (he : P.underlying e = some (.slice q)) (hq : P.underlying q = some (.int .u8))
    (ce : P.cellsOf e = 1) (cq : P.cellsOf q = 1) {base : Nat} (hok : Value.okWide P W .any base t v) (h : DataW.Trod enc P W 0 (fun _ => true) true t v d ps) :
    ∃ a cap ds, v = (vD a cap ds).den ∧ (vD a cap ds).ok (roOf W) := by
  obtain ⟨a0, len0, cap0, rfl⟩ := okWide_slice ht hok
  obtain ⟨fuel, hf⟩ := h
  rcases open_int_rows ht he hq ce cq hf with ⟨hcs, _⟩ | ⟨a, len, cap, A, L, C, Z, hcs, _, hl, _, _, hrow⟩
  · have hcs' : [Value.slice a0 len0 cap0] = [.slice none 0 0] := hcs
    simp only [List.cons.injEq, and_true, Value.slice.injEq] at hcs'
    obtain ⟨rfl, rfl, rfl⟩ := hcs'
    exact ⟨none, 0, [], rfl, nilOk _ _ _⟩
  · have hcs' : [Value.slice a0 len0 cap0] = [.slice (some a) len cap] := hcs
    simp only [List.cons.injEq, and_true, Value.slice.injEq] at hcs'
    obtain ⟨rfl, rfl, rfl⟩ := hcs'
    have hel : ∀ r, r < len0 → ((List.range len0).map fun r => (⟨A r, C r, ((Z r).take (L r)).map fun n => UInt8.ofNat n.toNat⟩ : By)).getD r ⟨none, 0, []⟩ = ⟨A r, C r, ((Z r).take (L r)).map fun n => UInt8.ofNat n.toNat⟩ := by
      intro r hr
      simp [List.getD_eq_getElem?_getD, hr]
    refine ⟨some a, cap0, (List.range len0).map fun r => ⟨A r, C r, ((Z r).take (L r)).map fun n => UInt8.ofNat n.toNat⟩, by simp [SV.den], ?_⟩
    simp only [SV.ok, List.length_map, List.length_range]
    refine ⟨hl, fun i j hi hj => ?_⟩
    obtain rfl : j = 0 := by omega
    obtain ⟨c1, c2, c3, c4, c5, c6, c7⟩ := hrow i (by omega)
    have hlen : (((Z i).take (L i)).map fun n => UInt8.ofNat n.toNat).length = L i := by simp; omega
    rw [rowsD0, hel i hi]
    refine ⟨⟨a, rfl, ?_⟩, ?_⟩
    · simp only [By.sv, SV.den, hlen, Nat.mul_one, Nat.add_zero]
      exact roCell_of c1
    · simp only [By.sv, SV.ok, hlen]
      refine ⟨c2, fun k j hk hj => ?_⟩
      obtain rfl : j = 0 := by omega
      cases hA : A i with
      | none => have := c6 hA; omega
      | some a' =>
        refine ⟨⟨a', rfl, ?_⟩, trivial⟩
        have hc := (c7 a' hA).2 k (by omega)
        have hz : k < (Z i).length := by omega
        have hw := c5 _ (List.getElem_mem hz)
        rw [rowsB]
        simp only [SV.den, Nat.mul_one, Nat.add_zero]
        refine (roCell_of hc).trans ?_
        congr 2
        have e1 : (Z i).getD k 0 = (Z i)[k] := by simp [List.getD_eq_getElem?_getD, hz]
        have e2 : (((Z i).take (L i)).map fun n => UInt8.ofNat n.toNat).getD k 0 = UInt8.ofNat (Z i)[k].toNat := by
          simp [List.getD_eq_getElem?_getD, hk, hz]
        rw [e1, e2, u8_back hw]
end Go.SX
