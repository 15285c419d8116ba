/- What came in, opened: bytes. -/
import Derived.Test.YthpnhfnilogflaaSxK12
import Derived.SizedLaws
namespace Go.SX
open Go.ChangeShapes Go.WideShapes Go.RowKit Go.Deep
open Go.Proofs

theorem u8_back {n : Int} (h : (Lit.int .u8 n).wf = true) : ((UInt8.ofNat n.toNat).toNat : Int) = n := by
  obtain ⟨h1, h2⟩ := bounds_u8 h
  simp only [UInt8.toNat_ofNat']
  omega
/-- a slice's reading is as long as it -/
def LenD {H : Type} (d : DataW H) (n : Nat) : Prop := n = 0 ∨ ∃ el sp, d = .slice el sp ∧ n ≤ el.length + sp.length
theorem LenD.sized {H : Type} {P : Program} {ts : List TypeId} {ds : List (DataW H)} {d : DataW H} {n j : Nat} {t e : TypeId} (h : LenD d n) (hw : (DataW.weightsEach P ts ds).all (· ≤ reachBytes) = true) (ht : ts[j]? = some t) (hd : ds[j]? = some d)
    (hu : P.underlying t = some (.slice e)) (hb : 0 < P.bytesOf e) : n < 2 ^ 47 := by
  rcases h with rfl | ⟨el, sp, rfl, hn⟩
  · decide
  · have h1 := sized_slice hw ht hd hu
    have h2 := reachBytes_lt
    have h3 : (el.length + sp.length) * 1 ≤ (el.length + sp.length) * P.bytesOf e := Nat.mul_le_mul_left _ hb
    omega
/-- a slice of bytes, as it came in -/
theorem open_bytes {H : Type} {enc : TypeId × Value → H} {P : Program} {W : World} {t e : TypeId} {v : Value} {d : DataW H} {ps : List MemPlace} (ht : P.underlying t = some (.slice e)) (he : P.underlying e = some (.int .u8))
    (ce : P.cellsOf e = 1) {base : Nat} (hok : Value.okWide P W .any base t v) (h : DataW.Trod enc P W 0 (fun _ => true) true t v d ps) :
    ∃ a cap xs, v = (vB a cap xs).den ∧ (vB a cap xs).ok (roOf W) ∧ LenD d xs.length := by
  obtain ⟨a0, len0, cap0, rfl⟩ := okWide_slice ht hok
  obtain ⟨fuel, hf⟩ := h
  rcases open_ints ht he ce hf with ⟨hcs, _⟩ | ⟨a, len, cap, zs, hcs, _, hl, _, hz, hx, hc, hw⟩
  · have hcs' : [Value.slice a0 len0 cap0] = [.slice none 0 0] := hcs
    simp only [List.cons.injEq, and_true, Value.slice.injEq] at hcs'
    obtain ⟨rfl, rfl, rfl⟩ := hcs'
    exact ⟨none, 0, [], rfl, nilOk _ _ _, .inl rfl⟩
  · have hcs' : [Value.slice a0 len0 cap0] = [.slice (some a) len cap] := hcs
    simp only [List.cons.injEq, and_true, Value.slice.injEq] at hcs'
    obtain ⟨rfl, rfl, rfl⟩ := hcs'
    rw [if_pos rfl] at hz
    have hlen : ((zs.take len0).map fun n => UInt8.ofNat n.toNat).length = len0 := by simp; omega
    refine ⟨some a, cap0, (zs.take len0).map fun n => UInt8.ofNat n.toNat, by simp only [SV.den, hlen], ?_, .inr ⟨_, _, congrArg Prod.fst hx, by rw [hlen]; simp [lits]; omega⟩⟩
    simp only [SV.ok, hlen]
    refine ⟨hl, fun i j hi hj => ?_⟩
    obtain rfl : j = 0 := by omega
    refine ⟨⟨a, rfl, ?_⟩, trivial⟩
    rw [rowsB]
    simp only [SV.den, Nat.mul_one, Nat.add_zero]
    refine (roCell_of (hc i (by omega))).trans ?_
    congr 2
    have hz' : i < zs.length := by omega
    have e1 : zs.getD i 0 = zs[i] := by simp [List.getD_eq_getElem?_getD, hz']
    have e2 : ((zs.take len0).map fun n => UInt8.ofNat n.toNat).getD i 0 = UInt8.ofNat zs[i].toNat := by
      simp [List.getD_eq_getElem?_getD, hi, hz']
    rw [e1, e2, u8_back (hw _ (List.getElem_mem hz'))]
end Go.SX
