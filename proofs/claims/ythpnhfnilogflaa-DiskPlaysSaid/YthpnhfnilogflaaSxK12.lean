/- What came in, opened: numbers. -/
import Derived.Test.YthpnhfnilogflaaSxX
import Derived.Test.YthpnhfnilogflaaSxV
import Derived.Test.YthpnhfnilogflaaRows
import Derived.OpenShut
namespace Go.SX
open Go.ChangeShapes Go.WideShapes Go.RowKit Go.Deep
open Go.Proofs

/-- a slice of ints, as it came in -/
theorem open_ints2 {H : Type} {enc : TypeId × Value → H} {P : Program} {W : World} {t e : TypeId} {v : Value} {d : DataW H} {ps : List MemPlace} (ht : P.underlying t = some (.slice e)) (he : P.underlying e = some (.int .i64))
    (ce : P.cellsOf e = 1) {base : Nat} (hok : Value.okWide P W .any base t v) (h : DataW.Trod enc P W 0 (fun _ => true) true t v d ps) :
    ∃ a cap xs, v = (vI a cap xs).den ∧ (vI a cap xs).ok (roOf W) ∧ ∀ x ∈ xs, inI64 x := by
  obtain ⟨a0, len0, cap0, rfl⟩ := okWide_slice ht hok
  obtain ⟨fuel, hf⟩ := h
  rcases open_ints ht he ce hf with ⟨hcs, _⟩ | ⟨a, len, cap, zs, hcs, _, hl, _, hz, _, hc, hw⟩
  · have hcs' : [Value.slice a0 len0 cap0] = [.slice none 0 0] := hcs
    simp only [List.cons.injEq, and_true, Value.slice.injEq] at hcs'
    obtain ⟨rfl, rfl, rfl⟩ := hcs'
    exact ⟨none, 0, [], rfl, nilOk _ _ _, fun _ h => absurd h (by simp)⟩
  · have hcs' : [Value.slice a0 len0 cap0] = [.slice (some a) len cap] := hcs
    simp only [List.cons.injEq, and_true, Value.slice.injEq] at hcs'
    obtain ⟨rfl, rfl, rfl⟩ := hcs'
    rw [if_pos rfl] at hz
    have hlen : (zs.take len0).length = len0 := by simp; omega
    refine ⟨some a, cap0, zs.take len0, by simp [SV.den, hlen], ?_, fun x hx => ?_⟩
    · simp only [SV.ok, hlen]
      refine ⟨hl, fun i j hi hj => ?_⟩
      obtain rfl : j = 0 := by omega
      refine ⟨⟨a, rfl, ?_⟩, trivial⟩
      rw [rowsI]
      simp only [SV.den, Nat.mul_one, Nat.add_zero]
      refine (roCell_of (hc i (by omega))).trans ?_
      have e1 : (zs.take len0).getD i 0 = zs.getD i 0 := by simp [List.getD_eq_getElem?_getD, hi]
      rw [e1]
    · have := bounds_i64 (hw x (List.mem_of_mem_take hx))
      exact ⟨this.1, this.2⟩
end Go.SX
