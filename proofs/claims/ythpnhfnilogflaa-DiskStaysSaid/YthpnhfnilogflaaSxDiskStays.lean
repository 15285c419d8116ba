/- The statement DiskStays: for every input the law answers true, and the input reads as it did. No condition. -/
import Derived.Test.YthpnhfnilogflaaSxK16
import Derived.Test.YthpnhfnilogflaaSxK23
import Derived.Carry
namespace Go.Proofs.Ythpnhfnilogflaa
open Go.ChangeShapes Go.WideShapes Go.ChangeAt Go.RowKit

theorem diskStays_own : ownKnob Try.prog.godebug = none := by kernel_rfl
theorem diskStays_laid : laidOutB Try.prog = true := by kernel_rfl

set_option maxRecDepth 100000 in
theorem diskStays_lifted (os : Os) (started : os.Started) (H : Type) (enc : TypeId × Value → H) :
    ReturnsInHanded {} Try.checked os 6 .any (Rows.diskStaysSpec.pre6 enc Try.prog Try.f6 Rows.diskStaysRow.domain false) (Rows.diskStaysSpec.post enc Try.prog Try.f6 false true false false) := by
  refine returnsInHanded_of_change_sized (C := Try.checked) diskStays_own started (by kernel_rfl) Try.func6
    (ChangeSpec.witness6 (enc := enc) (C := Try.checked) false ⟨#[], #[.slice none 0 0, .slice none 0 0, .slice none 0 0, .slice none 0 0], []⟩ 8 (by kernel_rfl) (by kernel_rfl) (by kernel_rfl) (by kernel_rfl)) ?_
  intro W base args ds gs before hval0 hW hcnd hw _
  have hval : ∀ (j : Nat) t v, Try.f6.params[j]? = some t → args[j]? = some v → Value.okWide Try.prog W .any base t v := hval0
  have hW' := hW
  obtain ⟨p, q, hA0, hV, rfl, hfz, hnd⟩ := hW
  have hA : DataW.TrodAll enc Try.prog W 0 (fun _ => true) true Try.f6.params.toList args.toList ds p := hA0
  rw [Try.params6] at hA hval hw
  obtain ⟨v0, v1, v2, v3, d0, d1, d2, d3, p0, p1, p2, p3, rfl, rfl, rfl, h0, h1, h2, h3⟩ := trodAll_four hA
  obtain ⟨rfl, rfl⟩ := trodVars_none hV
  obtain ⟨a0, c0, x0, rfl, ok0, l0⟩ := SX.open_bytes (e := 5) (by kernel_rfl) (by kernel_rfl) (by kernel_rfl) (hval 0 _ v0 rfl rfl) h0
  obtain ⟨a1, c1, x1, rfl, ok1, l1⟩ := SX.open_bytes (e := 5) (by kernel_rfl) (by kernel_rfl) (by kernel_rfl) (hval 1 _ v1 rfl rfl) h1
  obtain ⟨s2, rfl, ok2, _⟩ := SX.open_slice (sz := 6) (e := 46) (by kernel_rfl) SX.opens_calls (hval 2 _ v2 rfl rfl) h2
  obtain ⟨a3, c3, x3, rfl, ok3, i3⟩ := SX.open_ints2 (e := 3) (by kernel_rfl) (by kernel_rfl) (by kernel_rfl) (hval 3 _ v3 rfl rfl) h3
  refine (SX.law_calls (P := Try.prog) (f := 6) (args := [SX.vB a0 c0 x0, SX.vB a1 c1 x1, SX.vC s2.a s2.cap s2.xs, SX.vI a3 c3 x3]) (SX.c6 a0 a1 s2.a a3 c0 c1 s2.cap c3 x0 x1 s2.xs x3 (l0.sized (j := 0) (e := 5) hw rfl rfl (by kernel_rfl) (of_decide_eq_true (by kernel_rfl))) (l1.sized (j := 1) (e := 5) hw rfl rfl (by kernel_rfl) (of_decide_eq_true (by kernel_rfl)))) ?_).mono ?_
  · simp only [SX.SV.oks]
    exact ⟨ok0, ok1, ok2, ok3, trivial⟩
  · rintro e W' ⟨rfl, hb⟩
    exact ⟨_, rfl, SX.law_post (tb := 4) diskStays_laid rfl (by rw [Try.params6]; intro t ht; simp only [List.mem_cons, List.not_mem_nil, or_false] at ht; rcases ht with rfl | rfl | rfl | rfl <;> exact ⟨by kernel_rfl, of_decide_eq_true (by kernel_rfl)⟩) (by kernel_rfl) (by kernel_rfl) hW' rfl rfl rfl hb⟩

theorem diskStays_holds : Rows.DiskStaysSaid :=
  OpenClaim.holds_of_wide 6 Try.f6 rfl rfl rfl rfl rfl rfl rfl ⟨rfl, rfl, rfl, rfl, rfl⟩ rfl rfl rfl rfl rfl (by kernel_rfl) Try.func6 (by kernel_rfl)
    (of_decide_eq_true (by kernel_rfl)) (by unfold Func.isWrapper; rw [if_neg (of_decide_eq_false (by kernel_rfl))]; exact ⟨rfl, rfl⟩)
    (fun os started H enc _ => diskStays_lifted os started H enc)

#print axioms diskStays_holds
end Go.Proofs.Ythpnhfnilogflaa
