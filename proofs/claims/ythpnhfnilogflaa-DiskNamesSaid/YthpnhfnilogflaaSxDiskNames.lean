/- The statement DiskNames: for every input the law answers true, and the input reads as it did. No condition. -/
import Derived.Test.YthpnhfnilogflaaSxK12
import Derived.Test.YthpnhfnilogflaaSxK21
namespace Go.Proofs.Ythpnhfnilogflaa
open Go.ChangeShapes Go.WideShapes Go.ChangeAt Go.RowKit

theorem diskNames_own : ownKnob Try.prog.godebug = none := by kernel_rfl
theorem diskNames_laid : laidOutB Try.prog = true := by kernel_rfl

set_option maxRecDepth 100000 in
theorem diskNames_lifted (os : Os) (started : os.Started) (H : Type) (enc : TypeId × Value → H) :
    ReturnsInHanded {} Try.checked os 7 .any (Rows.diskNamesSpec.pre6 enc Try.prog Try.f7 Rows.diskNamesRow.domain false) (Rows.diskNamesSpec.post enc Try.prog Try.f7 false true false false) := by
  refine returnsInHanded_of_change (C := Try.checked) diskNames_own started (by kernel_rfl) Try.func7
    (ChangeSpec.witness6 (enc := enc) (C := Try.checked) false ⟨#[], #[.slice none 0 0, .slice none 0 0], []⟩ 8 (by kernel_rfl) (by kernel_rfl) (by kernel_rfl) (by kernel_rfl)) ?_
  intro W base args ds gs before hval0 hW hcnd _
  have hval : ∀ (j : Nat) t v, Try.f7.params[j]? = some t → args[j]? = some v → Value.okWide Try.prog W .any base t v := hval0
  have hW' := hW
  obtain ⟨p, q, hA0, hV, rfl, hfz, hnd⟩ := hW
  have hA : DataW.TrodAll enc Try.prog W 0 (fun _ => true) true Try.f7.params.toList args.toList ds p := hA0
  rw [Try.params7] at hA hval
  obtain ⟨v0, v1, d0, d1, p0, p1, rfl, rfl, rfl, h0, h1⟩ := trodAll_two hA
  obtain ⟨rfl, rfl⟩ := trodVars_none hV
  obtain ⟨a0, c0, x0, rfl, ok0, i0⟩ := SX.open_ints2 (e := 3) (by kernel_rfl) (by kernel_rfl) (by kernel_rfl) (hval 0 _ v0 rfl rfl) h0
  obtain ⟨a1, c1, x1, rfl, ok1, i1⟩ := SX.open_ints2 (e := 3) (by kernel_rfl) (by kernel_rfl) (by kernel_rfl) (hval 1 _ v1 rfl rfl) h1
  refine (SX.law_calls (P := Try.prog) (f := 7) (args := [SX.vI a0 c0 x0, SX.vI a1 c1 x1]) (SX.c7 a0 a1 c0 c1 x0 x1 i0) ?_).mono ?_
  · simp only [SX.SV.oks]
    exact ⟨ok0, ok1, trivial⟩
  · rintro e W' ⟨rfl, hb⟩
    exact ⟨_, rfl, SX.law_post (tb := 4) diskNames_laid rfl (by rw [Try.params7]; intro t ht; simp only [List.mem_cons, List.not_mem_nil, or_false] at ht; rcases ht with rfl | rfl <;> exact ⟨by kernel_rfl, of_decide_eq_true (by kernel_rfl)⟩) (by kernel_rfl) (by kernel_rfl) hW' rfl rfl rfl hb⟩

theorem diskNames_holds : Rows.DiskNamesSaid :=
  OpenClaim.holds_of_wide 7 Try.f7 rfl rfl rfl rfl rfl rfl rfl ⟨rfl, rfl, rfl, rfl, rfl⟩ rfl rfl rfl rfl rfl (by kernel_rfl) Try.func7 (by kernel_rfl)
    (of_decide_eq_true (by kernel_rfl)) (by unfold Func.isWrapper; rw [if_neg (of_decide_eq_false (by kernel_rfl))]; exact ⟨rfl, rfl⟩)
    (fun os started H enc _ => diskNames_lifted os started H enc)

#print axioms diskNames_holds
end Go.Proofs.Ythpnhfnilogflaa
