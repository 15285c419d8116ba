/- The statement DiskPlays: for every input the law answers true, and the input reads as it did. No condition. -/
import Derived.Test.YthpnhfnilogflaaSxK12
import Derived.Test.YthpnhfnilogflaaSxK33
import Derived.SizedLaws
namespace Go.Proofs.Ythpnhfnilogflaa
open Go.ChangeShapes Go.WideShapes Go.ChangeAt Go.RowKit

theorem diskPlays_own : ownKnob Try.prog.godebug = none := by kernel_rfl
theorem diskPlays_laid : laidOutB Try.prog = true := by kernel_rfl

set_option maxRecDepth 100000 in
theorem diskPlays_lifted (os : Os) (started : os.Started) (H : Type) (enc : TypeId × Value → H) :
    ReturnsInHanded {} Try.checked os 8 .any (Rows.diskPlaysSpec.pre6 enc Try.prog Try.f8 Rows.diskPlaysRow.domain false) (Rows.diskPlaysSpec.post enc Try.prog Try.f8 false true false false) := by
  refine returnsInHanded_of_change_sized (C := Try.checked) diskPlays_own started (by kernel_rfl) Try.func8
    (ChangeSpec.witness6 (enc := enc) (C := Try.checked) false ⟨#[], #[.int .i64 0, .slice none 0 0], []⟩ 8 (by kernel_rfl) (by kernel_rfl) (by kernel_rfl) (by kernel_rfl)) ?_
  intro W base args ds gs before hval0 hW hcnd hw _
  have hval : ∀ (j : Nat) t v, Try.f8.params[j]? = some t → args[j]? = some v → Value.okWide Try.prog W .any base t v := hval0
  have hW' := hW
  obtain ⟨p, q, hA0, hV, rfl, hfz, hnd⟩ := hW
  have hA : DataW.TrodAll enc Try.prog W 0 (fun _ => true) true Try.f8.params.toList args.toList ds p := hA0
  rw [Try.params8] at hA hval hw
  obtain ⟨v0, v1, d0, d1, p0, p1, rfl, rfl, rfl, h0, h1⟩ := trodAll_two hA
  obtain ⟨rfl, rfl⟩ := trodVars_none hV
  have hu := hval 0 3 v0 rfl rfl
  obtain ⟨x, rfl, _, _, wx⟩ := open_int Try.underlying3 hu h0
  obtain ⟨s2, rfl, ok2, q2⟩ := SX.open_slice (sz := 6) (e := 46) (by kernel_rfl) SX.opens_calls (hval 1 _ v1 rfl rfl) h1
  refine (SX.law_calls (P := Try.prog) (f := 8) (args := [SX.I x, SX.vC s2.a s2.cap s2.xs]) (SX.c8 x s2.a s2.cap s2.xs (bounds_i64 wx) (q2 (SX.weights_at 1 hw rfl rfl)).2) ?_).mono ?_
  · simp only [SX.SV.oks]
    exact ⟨by simp only [SX.SV.ok], ok2, trivial⟩
  · rintro e W' ⟨rfl, hb⟩
    exact ⟨_, rfl, SX.law_post (tb := 4) diskPlays_laid rfl (by rw [Try.params8]; intro t ht; simp only [List.mem_cons, List.not_mem_nil, or_false] at ht; rcases ht with rfl | rfl <;> exact ⟨by kernel_rfl, of_decide_eq_true (by kernel_rfl)⟩) (by kernel_rfl) (by kernel_rfl) hW' rfl rfl rfl hb⟩

theorem diskPlays_holds : Rows.DiskPlaysSaid :=
  OpenClaim.holds_of_wide 8 Try.f8 rfl rfl rfl rfl rfl rfl rfl ⟨rfl, rfl, rfl, rfl, rfl⟩ rfl rfl rfl rfl rfl (by kernel_rfl) Try.func8 (by kernel_rfl)
    (of_decide_eq_true (by kernel_rfl)) (by unfold Func.isWrapper; rw [if_neg (of_decide_eq_false (by kernel_rfl))]; exact ⟨rfl, rfl⟩)
    (fun os started H enc _ => diskPlays_lifted os started H enc)

#print axioms diskPlays_holds
end Go.Proofs.Ythpnhfnilogflaa
