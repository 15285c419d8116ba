/- The statement DiskPublish: for every input the law answers true, and the input reads as it did. No condition. -/
import Derived.Test.YthpnhfnilogflaaSxK16
import Derived.Test.YthpnhfnilogflaaSxK18
import Derived.Carry
namespace Go.Proofs.Ythpnhfnilogflaa
open Go.ChangeShapes Go.WideShapes Go.ChangeAt Go.RowKit

theorem diskPublish_own : ownKnob Try.prog.godebug = none := by kernel_rfl
theorem diskPublish_laid : laidOutB Try.prog = true := by kernel_rfl

set_option maxRecDepth 100000 in
theorem diskPublish_lifted (os : Os) (started : os.Started) (H : Type) (enc : TypeId × Value → H) :
    ReturnsInHanded {} Try.checked os 5 .any (Rows.diskPublishSpec.pre6 enc Try.prog Try.f5 Rows.diskPublishRow.domain false) (Rows.diskPublishSpec.post enc Try.prog Try.f5 false true false false) := by
  refine returnsInHanded_of_change_sized (C := Try.checked) diskPublish_own started (by kernel_rfl) Try.func5
    (ChangeSpec.witness6 (enc := enc) (C := Try.checked) false ⟨#[], #[.slice none 0 0, .slice none 0 0, .int .i64 0, .slice none 0 0], []⟩ 8 (by kernel_rfl) (by kernel_rfl) (by kernel_rfl) (by kernel_rfl)) ?_
  intro W base args ds gs before hval0 hW hcnd hw _
  have hval : ∀ (j : Nat) t v, Try.f5.params[j]? = some t → args[j]? = some v → Value.okWide Try.prog W .any base t v := hval0
  have hW' := hW
  obtain ⟨p, q, hA0, hV, rfl, hfz, hnd⟩ := hW
  have hA : DataW.TrodAll enc Try.prog W 0 (fun _ => true) true Try.f5.params.toList args.toList ds p := hA0
  rw [Try.params5] at hA hval hw
  obtain ⟨v0, v1, v2, v3, d0, d1, d2, d3, p0, p1, p2, p3, rfl, rfl, rfl, h0, h1, h2, h3⟩ := trodAll_four hA
  obtain ⟨rfl, rfl⟩ := trodVars_none hV
  obtain ⟨a0, c0, x0, rfl, ok0, l0⟩ := SX.open_bytes (e := 5) (by kernel_rfl) (by kernel_rfl) (by kernel_rfl) (hval 0 _ v0 rfl rfl) h0
  obtain ⟨a1, c1, x1, rfl, ok1, l1⟩ := SX.open_bytes (e := 5) (by kernel_rfl) (by kernel_rfl) (by kernel_rfl) (hval 1 _ v1 rfl rfl) h1
  obtain ⟨x, rfl, _, _, wx⟩ := open_int Try.underlying3 (hval 2 3 v2 rfl rfl) h2
  obtain ⟨a3, c3, x3, rfl, ok3, i3⟩ := SX.open_ints2 (e := 3) (by kernel_rfl) (by kernel_rfl) (by kernel_rfl) (hval 3 _ v3 rfl rfl) h3
  refine (SX.law_calls (P := Try.prog) (f := 5) (args := [SX.vB a0 c0 x0, SX.vB a1 c1 x1, SX.I x, SX.vI a3 c3 x3]) (SX.c5 a0 a1 a3 c0 c1 c3 x0 x1 x x3 (l0.sized (j := 0) (e := 5) hw rfl rfl (by kernel_rfl) (of_decide_eq_true (by kernel_rfl))) (l1.sized (j := 1) (e := 5) hw rfl rfl (by kernel_rfl) (of_decide_eq_true (by kernel_rfl)))) ?_).mono ?_
  · simp only [SX.SV.oks]
    exact ⟨ok0, ok1, by simp only [SX.SV.ok], ok3, trivial⟩
  · rintro e W' ⟨rfl, hb⟩
    exact ⟨_, rfl, SX.law_post (tb := 4) diskPublish_laid rfl (by rw [Try.params5]; intro t ht; simp only [List.mem_cons, List.not_mem_nil, or_false] at ht; rcases ht with rfl | rfl | rfl | rfl <;> exact ⟨by kernel_rfl, of_decide_eq_true (by kernel_rfl)⟩) (by kernel_rfl) (by kernel_rfl) hW' rfl rfl rfl hb⟩

theorem diskPublish_holds : Rows.DiskPublishSaid :=
  OpenClaim.holds_of_wide 5 Try.f5 rfl rfl rfl rfl rfl rfl rfl ⟨rfl, rfl, rfl, rfl, rfl⟩ rfl rfl rfl rfl rfl (by kernel_rfl) Try.func5 (by kernel_rfl)
    (of_decide_eq_true (by kernel_rfl)) (by unfold Func.isWrapper; rw [if_neg (of_decide_eq_false (by kernel_rfl))]; exact ⟨rfl, rfl⟩)
    (fun os started H enc _ => diskPublish_lifted os started H enc)

#print axioms diskPublish_holds
end Go.Proofs.Ythpnhfnilogflaa
