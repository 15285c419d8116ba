/- The statement RaftWaits: for every input the law answers true, and the input reads as it did. No condition. -/
import Derived.Test.YtpbbpmhahkeekaaSxTJ12
import Derived.Test.YtpbbpmhahkeekaaRows
import Derived.OpenShut
namespace Go.Proofs.Ytpbbpmhahkeekaa
open Go.ChangeShapes Go.WideShapes Go.ChangeAt Go.RowKit

theorem raftWaits_own : ownKnob Try.prog.godebug = none := by kernel_rfl
theorem raftWaits_laid : laidOutB Try.prog = true := by kernel_rfl

set_option maxRecDepth 100000 in
theorem raftWaits_lifted (os : Os) (started : os.Started) (H : Type) (enc : TypeId × Value → H) :
    ReturnsInHanded {} Try.checked os 5 .any (Rows.raftWaitsSpec.pre6 enc Try.prog Try.f5 Rows.raftWaitsRow.domain false) (Rows.raftWaitsSpec.post enc Try.prog Try.f5 false true false false) := by
  refine returnsInHanded_of_change (C := Try.checked) raftWaits_own started (by kernel_rfl) Try.func5
    (ChangeSpec.witness6 (enc := enc) (C := Try.checked) false ⟨#[], #[.int .i64 0, .int .i64 0], []⟩ 8 (by kernel_rfl) (by kernel_rfl) (by kernel_rfl) (by kernel_rfl)) ?_
  intro W base args ds gs before hval0 hW hcnd _
  have hval : ∀ (j : Nat) t v, Try.f5.params[j]? = some t → args[j]? = some v → Value.okWide Try.prog W .any base t v := hval0
  have hW' := hW
  obtain ⟨p, q, hA0, hV, rfl, hfz, hnd⟩ := hW
  have hA : DataW.TrodAll enc Try.prog W 0 (fun _ => true) true Try.f5.params.toList args.toList ds p := hA0
  rw [Try.params5] at hA hval
  obtain ⟨v0, v1, d0, d1, p0, p1, rfl, rfl, rfl, h0, h1⟩ := trodAll_two hA
  obtain ⟨rfl, rfl⟩ := trodVars_none hV
  obtain ⟨x, rfl, _, _, wx⟩ := open_int Try.underlying3 (hval 0 3 v0 rfl rfl) h0
  obtain ⟨y, rfl, _, _, wy⟩ := open_int Try.underlying3 (hval 1 3 v1 rfl rfl) h1
  refine (SX.law_calls (P := Try.prog) (f := 5) (args := [SX.I x, SX.I y]) (SX.c5p x y) ?_).mono ?_
  · simp only [SX.SV.oks]
    exact ⟨by simp only [SX.SV.ok], by simp only [SX.SV.ok], trivial⟩
  · rintro e W' ⟨rfl, hb⟩
    exact ⟨_, rfl, SX.law_post (tb := 4) raftWaits_laid rfl (by rw [Try.params5]; intro t ht; simp only [List.mem_cons, List.not_mem_nil, or_false] at ht; rcases ht with rfl | rfl <;> exact ⟨by kernel_rfl, of_decide_eq_true (by kernel_rfl)⟩) (by kernel_rfl) (by kernel_rfl) hW' rfl rfl rfl hb⟩

theorem raftWaits_holds : Rows.RaftWaitsSaid :=
  OpenClaim.holds_of_wide 5 Try.f5 rfl rfl rfl rfl rfl rfl rfl ⟨rfl, rfl, rfl, rfl, rfl⟩ rfl rfl rfl rfl rfl (by kernel_rfl) Try.func5 (by kernel_rfl)
    (of_decide_eq_true (by kernel_rfl)) (by unfold Func.isWrapper; rw [if_neg (of_decide_eq_false (by kernel_rfl))]; exact ⟨rfl, rfl⟩)
    (fun os started H enc _ => raftWaits_lifted os started H enc)

#print axioms raftWaits_holds
end Go.Proofs.Ytpbbpmhahkeekaa
