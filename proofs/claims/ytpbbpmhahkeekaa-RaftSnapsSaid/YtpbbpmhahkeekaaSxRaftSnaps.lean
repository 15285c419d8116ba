/- The statement RaftSnaps: for every input the law answers true, and the input reads as it did. No condition. -/
import Derived.Test.YtpbbpmhahkeekaaSxTJ13
import Derived.Test.YtpbbpmhahkeekaaRows
import Derived.OpenShut
namespace Go.Proofs.Ytpbbpmhahkeekaa
open Go.ChangeShapes Go.WideShapes Go.ChangeAt Go.RowKit

theorem raftSnaps_own : ownKnob Try.prog.godebug = none := by kernel_rfl
theorem raftSnaps_laid : laidOutB Try.prog = true := by kernel_rfl

set_option maxRecDepth 100000 in
theorem raftSnaps_lifted (os : Os) (started : os.Started) (H : Type) (enc : TypeId × Value → H) :
    ReturnsInHanded {} Try.checked os 9 .any (Rows.raftSnapsSpec.pre6 enc Try.prog Try.f9 Rows.raftSnapsRow.domain false) (Rows.raftSnapsSpec.post enc Try.prog Try.f9 false true false false) := by
  refine returnsInHanded_of_change (C := Try.checked) raftSnaps_own started (by kernel_rfl) Try.func9
    (ChangeSpec.witness6 (enc := enc) (C := Try.checked) false ⟨#[], #[.int .i64 0, .int .i64 0, .int .i64 0], []⟩ 8 (by kernel_rfl) (by kernel_rfl) (by kernel_rfl) (by kernel_rfl)) ?_
  intro W base args ds gs before hval0 hW hcnd _
  have hval : ∀ (j : Nat) t v, Try.f9.params[j]? = some t → args[j]? = some v → Value.okWide Try.prog W .any base t v := hval0
  have hW' := hW
  obtain ⟨p, q, hA0, hV, rfl, hfz, hnd⟩ := hW
  have hA : DataW.TrodAll enc Try.prog W 0 (fun _ => true) true Try.f9.params.toList args.toList ds p := hA0
  rw [Try.params9] at hA hval
  obtain ⟨v0, v1, v2, d0, d1, d2, p0, p1, p2, rfl, rfl, rfl, h0, h1, h2⟩ := trodAll_three hA
  obtain ⟨rfl, rfl⟩ := trodVars_none hV
  obtain ⟨x, rfl, _, _, wx⟩ := open_int Try.underlying3 (hval 0 3 v0 rfl rfl) h0
  obtain ⟨y, rfl, _, _, wy⟩ := open_int Try.underlying3 (hval 1 3 v1 rfl rfl) h1
  obtain ⟨z, rfl, _, _, wz⟩ := open_int Try.underlying3 (hval 2 3 v2 rfl rfl) h2
  refine (SX.law_calls (P := Try.prog) (f := 9) (args := [SX.I x, SX.I y, SX.I z]) (SX.c9p x y z) ?_).mono ?_
  · simp only [SX.SV.oks]
    exact ⟨by simp only [SX.SV.ok], by simp only [SX.SV.ok], by simp only [SX.SV.ok], trivial⟩
  · rintro e W' ⟨rfl, hb⟩
    exact ⟨_, rfl, SX.law_post (tb := 4) raftSnaps_laid rfl (by rw [Try.params9]; intro t ht; simp only [List.mem_cons, List.not_mem_nil, or_false] at ht; rcases ht with rfl | rfl | rfl <;> exact ⟨by kernel_rfl, of_decide_eq_true (by kernel_rfl)⟩) (by kernel_rfl) (by kernel_rfl) hW' rfl rfl rfl hb⟩

theorem raftSnaps_holds : Rows.RaftSnapsSaid :=
  OpenClaim.holds_of_wide 9 Try.f9 rfl rfl rfl rfl rfl rfl rfl ⟨rfl, rfl, rfl, rfl, rfl⟩ rfl rfl rfl rfl rfl (by kernel_rfl) Try.func9 (by kernel_rfl)
    (of_decide_eq_true (by kernel_rfl)) (by unfold Func.isWrapper; rw [if_neg (of_decide_eq_false (by kernel_rfl))]; exact ⟨rfl, rfl⟩)
    (fun os started H enc _ => raftSnaps_lifted os started H enc)

#print axioms raftSnaps_holds
end Go.Proofs.Ytpbbpmhahkeekaa
