/- The statement RaftVotes: for every input the law answers true, and the input reads as it did. No condition. -/
import Derived.Test.YtpbbpmhahkeekaaSxR33
namespace Go.Proofs.Ytpbbpmhahkeekaa
open Go.ChangeShapes Go.WideShapes Go.ChangeAt Go.RowKit

theorem raftVotes_own : ownKnob Try.prog.godebug = none := by kernel_rfl
theorem raftVotes_laid : laidOutB Try.prog = true := by kernel_rfl

set_option maxRecDepth 100000 in
theorem raftVotes_lifted (os : Os) (started : os.Started) (H : Type) (enc : TypeId × Value → H) :
    ReturnsInHanded {} Try.checked os 4 .any (Rows.raftVotesSpec.pre6 enc Try.prog Try.f4 Rows.raftVotesRow.domain false) (Rows.raftVotesSpec.post enc Try.prog Try.f4 false true false false) := by
  refine returnsInHanded_of_change (C := Try.checked) raftVotes_own started (by kernel_rfl) Try.func4
    (ChangeSpec.witness6 (enc := enc) (C := Try.checked) false ⟨#[], #[.slice none 0 0, .slice none 0 0, .slice none 0 0], []⟩ 8 (by kernel_rfl) (by kernel_rfl) (by kernel_rfl) (by kernel_rfl)) ?_
  intro W base args ds gs before hval0 hW hcnd _
  have hval : ∀ (j : Nat) t v, Try.f4.params[j]? = some t → args[j]? = some v → Value.okWide Try.prog W .any base t v := hval0
  have hW' := hW
  obtain ⟨p, q, hA0, hV, rfl, hfz, hnd⟩ := hW
  have hA : DataW.TrodAll enc Try.prog W 0 (fun _ => true) true Try.f4.params.toList args.toList ds p := hA0
  rw [Try.params4] at hA hval
  obtain ⟨v0, v1, v2, d0, d1, d2, p0, p1, p2, rfl, rfl, rfl, h0, h1, h2⟩ := trodAll_three hA
  obtain ⟨rfl, rfl⟩ := trodVars_none hV
  obtain ⟨a0, c0, x0, rfl, ok0, i0⟩ := SX.open_ints2 (e := 3) (by kernel_rfl) (by kernel_rfl) (by kernel_rfl) (hval 0 28 v0 rfl rfl) h0
  obtain ⟨a1, c1, x1, rfl, ok1, i1⟩ := SX.open_ints2 (e := 3) (by kernel_rfl) (by kernel_rfl) (by kernel_rfl) (hval 1 28 v1 rfl rfl) h1
  obtain ⟨a2, c2, x2, rfl, ok2, i2⟩ := SX.open_ints2 (e := 3) (by kernel_rfl) (by kernel_rfl) (by kernel_rfl) (hval 2 28 v2 rfl rfl) h2
  refine (SX.law_calls (P := Try.prog) (f := 4) (args := [SX.vI a0 c0 x0, SX.vI a1 c1 x1, SX.vI a2 c2 x2]) (SX.c4 a0 a1 a2 c0 c1 c2 x0 x1 x2 i2) ?_).mono ?_
  · simp only [SX.SV.oks]
    exact ⟨ok0, ok1, ok2, trivial⟩
  · rintro e W' ⟨rfl, hb⟩
    exact ⟨_, rfl, SX.law_post (tb := 4) raftVotes_laid rfl (by rw [Try.params4]; intro t ht; simp only [List.mem_cons, List.not_mem_nil, or_false] at ht; rcases ht with rfl | rfl | rfl <;> exact ⟨by kernel_rfl, of_decide_eq_true (by kernel_rfl)⟩) (by kernel_rfl) (by kernel_rfl) hW' rfl rfl rfl hb⟩

theorem raftVotes_holds : Rows.RaftVotesSaid :=
  OpenClaim.holds_of_wide 4 Try.f4 rfl rfl rfl rfl rfl rfl rfl ⟨rfl, rfl, rfl, rfl, rfl⟩ rfl rfl rfl rfl rfl (by kernel_rfl) Try.func4 (by kernel_rfl)
    (of_decide_eq_true (by kernel_rfl)) (by unfold Func.isWrapper; rw [if_neg (of_decide_eq_false (by kernel_rfl))]; exact ⟨rfl, rfl⟩)
    (fun os started H enc _ => raftVotes_lifted os started H enc)

#print axioms raftVotes_holds
end Go.Proofs.Ytpbbpmhahkeekaa
