/- The statement ClerkDue, by its tied card: for every input the law answers true, and the input reads as it did. Conditions: the listed tables of the library (those of math/bits and of unicode/utf8) start as the program's text lays them, and the card ties that to the text of a pruned copy of the project; internal/bytealg.MaxLen may hold any value; no other condition. -/
import Derived.Test.YthlkoehifpnoeaaDoorSxCJ6
import Derived.Test.YthlkoehifpnoeaaDoorTie
import Derived.Test.YthlkoehifpnoeaaDoorCards
import Derived.LaidMore
import Derived.Lay
import Derived.ProofKit
import Derived.OpenShut
import Derived.SevenTiedAt
import Derived.Stop.Joined
namespace Go.Proofs.YthlkoehifpnoeaaDoor
open Go.ChangeShapes Go.WideShapes Go.ChangeAt Go.RowKit

theorem clerkDue_own : ownKnob Tryd.prog.godebug = none := by kernel_rfl
theorem clerkDue_laid : laidOutB Tryd.prog = true := by kernel_rfl

set_option maxRecDepth 100000 in
theorem clerkDue_lifted (os : Os) (started : os.Started) (H : Type) (enc : TypeId × Value → H) :
    ReturnsInHanded {} Tryd.checked os 3 .any (fun w args => (Rows.clerkDueSpec.pre enc Tryd.prog Tryd.f3 Rows.clerkDueRow.domain false w args ∧ laidMetH Tryd.prog Rows.clerkDueRow.laid w) ∧ sizedMet enc Tryd.prog Tryd.f3 (OpenSpec.ofChange Rows.clerkDueSpec) false w args)
      (Rows.clerkDueSpec.post enc Tryd.prog Tryd.f3 false true false false) := by
  refine SX.returns_and_shaped (C := Tryd.checked) (X := fun w _ => laidMetH Tryd.prog Rows.clerkDueRow.laid w) (fun _ _ _ hh h => h.of_heap hh) clerkDue_own started (by kernel_rfl) Tryd.func3
    (ChangeSpec.witness_shaped (enc := enc) (C := Tryd.checked) (os := os) (X := fun w _ => laidMetH Tryd.prog Rows.clerkDueRow.laid w) false (World.laidAll Tryd.prog os Rows.clerkDueRow.laid) #[.agg #[.string ⟨#[]⟩, .string ⟨#[]⟩, .int .i64 0, .int .i64 0, .int .i64 0, .bool false], .int .i64 0, .int .i64 0] 8 (World.laidAll_os _ _ _)
      (World.shaped_of_ZipB (by kernel_rfl) (by kernel_rfl)) (by kernel_rfl) (by kernel_rfl) (by kernel_rfl)
      (by rw [MakeChecks.laidMetH_plain _ _ _ (by kernel_rfl)]; exact laidMet_laidAll _ (by kernel_rfl) (by kernel_rfl))) ?_
  intro W base args ds gs before hval0 hW hw hL hsh
  have hval : ∀ (j : Nat) t v, Tryd.f3.params[j]? = some t → args[j]? = some v → Value.okWide Tryd.prog W .any base t v := hval0
  have hW' := hW
  obtain ⟨p, q, hA0, hV, rfl, hfz, hnd⟩ := hW
  have hA : DataW.TrodAll enc Tryd.prog W 0 (fun _ => true) true Tryd.f3.params.toList args.toList ds p := hA0
  rw [Tryd.params3] at hA hval hw
  obtain ⟨v0, v1, v2, d0, d1, d2, p0, p1, p2, rfl, rfl, rfl, h0, h1, h2⟩ := trodAll_three hA
  obtain ⟨rfl, rfl⟩ := trodVars_none hV
  obtain ⟨j, rfl, qj⟩ := SX.open_job (hval 0 23 v0 rfl rfl) h0
  obtain ⟨x, rfl, _, _, wx⟩ := open_int Tryd.underlying3 (hval 1 3 v1 rfl rfl) h1
  obtain ⟨y, rfl, _, _, wy⟩ := open_int Tryd.underlying3 (hval 2 3 v2 rfl rfl) h2
  obtain ⟨l1, l2⟩ := qj (SX.weights_at 0 hw rfl rfl)
  have hL' : laidMetH Tryd.prog Rows.clerkDueRow.laid W := hL
  rw [MakeChecks.laidMetH_plain _ _ _ (by kernel_rfl)] at hL'
  refine (SX.law_callsT (f := 3) (args := [SX.jobV j, SX.I x, SX.I y]) (SX.tab_ok hL' hsh) (SX.c3 j x y (by omega) (bounds_i64 wx) (bounds_i64 wy)) ?_).mono ?_
  · simp only [SX.SV.oks, SX.SV.ok, SX.jobV, and_self]
  · rintro e W' ⟨rfl, hb⟩
    exact ⟨_, rfl, SX.law_post (tb := 4) clerkDue_laid rfl (by rw [Tryd.params3]; intro t ht; simp only [List.mem_cons, List.not_mem_nil, or_false] at ht; rcases ht with rfl | rfl | rfl <;> exact ⟨by kernel_rfl, of_decide_eq_true (by kernel_rfl)⟩) (by kernel_rfl) (by kernel_rfl) hW' rfl rfl rfl hb⟩

theorem clerkDue_holds : Rows.ClerkDueSaid :=
  OpenClaim.holds_of_wide 3 Tryd.f3 rfl rfl rfl rfl rfl rfl rfl ⟨rfl, rfl, rfl, rfl, rfl⟩ rfl rfl rfl rfl rfl (by kernel_rfl) Tryd.func3 (by kernel_rfl)
    (of_decide_eq_true (by kernel_rfl)) (by unfold Func.isWrapper; rw [if_neg (of_decide_eq_false (by kernel_rfl))]; exact ⟨rfl, rfl⟩)
    (fun os started H enc _ => clerkDue_lifted os started H enc)

theorem clerkDue_card_holds : Rows.ClerkDueCardSaid :=
  Claim7.holds_tied_plain_at .later [] [.data, .data, .pinned] true (true, "e2742e698ae2f5e5ec55bcd9c4585f9357f175f877939b0734186cc405f73b39") false clerkDue_holds (fun _ h => by cases h) (by kernel_rfl) (fun _ h => by cases h) clerkDue_row_tie rfl ⟨rfl, rfl⟩ (by kernel_rfl) rfl
    (fun f fn hf hfn => by
      obtain rfl : f = 3 := Option.some.inj ((show Tryd.prog.funcNamed "horologe/horologelaw19.ClerkDue" = some 3 by kernel_rfl).symm.trans hf) |>.symm
      obtain rfl : fn = Tryd.f3 := (Option.some.inj (Tryd.func3.symm.trans hfn)).symm
      exact ⟨by kernel_rfl, fun j t ht => by
        rw [Tryd.params3] at ht
        have hm : t ∈ [23, 3, 3] := by simpa using Array.mem_of_getElem? ht
        have hall : ([23, 3, 3].all fun u => !Tryd.prog.wantsStandIn u) = true := by kernel_rfl
        exact (show Tryd.prog.wantsStandIn t = false by simpa using List.all_eq_true.1 hall t hm)⟩)
    (by kernel_rfl)
#print axioms clerkDue_holds
#print axioms clerkDue_card_holds
end Go.Proofs.YthlkoehifpnoeaaDoor
