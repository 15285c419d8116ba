/- The law of what is one's own: its walk. -/
import Derived.Test.YthpnhfnilogflaaSxK18
import Derived.Test.YthpnhfnilogflaaSxZA
namespace Go.SX
open Go.Proofs
set_option maxRecDepth 1000000
variable {E : Env}

def listF (p : PS) : List (List UInt8) × Int := if p.dead then ([], 13) else (namesF p.fs, 0)
theorem kList {b n : Nat} {d : DS} (c : Nat) (h : PInv d.ps n) (hn : n ≤ 2 ^ 19) : Spec Try.prog E 14 [.ptr 0 b 0] (dO b d) (fun v hp => ∃ nl b' off cap, v = .tup [.osl c nl b' off (listF d.ps).1.length cap, I (listF d.ps).2] ∧
    hp = dO b d ++ [.row nl b' 9 off 1 (listF d.ps).1.length cap (rowsV encT (listF d.ps).1)]) :=
  (c14 b d c (by have := h.ln; simp only [DS.ps, List.length_map] at this; omega)).post fun _ _ h => by
    unfold ListP at h
    have e : listL d = listF d.ps := by unfold listL listF; rw [names_fs]; rfl
    rw [e] at h
    exact h
theorem byte_of (x t : Int) : ∃ z : UInt8, bitsI .xor .u8 x t = (z.toNat : Nat) := by
  refine ⟨UInt8.ofNat (bitsI .xor .u8 x t).toNat, ?_⟩
  simp only [bitsI, IntKind.wrap_u8', UInt8.toNat_ofNat']
  omega
theorem rows_set {zs : List UInt8} {i : Nat} {z : UInt8} (hi : i < zs.length) : ∀ k j, k < zs.length → j < 1 → updF (rowsV encB zs) i 0 [.val (.int .u8 (z.toNat : Nat))] k j = rowsV encB (zs.set i z) k j := by
  intro k j hk hj
  obtain rfl : j = 0 := by omega
  have e1 : (Nat.ble 0 0 && Nat.blt 0 1) = true := rfl
  by_cases h : k = i
  · subst h
    simp [updF, rowsV, encB, List.getD_eq_getElem?_getD, hk, e1]
  · have e2 : (k == i) = false := by simpa using h
    simp [updF, rowsV, encB, List.getD_eq_getElem?_getD, Ne.symm h, e2]

theorem c3 (a : Option Addr) (cap : Nat) (data : List UInt8) (t : Int) : Spec Try.prog E 3 [vB a cap data, .val (.int .u8 t)] [] (fun v _ => v = Bl true) := by
  refine spec_of (keep := k3) (args' := [vB a cap data, .val (.int .u8 t)]) Try.func3 rfl Try.ntmps3 s3_ok (by simp) ⟨rfl, fun _ h => h⟩ (fun _ _ h => h) (go_ok _ 100 _ _ ?_)
  simp only [go_sem, s3, k3, Nat.reduceBEq, Nat.zero_add]
  refine (stp_call [] rfl rfl rfl ⟨_, Try.func10, rfl, rfl⟩ (c10.leave (Post' := fun v hp => v = Bl true ∧ hp = []) fun _ hp h => ⟨[], hp, rfl, h.1, rfl⟩) rfl (fun _ h => h) rfl (fun _ _ h => h) ?_).safe trivial
  rintro v hp ⟨rfl, rfl⟩
  refine ⟨trivial, go_ok _ 100 _ _ ?_⟩
  simp only [go_sem, Nat.reduceBEq, Try.results3]
  intro hsm
  have hlen : data.length ≤ 1000 := by simp at hsm; omega
  refine (stp_call [] rfl rfl rfl ⟨_, Try.func11, rfl, rfl⟩ (c11 65536 0) rfl (fun _ h => h) rfl (fun _ _ h => h) ?_).safe trivial
  rintro v hp (⟨h, _, _⟩ | ⟨_, b, M, rfl, rfl⟩)
  · exact absurd h (by decide)
  obtain ⟨d0, hdO, e0⟩ : ∃ d0 : DS, [Chunk.cells b 68 [I 65536, .val (.map (some M)), I 0, I 0, Bl false], mpC kvS M (⟨65536, 0, 0, false, M, []⟩ : DS).mp, sepC []] = dO b d0 ∧ d0.ps = ⟨65536, 0, 0, false, []⟩ := ⟨⟨65536, 0, 0, false, M, []⟩, rfl, rfl⟩
  have i0 : PInv d0.ps 0 := by rw [e0]; exact PInv.new (by decide) (by decide) 0
  refine ⟨trivial, go_ok _ 100 _ _ ?_⟩
  simp only [go_sem, Nat.reduceBEq, Nat.reduceAdd, Nat.zero_add]
  intro b1
  refine (stp_app2 (c := 3) (b := b1) (off := 0) (nl := false) (n := 0) (cap := 0) (x := vB a cap data) (gx := rowsV encB data) (m := data.length) (f := litF 1 []) (f2 := rowsV encB data) (N := data.length) rfl rfl rfl rfl rfl (onesF_rows fun x => ⟨rfl, by simp [encB, ones, one, Value.oneCell']⟩) (by omega) (by simp) (fun i j hi hj => by rw [appF_zero]) fun nl bo off cap' => ?_).safe trivial
  refine ⟨trivial, go_ok _ 100 _ _ ?_⟩
  simp only [go_sem, Nat.reduceBEq]
  refine (stp_call [0, 1, 2, 3] (args := [.ptr 0 b 0, T [97], .osl 3 nl bo off data.length cap']) rfl rfl rfl ⟨_, Try.func12, rfl, rfl⟩ (kAppO [97] nl bo off cap' data i0 (by decide) (by omega)) rfl (fun _ h => h) rfl (fun ro H h => by rw [← hdO]; exact h) ?_).safe trivial
  rintro v hp ⟨rfl, d1, e1, rfl⟩
  have i1 : PInv d1.ps 1 := by rw [e1]; exact i0.app (by omega)
  rw [e0, app_ok rfl (by decide) (by simp [sumF]; omega)] at e1
  have e1' : d1.ps = ⟨65536, 1, 0, false, [⟨[97], data, 0⟩]⟩ := e1
  clear i0 e1
  refine ⟨trivial, go_ok _ 100 _ _ ?_⟩
  simp only [go_sem, List.cons_append, List.nil_append, Nat.reduceBEq]
  refine safe_loop (ι := {q : Nat × List UInt8 // q.2.length = data.length}) (fun q => ⟨[(0, vB a cap data), (1, .val (.int .u8 t)), (5, .ptr 0 b 0), (7, .osl 3 nl bo off data.length cap'), (8, I q.1.1)], dO b d1 ++ [.row nl bo 5 off 1 data.length cap' (rowsV encB q.1.2)]⟩) (fun q => data.length - q.1.1)
    ⟨(0, data), rfl⟩ (Sub.front (X := []) ⟨rfl, rfl, rfl, rfl, rfl, trivial⟩ rfl) ?_
  rintro ⟨⟨i, zs⟩, hz⟩
  simp only at hz ⊢
  refine go_ok _ 100 _ _ ?_
  simp only [go_sem, List.cons_append, List.nil_append, Nat.reduceBEq, Nat.zero_add, Int.toNat_natCast]
  refine ⟨fun h => ?_, fun _ => ?_⟩
  · have hlt : i < data.length := by simpa using h
    obtain ⟨z, hzz⟩ := byte_of ((zs.getD i 0).toNat : Nat) t
    rw [hzz]
    refine ⟨by omega, by omega, by omega, by omega, by simp only [inI64]; omega, ?_⟩
    refine safe_sees (hp' := dO b d1 ++ [.row nl bo 5 off 1 data.length cap' (rowsV encB (zs.set i z))]) (Sees.app (Sees.refl (dO b d1)) (Sees.cons (fun ro H h => ⟨H, [], by simp, row_congr (fun k j hk hj => rows_set (by omega) k j (by omega) hj) h⟩) (Sees.refl []))) ?_
    exact safe_lend ⟨(i + 1, zs.set i z), by simpa using hz⟩ (by simp only; omega) (Sub.front (X := []) ⟨rfl, rfl, rfl, rfl, rfl, trivial⟩ rfl)
  clear hz
  have hrd : readF d1.ps.fs d1.ps.dead [97] = (data, 0) := by rw [e1']; rfl
  refine (stp_call [0, 1, 2] (args := [.ptr 0 b 0, T [97]]) rfl rfl rfl ⟨_, Try.func13, rfl, rfl⟩ (kRead 4 [97] i1 (by decide)) rfl (fun _ h => h) rfl (fun ro H h => h) ?_).safe trivial
  rintro v hp ⟨nl2, b2, off2, cap2, rfl, rfl⟩
  rw [hrd]
  refine ⟨trivial, go_ok _ 100 _ _ ?_⟩
  simp only [go_sem, List.cons_append, List.nil_append, Nat.reduceBEq]
  refine safe_loop (ι := {q : Nat × List UInt8 // q.2.length = data.length}) (fun q => ⟨[(0, vB a cap data), (1, .val (.int .u8 t)), (5, .ptr 0 b 0), (9, .osl 4 nl2 b2 off2 data.length cap2), (11, I q.1.1)], dO b d1 ++ [.row nl bo 5 off 1 data.length cap' (rowsV encB zs), .row nl2 b2 5 off2 1 data.length cap2 (rowsV encB q.1.2)]⟩) (fun q => data.length - q.1.1)
    ⟨(0, data), rfl⟩ (Sub.front (X := []) ⟨rfl, rfl, rfl, rfl, rfl, trivial⟩ rfl) ?_
  rintro ⟨⟨i2, zs2⟩, hz⟩
  simp only at hz ⊢
  refine go_ok _ 100 _ _ ?_
  simp only [go_sem, List.cons_append, List.nil_append, Nat.reduceBEq, Nat.reduceAdd, Nat.zero_add, Int.toNat_natCast]
  refine ⟨fun h => ?_, fun _ => ?_⟩
  · have hlt : i2 < data.length := by simpa using h
    obtain ⟨z, hzz⟩ := byte_of ((zs2.getD i2 0).toNat : Nat) t
    rw [hzz]
    refine ⟨by omega, by omega, by omega, by omega, by simp only [inI64]; omega, ?_⟩
    refine safe_sees (hp' := (dO b d1 ++ [.row nl bo 5 off 1 data.length cap' (rowsV encB zs)]) ++ [.row nl2 b2 5 off2 1 data.length cap2 (rowsV encB (zs2.set i2 z))]) (Sees.app (Sees.refl (dO b d1 ++ [_])) (Sees.cons (fun ro H h => ⟨H, [], by simp, row_congr (fun k j hk hj => rows_set (by omega) k j (by omega) hj) h⟩) (Sees.refl []))) ?_
    exact safe_lend ⟨(i2 + 1, zs2.set i2 z), by simpa using hz⟩ (by simp only; omega) (Sub.front (X := []) ⟨rfl, rfl, rfl, rfl, rfl, trivial⟩ rfl)
  intro b3
  refine (stp_app2 (c := 4) (b := b2) (off := off2) (nl := nl2) (n := data.length) (cap := cap2) (x := .osl 5 false b3 0 2 2) (gx := litF 1 [.val (.int .u8 1), .val (.int .u8 2)]) (m := 2) (f := rowsV encB zs2) (f2 := rowsV encB (zs2 ++ [1, 2])) (N := data.length + 2) rfl rfl rfl rfl ⟨rfl, rfl, rfl, rfl, Nat.le_refl _⟩
    (fun i j hi hj => ?_) (by omega) rfl (fun i j hi hj => ?_) fun nl4 b4 off4 cap4 => ?_).safe trivial
  · obtain rfl : j = 0 := by omega
    rcases i with _ | _ | i <;> first | omega | rfl
  · obtain rfl : j = 0 := by omega
    rw [← hz] at hi ⊢
    by_cases hlt : i < zs2.length
    · have hb : Nat.blt i zs2.length = true := by rw [Nat.blt_eq]; exact hlt
      simp [appF, rowsV, encB, List.getD_eq_getElem?_getD, List.getElem?_append, hlt, hb]
    · have hb : Nat.blt i zs2.length = false := Bool.eq_false_iff.2 (by rw [ne_eq, Nat.blt_eq]; exact hlt)
      obtain ⟨k, rfl⟩ : ∃ k, i = zs2.length + k := ⟨i - zs2.length, by omega⟩
      have hk : k < 2 := by omega
      simp only [appF, hb, cond_false, Nat.add_sub_cancel_left]
      rcases k with _ | _ | k
      · simp [litF, rowsV, encB, List.getD_eq_getElem?_getD]
      · simp [litF, rowsV, encB, List.getD_eq_getElem?_getD]
      · omega
  refine ⟨trivial, go_ok _ 100 _ _ ?_⟩
  simp only [go_sem, List.nil_append, Nat.reduceBEq]
  have hls : listF d1.ps = ([[97]], 0) := by rw [e1']; simp [listF, namesF, sortT]
  refine (stp_call [0, 1, 2] (args := [.ptr 0 b 0]) rfl rfl rfl ⟨_, Try.func14, rfl, rfl⟩ (kList 6 i1 (by decide)) rfl (fun _ h => h) rfl (fun ro H h => h) ?_).safe trivial
  rintro v hp ⟨nl6, b6, off6, cap6, rfl, rfl⟩
  rw [hls]
  refine ⟨trivial, go_ok _ 100 _ _ ?_⟩
  simp only [go_sem, List.cons_append, List.nil_append, Nat.reduceBEq, Nat.zero_add]
  refine ⟨by decide, by decide, ?_⟩
  refine (stp_call [0, 1, 2] (args := [.ptr 0 b 0, T [97]]) rfl rfl rfl ⟨_, Try.func13, rfl, rfl⟩ (kRead 7 [97] i1 (by decide)) rfl (fun _ h => h) rfl (fun ro H h => h) ?_).safe trivial
  rintro v hp ⟨nl7, b7, off7, cap7, rfl, rfl⟩
  rw [hrd]
  refine ⟨trivial, go_ok _ 100 _ _ ?_⟩
  simp only [go_sem, List.cons_append, List.nil_append, Nat.reduceBEq]
  refine (stp_call [0, 1, 2] (args := [.ptr 0 b 0]) rfl rfl rfl ⟨_, Try.func14, rfl, rfl⟩ (kList 8 i1 (by decide)) rfl (fun _ h => h) rfl (fun ro H h => h) ?_).safe trivial
  rintro v hp ⟨nl8, b8, off8, cap8, rfl, rfl⟩
  rw [hls]
  refine ⟨trivial, go_ok _ 6 _ _ ?_⟩
  simp only [go_sem, List.cons_append, List.nil_append, Nat.reduceBEq, Nat.zero_add]
  refine safe_frzA (c := 7) (rowsV encB data) rfl (fun _ _ _ _ => rfl) (by simp [frzOk, frzOk1]) ?_
  have q1 : decide ((0 : Int) = 0) = true := by decide
  refine go_ok _ 100 _ _ ?_
  simp only [go_sem, List.cons_append, List.nil_append, reduceCtorEq, Nat.reduceBEq, Try.results3]
  refine ⟨?_, rfl⟩
  refine safe_othOn (oth_str (e := 5) (xs := data) (ad := if nl7 then none else some ⟨b7, off7, none⟩) (n := data.length) (cap := cap7) (f := rowsV encB data) (xo := .t 91) rfl (by kernel_rfl) (by kernel_rfl) (by kernel_rfl) rfl rfl (fun ro h => by simp only [SV.ok] at h ⊢; exact h trivial) rfl fun i _ => rfl) (show 92 < 113 by decide) trivial ?_
  refine go_ok _ 100 _ _ ?_
  simp only [go_sem, List.cons_append, List.nil_append, reduceCtorEq, Nat.reduceBEq, Try.results3]
  refine ⟨?_, rfl⟩
  refine safe_othOn (oth_str (e := 5) (xs := data) (ad := a) (n := data.length) (cap := cap) (f := rowsV encB data) (xo := .t 93) rfl (by kernel_rfl) (by kernel_rfl) (by kernel_rfl) rfl rfl (fun ro h => by simp only [SV.ok] at h ⊢; exact h trivial) rfl fun i _ => rfl) (show 94 < 113 by decide) trivial ?_
  refine go_ok _ 100 _ _ ?_
  simp only [go_sem, List.cons_append, List.nil_append, reduceCtorEq, Nat.reduceBEq, Try.results3]
  refine ⟨fun _ => ⟨rfl, by decide, by decide, by decide⟩, fun _ => ⟨rfl, by decide, by decide⟩, ?_⟩
  have h2 : decide (2 ≤ ((data.length + 2 : Nat) : Int)) = true := by simp; omega
  simp only [h2]
  rfl
end Go.SX
