/- Joined texts: EB EB2 EC ED EE. -/
import Derived.Test.YthlkoehifpnoeaaDoorSxCJ4
import Derived.Test.YthlkoehifpnoeaaDoorSxZC
/- strings.Builder; ToValidUTF8. -/
namespace Go.SX
open Go.Proofs Go.RowKit
set_option maxRecDepth 1000000
variable {E : Env}

abbrev pu (b : Nat) : SV := .val (.pointer (some ⟨b, 0, none⟩))
theorem infoB : (Tryd.prog.info? 68).map (·.size) = some 2 := by kernel_rfl
theorem liesB : liesAt Tryd.prog Tryd.prog.depth 68 (2 / Tryd.prog.cellsOf 68) 0 68 1 = true := by kernel_rfl
theorem infoU : (Tryd.prog.info? 5).map (fun i => (i.zero, i.size, i.bytes)) = some (some (.int .u8 0), 1, 1) := by kernel_rfl
theorem cellsU : Tryd.prog.cellsOf 5 = 1 := by kernel_rfl
theorem c47f (b : Nat) (s : SV) : Spec Tryd.prog E 47 [.ptr 0 b 0] [.cells b 68 [.val (.pointer none), s]] (fun v hp => v = .tup [] ∧ hp = [.cells b 68 [pu b, s]]) := by
  obtain ⟨j, hj, hjs⟩ := Option.map_eq_some_iff.1 infoB
  refine spec_of (keep := k47) (args' := [.ptr 0 b 0]) Tryd.func47 rfl Tryd.ntmps47 s47_ok (by simp) ⟨rfl, fun _ h => h⟩ (fun _ _ h => h) (go_ok _ 100 _ _ ?_)
  simp only [go_sem, s47, k47, Nat.reduceBEq, Nat.zero_add]
  refine ⟨?_, fun h => absurd h (by decide)⟩
  refine safe_oth (oth_tounsafe (j := j) Tryd.underlying65 Tryd.underlying94 hj (by rw [hjs]; decide) rfl rfl (Nat.zero_lt_succ _)) trivial ?_
  refine go_ok _ 3 _ _ ?_
  simp only [go_sem]
  refine (stp_ext (fid := 54) (fn := Tryd.f54) (e := Extern.AbiNoEscape.same) (v := pu b) rfl rfl rfl Tryd.func54 (by kernel_rfl) (by kernel_rfl) (by kernel_rfl) (by kernel_rfl) (fun w => rfl) (fun ro _ => by simp only [SV.ok]) ?_).safe trivial
  refine ⟨trivial, ?_⟩
  refine go_ok _ 3 _ _ ?_
  simp only [go_sem]
  refine safe_oth (oth_fromunsafe (j := j) (c := 0) (b := b) (off := 0) (e := 68) (cs := [.val (.pointer none), s]) Tryd.underlying94 Tryd.underlying65 hj rfl rfl liesB) trivial ?_
  refine go_ok _ 20 _ _ ?_
  simp only [go_sem, Nat.reduceBEq, Nat.zero_add, Tryd.results47]
theorem cc_used (b : Nat) (w : World) (h0 : w.cell? ⟨b, 0, none⟩ = some (.pointer (some ⟨b, 0, none⟩))) :
    Calls Tryd.prog 47 #[.pointer (some ⟨b, 0, none⟩)] w fun e w' => e = .returned (.tuple #[]) ∧ w' = w := by
  obtain ⟨j, hj, _⟩ := Option.map_eq_some_iff.1 infoB
  have u68 := run_underlying Tryd.underlying68
  have u65 := run_underlying Tryd.underlying65
  have u4 := run_underlying Tryd.underlying4
  have u94 := run_underlying Tryd.underlying94
  go_enter Tryd.func47, Tryd.ntmps47
  go_wp2
  rw [Lib.run_neq_ptr_same w _ Tryd.underlying65 hj]
  go_wp2
  go_end0
  exact ⟨rfl, rfl⟩
theorem c47u (b : Nat) (s : SV) : Spec Tryd.prog E 47 [.ptr 0 b 0] [.cells b 68 [pu b, s]] (fun v hp => v = .tup [] ∧ hp = [.cells b 68 [pu b, s]]) := by
  intro ro F H w hs hok hsat
  have hs' := hs
  obtain ⟨H1, H2, rfl, ⟨rfl, hc⟩, h2⟩ := hs'
  have hb := (hsat.own (b, .cells (SV.dens [pu b, s]).toArray 68) (by simp)).1
  refine (cc_used b w (by rw [cell_of hb]; rfl)).mono ?_
  rintro e w' ⟨rfl, rfl⟩
  exact ⟨.tup [], _, ro, _, rfl, ⟨rfl, rfl⟩, ROle.refl _, by simp [SV.ok, SV.oks], hs, hsat⟩
theorem u5 : ∃ i, Tryd.prog.info? 5 = some i ∧ i.zero = some (.int .u8 0) ∧ i.size = 1 ∧ i.bytes = 1 := by
  obtain ⟨i, hi, hh⟩ := Option.map_eq_some_iff.1 infoU
  simp only [Prod.mk.injEq] at hh
  exact ⟨i, hi, hh.1, hh.2.1, hh.2.2⟩
theorem c48 (b n : Nat) (hn : n ≤ 2 ^ 40) : Spec Tryd.prog E 48 [.ptr 0 b 0, I n] [.cells b 68 [pu b, nilS]] (fun v hp => v = .tup [] ∧ ∃ g cap, n ≤ cap ∧ hp = [.cells b 68 [pu b, .osl 1 false g 0 0 cap], .row false g 5 0 1 0 cap (rowsV encB [])]) := by
  refine spec_of (keep := k48) (args' := [.ptr 0 b 0, I n]) Tryd.func48 rfl Tryd.ntmps48 s48_ok (by simp) ⟨rfl, fun _ h => h⟩ (fun _ _ h => h) (go_ok _ 100 _ _ ?_)
  have e0 : (2 : Int) * ((0 : Nat) : Int) = 0 := rfl
  simp only [go_sem, s48, k48, nilS, e0, Int.zero_add, Nat.reduceBEq, Nat.zero_add]
  refine ⟨by simp only [inI64]; omega, by simp only [inI64]; omega, ?_⟩
  refine (stp_mknz (fid := 55) (n := n) (fn := Tryd.f55) (qs := #[3]) (t := 66) (e := 5) rfl rfl rfl Tryd.func55 (by kernel_rfl) (by kernel_rfl) (by kernel_rfl) (by kernel_rfl) Tryd.underlying66 (by omega) fun g cap f hcap => ?_).safe trivial
  refine ⟨by simp only [recheck, recheck1, go_sem, Nat.reduceBEq, Nat.zero_add], go_ok _ 100 _ _ ?_⟩
  have z1 : (if (cap : Int) = 0 then 0 else Int.toNat 0 * 1) = 0 := by split <;> rfl
  have z2 : ((0 : Nat) : Int).toNat - Int.toNat 0 = 0 := rfl
  have z3 : (cap : Int).toNat - Int.toNat 0 = cap := by omega
  simp only [go_sem, z1, z2, z3, Nat.reduceBEq, Nat.zero_add]
  refine ⟨?_, ?_⟩
  rotate_left
  · refine Safe.sub (st' := ⟨[(24, nilS), (20, .osl 1 false g 0 0 cap), (0, .ptr 0 b 0), (4, .osl 1 false g 0 0 cap)], [.cells b 68 [pu b, nilS], .row false g 5 0 1 0 cap (rowsV encB [])]⟩) ?_ ?_
    · refine Sub.heap (by simp [envSub, look, nilS]) ?_
      rintro ro H ⟨H1, H2, rfl, h1, H3, H4, rfl, h3, h4⟩
      refine ⟨H1, _, rfl, h1, H3, H4, rfl, ?_, h4⟩
      obtain ⟨arr, fz, rfl, q1, q2, q3, q4⟩ := h3
      exact ⟨arr, fz, rfl, q1, Nat.zero_le _, q3, fun i j hi => absurd hi (by omega)⟩
    refine (stp_copy (c := 1) (b := g) (off := 0) (sz := 1) (n := 0) (cap := cap) (m := 0) (T := 5) (e := 5) (xo := .t 20) (yo := .t 24) rfl rfl Tryd.underlying66 (by kernel_rfl) (by decide) rfl rfl rfl (sx := nilS) rfl rfl (Nat.le_refl _) (fun i j hi => absurd hi (by omega)) ?_ ?_).safeE rfl
    · trivial
    refine go_ok _ 100 _ _ ?_
    simp only [go_sem, nilS, Nat.reduceBEq, Nat.zero_add, Tryd.results48]
    have hov : ovF (fun _ _ => SV.val undef) 0 (rowsV encB []) = rowsV encB [] := by
      funext i j
      have : Nat.blt i 0 = false := by rw [Bool.eq_false_iff, ne_eq, Nat.blt_eq]; omega
      simp only [ovF, this, cond_false]
    rw [hov]
    exact ⟨g, cap, hcap, rfl⟩
  · exact ⟨by decide, by omega, by omega, by omega, by omega, fun h => absurd h (by decide)⟩
/-- a builder that has been written -/
def bC (b g cap : Nat) (ys : List UInt8) : List Chunk := [.cells b 68 [pu b, .osl 1 false g 0 ys.length cap], .row false g 5 0 1 ys.length cap (rowsV encB ys)]
theorem c34 (b n : Nat) (h1 : 1 ≤ n) (hn : n ≤ 2 ^ 40) : Spec Tryd.prog E 34 [.ptr 0 b 0, I n] [.cells b 68 [.val (.pointer none), nilS]] (fun v hp => v = .tup [] ∧ ∃ g cap, 1 ≤ cap ∧ hp = bC b g cap []) := by
  refine spec_of (keep := k34) (args' := [.ptr 0 b 0, I n]) Tryd.func34 rfl Tryd.ntmps34 s34_ok (by simp) ⟨rfl, fun _ h => h⟩ (fun _ _ h => h) (go_ok _ 100 _ _ ?_)
  simp only [go_sem, s34, k34, Nat.reduceBEq, Nat.zero_add]
  refine (stp_call [0] (args := [.ptr 0 b 0]) rfl rfl rfl ⟨_, Tryd.func47, rfl, rfl⟩ (c47f b nilS) rfl (fun _ h => h) rfl (fun _ _ h => h) ?_).safe trivial
  rintro v hp ⟨rfl, rfl⟩
  have d1 : decide ((n : Int) < 0) = false := decide_eq_false (by omega)
  have d2 : decide (((0 : Nat) : Int) - ((0 : Nat) : Int) < (n : Int)) = true := decide_eq_true (by omega)
  refine ⟨trivial, go_ok _ 100 _ _ ?_⟩
  simp only [go_sem, nilS, d1, d2, Nat.reduceBEq, Nat.zero_add, Tryd.results34]
  refine ⟨by simp only [inI64]; omega, ?_, fun h => absurd h (by decide)⟩
  refine (stp_call [0] (args := [.ptr 0 b 0, I n]) rfl rfl rfl ⟨_, Tryd.func48, rfl, rfl⟩ (c48 b n hn) rfl (fun _ h => h) rfl (fun _ _ h => h) ?_).safe trivial
  rintro v hp ⟨rfl, g, cap, hcap, rfl⟩
  refine ⟨trivial, go_ok _ 100 _ _ ?_⟩
  simp only [go_sem, Nat.reduceBEq, Tryd.results34]
  exact ⟨g, cap, by omega, rfl⟩
theorem c36u (b g cap : Nat) (ys : List UInt8) : Spec Tryd.prog E 36 [.ptr 0 b 0] (bC b g cap ys) (fun v hp => v = I cap ∧ hp = bC b g cap ys) := by
  refine spec_of (keep := k36) (args' := [.ptr 0 b 0]) Tryd.func36 rfl Tryd.ntmps36 s36_ok (by simp) ⟨rfl, fun _ h => h⟩ (fun _ _ h => h) (go_ok _ 100 _ _ ?_)
  simp only [go_sem, s36, k36, bC, Nat.reduceBEq, Nat.zero_add, Tryd.results36]
theorem c36f (b : Nat) : Spec Tryd.prog E 36 [.ptr 0 b 0] [.cells b 68 [.val (.pointer none), nilS]] (fun v hp => v = I 0 ∧ hp = [.cells b 68 [.val (.pointer none), nilS]]) := by
  refine spec_of (keep := k36) (args' := [.ptr 0 b 0]) Tryd.func36 rfl Tryd.ntmps36 s36_ok (by simp) ⟨rfl, fun _ h => h⟩ (fun _ _ h => h) (go_ok _ 100 _ _ ?_)
  simp only [go_sem, s36, k36, nilS, Nat.reduceBEq, Nat.zero_add, Tryd.results36]
  rfl
theorem c35 (b g cap : Nat) (ys xs : List UInt8) (hl : ys.length + xs.length ≤ 2 ^ 40) : Spec Tryd.prog E 35 [.ptr 0 b 0, T xs] (bC b g cap ys) (fun v hp => ∃ g' cap', cap ≤ cap' ∧ hp = bC b g' cap' (ys ++ xs)) := by
  refine spec_of (keep := k35) (args' := [.ptr 0 b 0, T xs]) Tryd.func35 rfl Tryd.ntmps35 s35_ok (by simp) ⟨rfl, fun _ h => h⟩ (fun _ _ h => h) (go_ok _ 100 _ _ ?_)
  simp only [go_sem, s35, k35, bC, Nat.reduceBEq, Nat.zero_add]
  refine (stp_call [0] (args := [.ptr 0 b 0]) rfl rfl rfl ⟨_, Tryd.func47, rfl, rfl⟩ (c47u b (.osl 1 false g 0 ys.length cap)) rfl (fun _ h => h) rfl (fun _ _ h => h) ?_).safe trivial
  rintro v hp ⟨rfl, rfl⟩
  refine ⟨trivial, go_ok _ 100 _ _ ?_⟩
  simp only [go_sem, Nat.reduceBEq, Nat.zero_add]
  obtain ⟨i, hi, hz, hi1, hib⟩ := u5
  refine (stp_apps (c := 1) (b := g) (off := 0) (n := ys.length) (cap := cap) (xs := xs) (ys := ys) (i := i) (xo := .t 12) (yo := .t 13) rfl rfl Tryd.underlying66 Tryd.underlying9 hi hz hi1 hib rfl rfl rfl rfl (by omega) fun g' off' cap' hcc hoo => ?_).safeE rfl
  obtain rfl := hoo rfl
  refine ⟨trivial, go_ok _ 100 _ _ ?_⟩
  simp only [go_sem, Nat.reduceBEq, Nat.zero_add, Tryd.results35]
  exact ⟨g', cap', hcc, rfl⟩
theorem c37 (b g cap : Nat) (ys : List UInt8) (x : UInt8) (hl : ys.length ≤ 2 ^ 40) : Spec Tryd.prog E 37 [.ptr 0 b 0, .val (.int .u8 x.toNat)] (bC b g cap ys) (fun v hp => ∃ g' cap', cap ≤ cap' ∧ hp = bC b g' cap' (ys ++ [x])) := by
  refine Spec.leave (Post := fun v hp => ∃ g' cap', cap ≤ cap' ∧ ∃ X, hp = bC b g' cap' (ys ++ [x]) ++ X) ?_ (fun v hp h => by
    obtain ⟨g', cap', h1, X, h2⟩ := h
    exact ⟨bC b g' cap' (ys ++ [x]), X, h2, g', cap', h1, rfl⟩)
  refine spec_of (keep := k37) (args' := [.ptr 0 b 0, .val (.int .u8 x.toNat)]) Tryd.func37 rfl Tryd.ntmps37 s37_ok (by simp) ⟨rfl, fun _ h => h⟩ (fun _ _ h => h) (go_ok _ 100 _ _ ?_)
  simp only [go_sem, s37, k37, bC, Nat.reduceBEq, Nat.zero_add]
  refine (stp_call [0] (args := [.ptr 0 b 0]) rfl rfl rfl ⟨_, Tryd.func47, rfl, rfl⟩ (c47u b (.osl 1 false g 0 ys.length cap)) rfl (fun _ h => h) rfl (fun _ _ h => h) ?_).safe trivial
  rintro v hp ⟨rfl, rfl⟩
  refine ⟨trivial, go_ok _ 100 _ _ ?_⟩
  simp only [go_sem, Nat.reduceBEq, Nat.reduceAdd, Nat.zero_add]
  intro bb
  refine (stp_app2K (c := 1) (b := g) (off := 0) (nl := false) (n := ys.length) (cap := cap) (x := .osl 2 false bb 0 1 1) (gx := litF 1 (encB x)) (m := 1) (f := rowsV encB ys) (f2 := rowsV encB (ys ++ [x])) (N := (ys ++ [x]).length) rfl rfl rfl rfl ⟨rfl, rfl, rfl, rfl, Nat.le_refl _⟩ ?_ (by omega) (by simp) (fun i' j hi hj => app_one i' j (by simpa using hi) hj) fun nl' g' off' cap' k1 k2 k3 => ?_).safe trivial
  · intro i' j hi hj
    obtain rfl : i' = 0 := by omega
    obtain rfl : j = 0 := by omega
    simp [litF, encB, one, Value.oneCell']
  obtain rfl := k1 rfl
  obtain rfl := k2 rfl
  refine ⟨trivial, go_ok _ 100 _ _ ?_⟩
  simp only [go_sem, Nat.reduceBEq, Nat.zero_add, Tryd.results37]
  exact ⟨g', cap', k3, _, rfl⟩
theorem c38 (b g cap : Nat) (ys : List UInt8) (hcap : 1 ≤ cap) (hl : ys.length ≤ 2 ^ 40) : Spec Tryd.prog E 38 [.ptr 0 b 0] (bC b g cap ys) (fun v hp => v = T ys ∧ hp = []) := by
  refine Spec.leave (Post := fun v hp => v = T ys) ?_ (fun v hp h => ⟨[], hp, rfl, h, rfl⟩)
  refine spec_of (keep := k38) (args' := [.ptr 0 b 0]) Tryd.func38 rfl Tryd.ntmps38 s38_ok (by simp) ⟨rfl, fun _ h => h⟩ (fun _ _ h => h) (go_ok _ 100 _ _ ?_)
  simp only [go_sem, s38, k38, bC, Nat.reduceBEq, Nat.zero_add]
  refine (stp_usd (xo := .t 6) rfl rfl (by omega) ?_).safeE rfl
  refine ⟨by simp only [recheck, recheck1, go_sem, Nat.reduceBEq, Nat.zero_add], ?_⟩
  refine (stp_ustr (xo := .t 7) (yo := .t 12) (c := 1) (b := g) (cap := cap) (ys := ys) rfl rfl Tryd.underlying82 cellsU rfl rfl rfl (by omega) ?_).safeE rfl
  refine ⟨trivial, go_ok _ 100 _ _ ?_⟩
  simp only [go_sem, Nat.reduceBEq, Tryd.results38]
end Go.SX

/- ToValidUTF8. -/
namespace Go.SX
open Go.Proofs Go.RowKit
set_option maxRecDepth 1000000
variable {E : Env}

theorem decode_drop (x : List UInt8) (p i : Nat) : Utf8.decode ⟨(x.drop p).toArray⟩ i = Utf8.decode ⟨x.toArray⟩ (p + i) := by
  have hg : ∀ k, (⟨(x.drop p).toArray⟩ : ByteArray).get! (i + k) = (⟨x.toArray⟩ : ByteArray).get! (p + i + k) := fun k => by
    rw [get_at, get_at, List.getD_eq_getElem?_getD, List.getD_eq_getElem?_getD, List.getElem?_drop, Nat.add_assoc]
  have hs : ∀ k, decide (i + k < (⟨(x.drop p).toArray⟩ : ByteArray).size) = decide (p + i + k < (⟨x.toArray⟩ : ByteArray).size) := fun k => by
    rw [decide_eq_decide]
    simp only [ByteArray.size, List.size_toArray, List.length_drop]
    omega
  unfold Utf8.decode
  simp only [hg, hs]
theorem decodeGo_drop {x : List UInt8} {p : Nat} (h : p < x.length) : Lib.decodeGo ⟨(x.drop p).toArray⟩ = Utf8.decode ⟨x.toArray⟩ p := by
  unfold Lib.decodeGo
  rw [if_neg, decode_drop, Nat.add_zero]
  simp only [ByteArray.size, List.size_toArray, List.length_drop]
  omega
def ToP (x : List UInt8) (v : SV) (hp : List Chunk) : Prop := ∃ y, v = T y ∧ hp = [tabC] ∧ ((ValidU x ∧ y = x) ∨ (¬ ValidU x ∧ y.length < x.length))
structure TvW (x : List UInt8) where
  p : Nat
  hp : p ≤ x.length
  hr : Reach x p
  h : ∀ q, Reach x q → q < p → Utf8.decode ⟨x.toArray⟩ q ≠ (65533, 1)
def posU (x : List UInt8) : Nat → Nat
  | 0 => 0
  | n + 1 => if posU x n < x.length then posU x n + (Utf8.decode ⟨x.toArray⟩ (posU x n)).2 else posU x n
theorem reach_pos {x : List UInt8} {q : Nat} (h : Reach x q) : ∃ n, posU x n = q := by
  induction h with
  | zero => exact ⟨0, rfl⟩
  | step _ hlt ih =>
    obtain ⟨n, rfl⟩ := ih
    exact ⟨n + 1, by rw [show posU x (n + 1) = if posU x n < x.length then posU x n + (Utf8.decode ⟨x.toArray⟩ (posU x n)).2 else posU x n from rfl, if_pos hlt]⟩
theorem posU_mono (x : List UInt8) : ∀ {m n : Nat}, m ≤ n → posU x m ≤ posU x n
  | m, 0, h => by
    obtain rfl : m = 0 := by omega
    exact Nat.le_refl _
  | m, n + 1, h => by
    by_cases e : m = n + 1
    · rw [e]; exact Nat.le_refl _
    · have := posU_mono x (m := m) (n := n) (by omega)
      have h2 : posU x n ≤ posU x (n + 1) := by
        conv => rhs; unfold posU
        split <;> omega
      omega
theorem reach_step {x : List UInt8} {p : Nat} (hp : p < x.length) (hr : Reach x p) (h : ∀ q, Reach x q → q < p → Utf8.decode ⟨x.toArray⟩ q ≠ (65533, 1)) (hne : Utf8.decode ⟨x.toArray⟩ p ≠ (65533, 1)) :
    ∀ q, Reach x q → q < p + (Utf8.decode ⟨x.toArray⟩ p).2 → Utf8.decode ⟨x.toArray⟩ q ≠ (65533, 1) := by
  intro q hq hlt
  obtain ⟨n, hn⟩ := reach_pos hr
  obtain ⟨m, hm⟩ := reach_pos hq
  have hs : posU x (n + 1) = p + (Utf8.decode ⟨x.toArray⟩ p).2 := by
    rw [show posU x (n + 1) = if posU x n < x.length then posU x n + (Utf8.decode ⟨x.toArray⟩ (posU x n)).2 else posU x n from rfl, hn, if_pos hp]
  rcases Nat.lt_or_ge n m with hnm | hnm
  · have := posU_mono x (m := n + 1) (n := m) hnm
    omega
  · have := posU_mono x (m := m) (n := n) hnm
    by_cases e : q = p
    · rw [e]; exact hne
    · exact h q hq (by omega)
structure T2W (z : List UInt8) (p : Nat) where
  i : Nat
  inv : Bool
  g : Nat
  cap : Nat
  ys : List UInt8
  hi : i ≤ z.length
  hc : 1 ≤ cap
  hl : ys.length ≤ p + i
  hs : 0 < i → ys.length < p + i
set_option maxHeartbeats 8000000 in
theorem c19 (x : List UInt8) (hx : x.length ≤ 2 ^ 30) : Spec Tryd.prog E 19 [T x, T []] [tabC] (ToP x) := by
  refine Spec.leave (Post := fun v hp => ∃ y, v = T y ∧ (∃ X, hp = tabC :: X) ∧ ((ValidU x ∧ y = x) ∨ (¬ ValidU x ∧ y.length < x.length))) ?_ (fun v hp h => by
    obtain ⟨y, h1, ⟨X, h2⟩, h3⟩ := h
    exact ⟨[tabC], X, h2, y, h1, rfl, h3⟩)
  refine spec_of (keep := k19) (args' := [T x, T []]) Tryd.func19 rfl Tryd.ntmps19 s19_ok (by simp) ⟨rfl, fun _ h => h⟩ (fun _ _ h => h) (go_ok _ 100 _ _ ?_)
  simp only [go_sem, s19, k19, Nat.reduceBEq, Nat.zero_add]
  intro b
  refine (stp_strrange (mo := .t 15) (s := ⟨x.toArray⟩) rfl Tryd.underlying9 rfl fun r => ?_).safeE rfl
  refine ⟨trivial, go_ok _ 100 _ _ ?_⟩
  simp only [go_sem, Nat.reduceBEq]
  refine safe_loop (ι := TvW x) (fun g => ⟨[(0, T x), (1, T []), (4, T []), (5, .ptr 1 b 0), (16, .val (.pointer (some ⟨r, 0, none⟩)))], [tabC, .cells b 68 [.val (.pointer none), nilS], strI r ⟨x.toArray⟩ g.p]⟩) (fun g => x.length - g.p)
    ⟨0, Nat.zero_le _, .zero, fun q _ h => absurd h (by omega)⟩ (Sub.front (X := []) (by simp [envSub, look]) rfl) ?_
  rintro ⟨p, hp, hr, hval⟩
  refine go_ok _ 100 _ _ ?_
  simp only [go_sem]
  refine (stp_strnext (ito := .t 16) (r := r) (s := ⟨x.toArray⟩) (pos := p) 2 rfl rfl rfl (fun hge => ?_) (fun hlt => ?_)).safeE rfl
  · have hpl : p = x.length := by have : x.toArray.size ≤ p := hge; simp at this; omega
    have hv : ValidU x := fun q h1 h2 => hval q h1 (by omega)
    refine ⟨trivial, go_ok _ 100 _ _ ?_⟩
    simp only [go_sem, Nat.reduceBEq]
    refine (stp_call [1] (args := [.ptr 0 b 0]) rfl rfl rfl ⟨_, Tryd.func36, rfl, rfl⟩ (c36f b) rfl (fun _ h => h) rfl (fun _ _ h => h) ?_).safe trivial
    rintro v hp' ⟨rfl, rfl⟩
    refine ⟨trivial, go_ok _ 100 _ _ ?_⟩
    simp only [go_sem, Nat.reduceBEq, Tryd.results19]
    exact ⟨⟨x, rfl, ⟨_, rfl⟩, .inl ⟨hv, rfl⟩⟩, fun h => absurd h (by decide)⟩
  have hlt' : p < x.length := by have : p < x.toArray.size := hlt; simpa using this
  obtain ⟨dc, hdc⟩ : ∃ dc, Utf8.decode ⟨x.toArray⟩ p = dc := ⟨_, rfl⟩
  have hdg := decodeGo_drop hlt'
  have hstep := Reach.step hr hlt'
  have hrs := reach_step hlt' hr hval
  have hok := fun hne => rune_step hlt' (show Utf8.decode ⟨x.toArray⟩ p ≠ (65533, 1) from hne)
  rw [hdc] at hdg hstep hrs hok ⊢
  obtain ⟨c, w⟩ := dc
  dsimp only at hstep hrs hok ⊢
  refine ⟨trivial, ?_⟩
  rcases hc : decide ((c : Int) = 65533) with _ | _
  · have hc' : c ≠ 65533 := fun e => of_decide_eq_false hc (by omega)
    have hne : (c, w) ≠ (65533, 1) := fun e => hc' (congrArg Prod.fst e)
    obtain ⟨r1, r2, _⟩ := hok hne
    have hc2 : decide ((c : Int) ≠ 65533) = true := by rw [decide_not, hc]; rfl
    refine go_ok _ 100 _ _ ?_
    simp only [go_sem, hc2, Nat.reduceBEq]
    refine ⟨⟨?_, fun h => absurd h (by decide)⟩, fun h => absurd h (by decide)⟩
    exact safe_lend ⟨p + w, r1, hstep, hrs hne⟩ (by simp only; omega) (Sub.front (X := []) (by simp [envSub, look]) rfl)
  · have hc' : c = 65533 := by have := of_decide_eq_true hc; omega
    subst hc'
    have hex : (⟨x.toArray⟩ : ByteArray).extract (p : Int).toNat ((x.length : Int)).toNat = ⟨(x.drop p).toArray⟩ := by
      rw [Int.toNat_natCast, Int.toNat_natCast, extract_eq, List.take_of_length_le (by rw [List.length_drop]; exact Nat.le_refl _)]
    have C33 := c33 (E := E) (x.drop p)
    rw [hdg] at C33
    dsimp only at C33
    have hc3 : decide (((65533 : Nat) : Int) ≠ 65533) = false := by decide
    refine go_ok _ 100 _ _ ?_
    simp only [go_sem, hc3, hex, List.size_toArray, Nat.reduceBEq]
    refine ⟨⟨by omega, ?_⟩, fun h => absurd h (by decide)⟩
    refine (stp_call [0] (args := [T (x.drop p)]) rfl rfl rfl ⟨_, Tryd.func33, rfl, rfl⟩ C33 rfl (fun _ h => h) rfl (fun _ _ h => h) ?_).safe trivial
    rintro v hp' ⟨rfl, rfl⟩
    refine ⟨trivial, ?_⟩
    rcases hw1 : decide ((w : Int) = 1) with _ | _
    · have hne : ((65533 : Nat), w) ≠ (65533, 1) := fun e => by
        have := congrArg Prod.snd e
        simp only at this
        exact of_decide_eq_false hw1 (by omega)
      obtain ⟨r1, r2, _⟩ := hok hne
      refine go_ok _ 100 _ _ ?_
      simp only [go_sem, hw1, Nat.reduceBEq]
      exact safe_lend ⟨p + w, r1, hstep, hrs hne⟩ (by simp only; omega) (Sub.front (X := []) (by simp [envSub, look]) rfl)
    · obtain rfl : w = 1 := by have := of_decide_eq_true hw1; omega
      have hinv : ¬ ValidU x := fun hv => hv p hr hlt' hdc
      refine go_ok _ 100 _ _ ?_
      have hn0 : (x.length : Int) + ((0 : Nat) : Int) = (x.length : Int) := by omega
      simp only [go_sem, hw1, hn0, List.size_toArray, List.length_nil, Nat.reduceBEq]
      refine ⟨⟨by simp only [inI64]; omega, ?_⟩, fun h => absurd h (by decide)⟩
      refine (stp_call [1] (args := [.ptr 0 b 0, I x.length]) rfl rfl rfl ⟨_, Tryd.func34, rfl, rfl⟩ (c34 b x.length (by omega) (by omega)) rfl (fun _ h => h) rfl (fun _ _ h => h) ?_).safe trivial
      rintro v hp' ⟨rfl, g1, cap1, hcap1, rfl⟩
      have hex2 : (⟨x.toArray⟩ : ByteArray).extract (Int.toNat 0) ((p : Int)).toNat = ⟨(x.take p).toArray⟩ := by
        rw [Int.toNat_natCast, show Int.toNat 0 = 0 from rfl, extract_eq, List.drop_zero, Nat.sub_zero]
      have htl : (x.take p).length = p := by rw [List.length_take]; omega
      refine ⟨trivial, go_ok _ 100 _ _ ?_⟩
      simp only [go_sem, hex2, bC, List.size_toArray, Nat.reduceBEq]
      refine ⟨by omega, ?_⟩
      refine (stp_call [1, 3] (args := [.ptr 0 b 0, T (x.take p)]) rfl rfl rfl ⟨_, Tryd.func35, rfl, rfl⟩ (c35 b g1 cap1 [] (x.take p) (by rw [htl]; simp; omega)) rfl (fun _ h => h) rfl (fun _ _ h => h) ?_).safe trivial
      rintro v hp' ⟨g2, cap2, hcap2, rfl⟩
      refine ⟨trivial, go_ok _ 100 _ _ ?_⟩
      simp only [go_sem, hex, bC, List.nil_append, List.size_toArray, Nat.reduceBEq]
      refine ⟨by omega, ?_⟩
      refine (stp_call [1, 3] (args := [.ptr 0 b 0]) rfl rfl rfl ⟨_, Tryd.func36, rfl, rfl⟩ (c36u b g2 cap2 (x.take p)) rfl (fun _ h => h) rfl (fun _ _ h => h) ?_).safe trivial
      rintro v hp' ⟨rfl, rfl⟩
      have hcd : decide ((cap2 : Int) = 0) = false := decide_eq_false (by omega)
      refine ⟨trivial, go_ok _ 100 _ _ ?_⟩
      simp only [go_sem, hcd, bC, Nat.reduceBEq, Tryd.results19]
      have hb0 : 128 ≤ (x.getD p default).toNat := by
        apply Decidable.byContradiction
        intro hn
        have := decode_lo (x := x) (i := p) (by omega)
        rw [hdc] at this
        have := congrArg Prod.fst this
        simp only at this
        omega
      have hz0 : Utf8.decode ⟨(x.drop p).toArray⟩ 0 = (65533, 1) := by rw [decode_drop]; exact hdc
      have hzb : 128 ≤ ((x.drop p).getD 0 default).toNat := by
        rw [List.getD_eq_getElem?_getD, List.getElem?_drop, Nat.add_zero, ← List.getD_eq_getElem?_getD]
        exact hb0
      have hzl : (x.drop p).length = x.length - p := List.length_drop
      have hzx : 1 ≤ (x.drop p).length := by omega
      have hpx : p + (x.drop p).length = x.length := by omega
      generalize x.take p = ys0 at *
      generalize x.drop p = z at *
      refine safe_loop (ι := T2W z p) (fun h => ⟨[(0, T z), (1, T []), (4, T []), (5, .ptr 1 b 0), (10, Bl h.inv), (11, I h.i)], [tabC, .cells b 68 [pu b, .osl 1 false h.g 0 h.ys.length h.cap], strI r ⟨x.toArray⟩ (p + 1), .row false h.g 5 0 1 h.ys.length h.cap (rowsV encB h.ys)]⟩) (fun h => z.length - h.i)
        ⟨0, false, g2, cap2, ys0, Nat.zero_le _, by omega, by omega, fun h => absurd h (by omega)⟩ (Sub.front (X := []) (by simp [envSub, look]) rfl) ?_
      rintro ⟨i, inv, g, cap, ys, hi, hcap, hyl, hys⟩
      rcases Nat.lt_or_ge i z.length with hlt2 | hge2
      · have e51 : decide ((i : Int) < (z.length : Int)) = true := decide_eq_true (by omega)
        have hbt := bt_at (x := z) (k := i) hlt2
        have hdg2 := decodeGo_drop hlt2
        have C33b := c33 (E := E) (z.drop i)
        rw [hdg2] at C33b
        have hex3 : (⟨z.toArray⟩ : ByteArray).extract (i : Int).toNat ((z.length : Int)).toNat = ⟨(z.drop i).toArray⟩ := by
          rw [Int.toNat_natCast, Int.toNat_natCast, extract_eq, List.take_of_length_le (by rw [List.length_drop]; exact Nat.le_refl _)]
        refine go_ok _ 20 _ _ ?_
        simp only [go_sem, List.size_toArray, e51, hbt, Nat.reduceBEq]
        refine ⟨⟨by omega, ?_⟩, fun h => absurd h (by decide)⟩
        have hyl40 : ys.length ≤ 2 ^ 40 := by omega
        rcases hlo : decide ((((z.getD i default).toNat : Nat) : Int) < 128) with _ | _
        · have hhi : 128 ≤ (z.getD i default).toNat := by have := of_decide_eq_false hlo; omega
          refine go_ok _ 100 _ _ ?_
          simp only [go_sem, hlo, hex3, List.size_toArray, Nat.reduceBEq]
          refine ⟨by omega, ?_⟩
          refine (stp_call [0] (args := [T (z.drop i)]) rfl rfl rfl ⟨_, Tryd.func33, rfl, rfl⟩ C33b rfl (fun _ h => h) rfl (fun _ _ h => h) ?_).safe trivial
          rintro v hp' ⟨rfl, rfl⟩
          obtain ⟨dc2, hdc2⟩ : ∃ dc2, Utf8.decode ⟨z.toArray⟩ i = dc2 := ⟨_, rfl⟩
          have hok2 := fun hne => rune_step hlt2 (show Utf8.decode ⟨z.toArray⟩ i ≠ (65533, 1) from hne)
          rw [hdc2] at hok2 ⊢
          obtain ⟨c2, w2⟩ := dc2
          dsimp only at hok2 ⊢
          refine ⟨trivial, ?_⟩
          rcases hw2 : decide ((w2 : Int) = 1) with _ | _
          · have hne2 : w2 ≠ 1 := fun e => of_decide_eq_false hw2 (by omega)
            obtain ⟨s1, s2, _⟩ := hok2 fun e => hne2 (congrArg Prod.snd e)
            have hi0 : 0 < i := by
              rcases Nat.eq_zero_or_pos i with h0 | h0
              · subst h0
                rw [hz0] at hdc2
                exact absurd (congrArg Prod.snd hdc2).symm hne2
              · exact h0
            have hex4 : (⟨z.toArray⟩ : ByteArray).extract ((i : Int)).toNat ((i : Int) + (w2 : Int)).toNat = ⟨((z.drop i).take w2).toArray⟩ := by
              rw [Int.toNat_natCast, show ((i : Int) + (w2 : Int)).toNat = i + w2 by omega, extract_eq, Nat.add_sub_cancel_left]
            have htl2 : ((z.drop i).take w2).length = w2 := by rw [List.length_take, List.length_drop]; omega
            refine go_ok _ 100 _ _ ?_
            simp only [go_sem, hw2, hex4, List.size_toArray, Nat.reduceBEq]
            refine ⟨by simp only [inI64]; omega, by omega, ?_⟩
            refine (stp_call [1, 3] (args := [.ptr 0 b 0, T ((z.drop i).take w2)]) rfl rfl rfl ⟨_, Tryd.func35, rfl, rfl⟩ (c35 b g cap ys ((z.drop i).take w2) (by rw [htl2]; omega)) rfl (fun _ h => h) rfl (fun _ _ h => h) ?_).safe trivial
            rintro v hp' ⟨g', cap', hcc, rfl⟩
            refine ⟨trivial, go_ok _ 100 _ _ ?_⟩
            simp only [go_sem, bC, Nat.reduceBEq]
            refine ⟨by simp only [inI64]; omega, ?_⟩
            exact safe_lend ⟨i + w2, false, g', cap', ys ++ (z.drop i).take w2, s1, by omega, by rw [List.length_append, htl2]; omega, fun _ => by rw [List.length_append, htl2]; have := hys hi0; omega⟩ (by simp only; omega) (Sub.front (X := []) (by simp [envSub, look]) rfl)
          · cases inv
            · refine go_ok _ 100 _ _ ?_
              simp only [go_sem, hw2, List.size_toArray, Nat.reduceBEq]
              refine ⟨⟨by simp only [inI64]; omega, ?_⟩, fun h => absurd h (by decide)⟩
              refine ⟨?_, fun h => absurd h (by decide)⟩
              refine (stp_call [1, 3] (args := [.ptr 0 b 0, T []]) rfl rfl rfl ⟨_, Tryd.func35, rfl, rfl⟩ (c35 b g cap ys [] (by simp; omega)) rfl (fun _ h => h) rfl (fun _ _ h => h) ?_).safe trivial
              rintro v hp' ⟨g', cap', hcc, rfl⟩
              rw [List.append_nil]
              refine ⟨trivial, go_ok _ 100 _ _ ?_⟩
              simp only [go_sem, bC, Nat.reduceBEq]
              exact safe_lend ⟨i + 1, true, g', cap', ys, hlt2, by omega, by omega, fun _ => by omega⟩ (by simp only; omega) (Sub.front (X := []) (by simp [envSub, look]) rfl)
            · refine go_ok _ 100 _ _ ?_
              simp only [go_sem, hw2, List.size_toArray, Nat.reduceBEq]
              refine ⟨⟨by simp only [inI64]; omega, ?_⟩, fun h => absurd h (by decide)⟩
              exact safe_lend ⟨i + 1, true, g, cap, ys, hlt2, by omega, by omega, fun _ => by omega⟩ (by simp only; omega) (Sub.front (X := []) (by simp [envSub, look]) rfl)
        · have hlo' : (z.getD i default).toNat < 128 := by have := of_decide_eq_true hlo; omega
          have hi0 : 0 < i := by
            rcases Nat.eq_zero_or_pos i with h0 | h0
            · subst h0; omega
            · exact h0
          refine go_ok _ 100 _ _ ?_
          simp only [go_sem, hlo, List.size_toArray, Nat.reduceBEq]
          refine ⟨⟨by simp only [inI64]; omega, ?_⟩, fun h => absurd h (by decide)⟩
          refine (stp_call [1, 3] (args := [.ptr 0 b 0, .val (.int .u8 (z.getD i default).toNat)]) rfl rfl rfl ⟨_, Tryd.func37, rfl, rfl⟩ (c37 b g cap ys (z.getD i default) hyl40) rfl (fun _ h => h) rfl (fun _ _ h => h) ?_).safe trivial
          rintro v hp' ⟨g', cap', hcc, rfl⟩
          refine ⟨trivial, go_ok _ 100 _ _ ?_⟩
          simp only [go_sem, bC, Nat.reduceBEq]
          exact safe_lend ⟨i + 1, false, g', cap', ys ++ [z.getD i default], hlt2, by omega, by rw [List.length_append, List.length_singleton]; omega, fun _ => by rw [List.length_append, List.length_singleton]; have := hys hi0; omega⟩ (by simp only; omega) (Sub.front (X := []) (by simp [envSub, look]) rfl)
      · have e51 : decide ((i : Int) < (z.length : Int)) = false := decide_eq_false (by omega)
        refine go_ok _ 100 _ _ ?_
        simp only [go_sem, List.size_toArray, e51, Nat.reduceBEq]
        refine (stp_call [1, 3] (args := [.ptr 0 b 0]) rfl rfl rfl ⟨_, Tryd.func38, rfl, rfl⟩ (c38 b g cap ys hcap (by omega)) rfl (fun _ h => h) rfl (fun _ _ h => h) ?_).safe trivial
        rintro v hp' ⟨rfl, rfl⟩
        refine ⟨trivial, go_ok _ 100 _ _ ?_⟩
        simp only [go_sem, Nat.reduceBEq, Tryd.results19]
        exact ⟨ys, rfl, ⟨_, rfl⟩, .inr ⟨hinv, by have := hys (by omega); omega⟩⟩
end Go.SX

/- The program's expression, read. -/
namespace Go.SX
open Go.Proofs Go.RowKit
set_option maxRecDepth 1000000
variable {E : Env}

theorem reach_lo {x : List UInt8} (h : ∀ c ∈ x, c.toNat < 128) : ∀ {p : Nat}, p < x.length → Utf8.decode ⟨x.toArray⟩ p ≠ (65533, 1) := fun {p} hp e => by
  have hc : (x.getD p default).toNat < 128 := by
    rw [List.getD_eq_getElem?_getD, List.getElem?_eq_getElem hp]
    exact h _ (List.getElem_mem _)
  rw [decode_lo hc] at e
  have := congrArg Prod.fst e
  simp only at this
  omega
theorem ascii_valid {x : List UInt8} (h : ∀ c ∈ x, c.toNat < 128) : ValidU x := fun _ _ hp => reach_lo h hp
theorem fieldV_eq (o : Option Nat) : fieldV o = U (o.getD 0) := by cases o <;> rfl
theorem field_zero {s : List UInt8} {lo hi : Int} (h0 : 0 ≤ lo) (h1 : lo ≤ hi) (h2 : hi < 63) : decide ((((Cron.field s lo hi).getD 0 : Nat) : Int) = 0) = (Cron.field s lo hi).isNone := by
  rcases h : Cron.field s lo hi with _ | y
  · rfl
  · have := Cron.field_pos h0 h1 (n := 63) (by omega) h
    exact decide_eq_false (by simp only [Option.getD_some]; omega)
theorem parse_none5 {x : List UInt8} {a b c d f : List UInt8} (he : Cron.fieldsA [] x = [a, b, c, d, f]) (h : ((Cron.field a 0 59).isNone || (Cron.field b 0 23).isNone || (Cron.field c 1 31).isNone || (Cron.field d 1 12).isNone || (Cron.field f 0 6).isNone) = true) : Cron.parse x = none := by
  simp only [Bool.or_eq_true, Option.isNone_iff_eq_none] at h
  rcases h with (((h | h) | h) | h) | h
  · exact parse_bad (k := 0) (by decide) (by rw [he]; exact h)
  · exact parse_bad (k := 1) (by decide) (by rw [he]; exact h)
  · exact parse_bad (k := 2) (by decide) (by rw [he]; exact h)
  · exact parse_bad (k := 3) (by decide) (by rw [he]; exact h)
  · exact parse_bad (k := 4) (by decide) (by rw [he]; exact h)
theorem ag38 : aggOf Tryd.prog 38 = some (some 7) := by kernel_rfl
set_option maxHeartbeats 16000000 in
theorem c10 (x : List UInt8) (hx : x.length ≤ 2 ^ 30) : Spec Tryd.prog E 10 [T x] [tabC] (fun v hp => RefP x v ∧ hp = [tabC]) := by
  refine Spec.leave (Post := fun v hp => RefP x v ∧ ∃ X, hp = tabC :: X) ?_ (fun v hp h => by
    obtain ⟨h1, X, h2⟩ := h
    exact ⟨[tabC], X, h2, h1, rfl⟩)
  refine spec_of (keep := k10) (args' := [T x]) Tryd.func10 rfl Tryd.ntmps10 s10_ok (by simp) ⟨rfl, fun _ h => h⟩ (fun _ _ h => h) (go_ok _ 100 _ _ ?_)
  have bad : Cron.parse x = none → ∀ n : Int, n ≠ 0 → RefP x (.tup [.agg [U 0, U 0, U 0, U 0, U 0, Bl false, Bl false], I n]) := fun h n hn => by
    unfold RefP
    rw [h]
    exact ⟨n, hn, rfl⟩
  rcases d1 : decide (100 < (x.length : Int)) with _ | _
  rotate_left
  · have hb := bad (parse_long (by have := of_decide_eq_true d1; omega))
    simp only [go_sem, s10, k10, List.size_toArray, d1, Nat.reduceBEq, Nat.reduceAdd, Nat.zero_add, Tryd.results10]
    intro b
    refine ⟨?_, fun h => absurd h (by decide)⟩
    refine safe_retC (l := [.agg [U 0, U 0, U 0, U 0, U 0, Bl false, Bl false], I 5]) (vc := True) ?_ trivial ?_ rfl rfl
    · simp only [retC, Tryd.results10, go_sem, Nat.reduceBEq, ag38]
      rfl
    · exact ⟨hb 5 (by decide), _, rfl⟩
  have hl : ¬ 100 < x.length := by have := of_decide_eq_false d1; omega
  simp only [go_sem, s10, k10, List.size_toArray, d1, Nat.reduceBEq, Nat.reduceAdd, Nat.zero_add, Tryd.results10]
  intro b
  refine (stp_call [0] (args := [T x, T []]) rfl rfl rfl ⟨_, Tryd.func19, rfl, rfl⟩ (c19 x hx) rfl (fun _ h => h) rfl (fun _ _ h => h) ?_).safe trivial
  rintro v hp ⟨y, rfl, rfl, hy⟩
  have ey := str_eq y x
  refine ⟨by simp only [recheck, go_sem], go_ok _ 100 _ _ ?_⟩
  rcases hy with ⟨hval, rfl⟩ | ⟨hinv, hlt⟩
  rotate_left
  · have hne : ¬ y = x := fun e => by rw [e] at hlt; omega
    rw [decide_eq_false hne] at ey
    have hb := bad (by
      rcases hp : Cron.parse x with _ | e
      · rfl
      · exact absurd (ascii_valid (Cron.parse_ascii hp)) hinv)
    have ey2 : decide ((⟨y.toArray⟩ : ByteArray) ≠ ⟨x.toArray⟩) = true := by
      rw [decide_not, ey]
      rfl
    simp only [go_sem, ey2, Nat.reduceBEq, Nat.reduceAdd, Nat.zero_add, Tryd.results10]
    refine ⟨?_, fun h => absurd h (by decide)⟩
    refine safe_retC (l := [.agg [U 0, U 0, U 0, U 0, U 0, Bl false, Bl false], I 25]) (vc := True) ?_ trivial ?_ rfl rfl
    · simp only [retC, Tryd.results10, go_sem, Nat.reduceBEq, ag38]
      rfl
    · exact ⟨hb 25 (by decide), _, rfl⟩
  have ey2 : decide ((⟨y.toArray⟩ : ByteArray) ≠ ⟨y.toArray⟩) = false := by simp
  simp only [go_sem, ey2, Nat.reduceBEq, Nat.reduceAdd, Nat.zero_add, Tryd.results10]
  refine (stp_call [] (args := [T y]) rfl rfl rfl ⟨_, Tryd.func20, rfl, rfl⟩ (c20 y hx hval) rfl (fun _ h => h) rfl (fun _ _ h => h) ?_).safe trivial
  rintro v hp ⟨a, cap, rfl, rfl⟩
  have hlen : ∀ p ∈ Cron.fieldsA [] y, p.length < 4294967281 := fun p hp => by
    have := Cron.fieldsA_len hp
    rw [List.length_nil] at this
    omega
  obtain ⟨L, hL⟩ : ∃ L, Cron.fieldsA [] y = L := ⟨_, rfl⟩
  rw [hL] at hlen ⊢
  refine ⟨trivial, go_ok _ 14 _ _ ?_⟩
  simp only [go_sem, Nat.reduceBEq, Nat.reduceAdd, Nat.zero_add]
  refine ⟨fun hc => ?_, fun hc => ?_⟩
  · have hb := bad (parse_count (by rw [hL]; have := of_decide_eq_true hc; omega))
    refine go_ok _ 100 _ _ ?_
    simp only [go_sem, Nat.reduceBEq, Tryd.results10]
    refine safe_retC (l := [.agg [U 0, U 0, U 0, U 0, U 0, Bl false, Bl false], I 25]) (vc := True) ?_ trivial ?_ rfl rfl
    · simp only [retC, Tryd.results10, go_sem, Nat.reduceBEq, ag38]
      rfl
    · exact ⟨hb 25 (by decide), _, rfl⟩
  have hl5 : L.length = 5 := by have := of_decide_eq_false hc; omega
  obtain ⟨p0, p1, p2, p3, p4, rfl⟩ : ∃ p0 p1 p2 p3 p4, L = [p0, p1, p2, p3, p4] := by
    match L, hl5 with
    | [p0, p1, p2, p3, p4], _ => exact ⟨p0, p1, p2, p3, p4, rfl⟩
  have S0 := c21 (E := E) p0 0 59 (by decide) (by decide) (hlen p0 (by simp))
  have S1 := c21 (E := E) p1 0 23 (by decide) (by decide) (hlen p1 (by simp))
  have S2 := c21 (E := E) p2 1 31 (by decide) (by decide) (hlen p2 (by simp))
  have S3 := c21 (E := E) p3 1 12 (by decide) (by decide) (hlen p3 (by simp))
  have S4 := c21 (E := E) p4 0 6 (by decide) (by decide) (hlen p4 (by simp))
  have n0 : ((0 : Nat) : Int) = 0 := rfl
  have n59 : ((59 : Nat) : Int) = 59 := rfl
  have n23 : ((23 : Nat) : Int) = 23 := rfl
  have n1 : ((1 : Nat) : Int) = 1 := rfl
  have n31 : ((31 : Nat) : Int) = 31 := rfl
  have n12 : ((12 : Nat) : Int) = 12 := rfl
  have n6 : ((6 : Nat) : Int) = 6 := rfl
  rw [n0, n59] at S0
  rw [n0, n23] at S1
  rw [n1, n31] at S2
  rw [n1, n12] at S3
  rw [n0, n6] at S4
  have es2 := str_eq p2 [42]
  have es4 := str_eq p4 [42]
  refine safe_alts_mid (ι := Nat) (fun b5 => ⟨[(0, T y), (2, .ptr 1 b 0), (3, I 0), (5, .ptr 2 b5 0)], [tabC, .cells b 38 [U 0, U 0, U 0, U 0, U 0, Bl false, Bl false],
    .cells b5 38 [U ((Cron.field p0 0 59).getD 0), U ((Cron.field p1 0 23).getD 0), U ((Cron.field p2 1 31).getD 0), U ((Cron.field p3 1 12).getD 0), U ((Cron.field p4 0 6).getD 0), Bl (decide (p2 = [42])), Bl (decide (p4 = [42]))]]⟩) ?_ ?_
  · intro b5
    refine go_ok _ 100 _ _ ?_
    simp only [go_sem, Nat.reduceBEq, Nat.reduceAdd, Nat.zero_add, Tryd.results10]
    rw [field_zero (by decide) (by decide) (by decide), field_zero (by decide) (by decide) (by decide), field_zero (by decide) (by decide) (by decide), field_zero (by decide) (by decide) (by decide), field_zero (by decide) (by decide) (by decide)]
    refine ⟨fun hn => ?_, fun hn => ?_⟩
    · have hb := bad (parse_none5 hL hn)
      refine safe_retC (l := [.agg [U 0, U 0, U 0, U 0, U 0, Bl false, Bl false], I 25]) (vc := True) ?_ trivial ?_ rfl rfl
      · simp only [retC, Tryd.results10, go_sem, Nat.reduceBEq, ag38]
        rfl
      · exact ⟨hb 25 (by decide), _, rfl⟩
    · simp only [Bool.or_eq_false_iff, Option.isNone_eq_false_iff] at hn
      obtain ⟨⟨⟨⟨h0, h1⟩, h2⟩, h3⟩, h4⟩ := hn
      obtain ⟨y0, h0⟩ := Option.isSome_iff_exists.1 h0
      obtain ⟨y1, h1⟩ := Option.isSome_iff_exists.1 h1
      obtain ⟨y2, h2⟩ := Option.isSome_iff_exists.1 h2
      obtain ⟨y3, h3⟩ := Option.isSome_iff_exists.1 h3
      obtain ⟨y4, h4⟩ := Option.isSome_iff_exists.1 h4
      rw [h0, h1, h2, h3, h4]
      refine safe_retC (l := [.agg [U y0, U y1, U y2, U y3, U y4, Bl (decide (p2 = [42])), Bl (decide (p4 = [42]))], I 0]) (vc := True) ?_ trivial ?_ rfl rfl
      · simp only [retC, Tryd.results10, go_sem, Option.getD_some, Nat.reduceBEq, ag38]
        try rfl
      · refine ⟨?_, _, rfl⟩
        show RefP y (.tup [.agg [_, _, _, _, _, _, _], I 0])
        unfold RefP
        rw [parse_good hl hL h0 h1 h2 h3 h4]
        rfl
  · intro l hl2 rest
    simp only [List.mem_cons, List.not_mem_nil, or_false] at hl2
    rcases hl2 with rfl | rfl | rfl | rfl | rfl | rfl
    all_goals
      refine go_ok _ 100 _ _ ?_
      simp only [go_sem, List.length_cons, List.length_nil, rowsT, List.getD_cons_zero, List.getD_cons_succ, es2, es4, Int.reduceToNat, Nat.reduceBEq, Nat.reduceAdd, Nat.zero_add]
      refine ⟨by decide, by decide, by decide, by decide, by decide, by decide, by decide, by decide, by decide, by decide, by decide, by decide, by decide, by decide, ?_⟩
      try (refine fun (b5 : Nat) => ?_)
      repeat (refine ⟨by decide, ?_⟩)
      refine (stp_call [0] (args := [T p0, I 0, I 59]) rfl rfl rfl ⟨_, Tryd.func21, rfl, rfl⟩ S0 rfl (fun _ h => h) rfl (fun _ _ h => h) ?_).safe trivial
      rintro v hp ⟨rfl, rfl⟩
      refine ⟨by simp only [recheck, recheck1, go_sem, fieldV_eq, List.length_cons, List.length_nil, rowsT, List.getD_cons_zero, List.getD_cons_succ, es2, es4, Int.reduceToNat, Nat.reduceBEq, Nat.reduceAdd, Nat.zero_add]; try (and_intros <;> first | rfl | decide), go_ok _ 100 _ _ ?_⟩
      simp only [go_sem, fieldV_eq, List.length_cons, List.length_nil, rowsT, List.getD_cons_zero, List.getD_cons_succ, es2, es4, Int.reduceToNat, Nat.reduceBEq, Nat.reduceAdd, Nat.zero_add]
      try (refine fun (b5 : Nat) => ?_)
      repeat (refine ⟨by decide, ?_⟩)
      refine (stp_call [0] (args := [T p1, I 0, I 23]) rfl rfl rfl ⟨_, Tryd.func21, rfl, rfl⟩ S1 rfl (fun _ h => h) rfl (fun _ _ h => h) ?_).safe trivial
      rintro v hp ⟨rfl, rfl⟩
      refine ⟨by simp only [recheck, recheck1, go_sem, fieldV_eq, List.length_cons, List.length_nil, rowsT, List.getD_cons_zero, List.getD_cons_succ, es2, es4, Int.reduceToNat, Nat.reduceBEq, Nat.reduceAdd, Nat.zero_add]; try (and_intros <;> first | rfl | decide), go_ok _ 100 _ _ ?_⟩
      simp only [go_sem, fieldV_eq, List.length_cons, List.length_nil, rowsT, List.getD_cons_zero, List.getD_cons_succ, es2, es4, Int.reduceToNat, Nat.reduceBEq, Nat.reduceAdd, Nat.zero_add]
      try (refine fun (b5 : Nat) => ?_)
      repeat (refine ⟨by decide, ?_⟩)
      refine (stp_call [0] (args := [T p2, I 1, I 31]) rfl rfl rfl ⟨_, Tryd.func21, rfl, rfl⟩ S2 rfl (fun _ h => h) rfl (fun _ _ h => h) ?_).safe trivial
      rintro v hp ⟨rfl, rfl⟩
      refine ⟨by simp only [recheck, recheck1, go_sem, fieldV_eq, List.length_cons, List.length_nil, rowsT, List.getD_cons_zero, List.getD_cons_succ, es2, es4, Int.reduceToNat, Nat.reduceBEq, Nat.reduceAdd, Nat.zero_add]; try (and_intros <;> first | rfl | decide), go_ok _ 100 _ _ ?_⟩
      simp only [go_sem, fieldV_eq, List.length_cons, List.length_nil, rowsT, List.getD_cons_zero, List.getD_cons_succ, es2, es4, Int.reduceToNat, Nat.reduceBEq, Nat.reduceAdd, Nat.zero_add]
      try (refine fun (b5 : Nat) => ?_)
      repeat (refine ⟨by decide, ?_⟩)
      refine (stp_call [0] (args := [T p3, I 1, I 12]) rfl rfl rfl ⟨_, Tryd.func21, rfl, rfl⟩ S3 rfl (fun _ h => h) rfl (fun _ _ h => h) ?_).safe trivial
      rintro v hp ⟨rfl, rfl⟩
      refine ⟨by simp only [recheck, recheck1, go_sem, fieldV_eq, List.length_cons, List.length_nil, rowsT, List.getD_cons_zero, List.getD_cons_succ, es2, es4, Int.reduceToNat, Nat.reduceBEq, Nat.reduceAdd, Nat.zero_add]; try (and_intros <;> first | rfl | decide), go_ok _ 100 _ _ ?_⟩
      simp only [go_sem, fieldV_eq, List.length_cons, List.length_nil, rowsT, List.getD_cons_zero, List.getD_cons_succ, es2, es4, Int.reduceToNat, Nat.reduceBEq, Nat.reduceAdd, Nat.zero_add]
      try (refine fun (b5 : Nat) => ?_)
      repeat (refine ⟨by decide, ?_⟩)
      refine (stp_call [0] (args := [T p4, I 0, I 6]) rfl rfl rfl ⟨_, Tryd.func21, rfl, rfl⟩ S4 rfl (fun _ h => h) rfl (fun _ _ h => h) ?_).safe trivial
      rintro v hp ⟨rfl, rfl⟩
      refine ⟨by simp only [recheck, recheck1, go_sem, fieldV_eq, List.length_cons, List.length_nil, rowsT, List.getD_cons_zero, List.getD_cons_succ, es2, es4, Int.reduceToNat, Nat.reduceBEq, Nat.reduceAdd, Nat.zero_add]; try (and_intros <;> first | rfl | decide), ?_⟩
      first
        | (refine go_ok _ 4 _ _ ?_
           simp only [go_sem, fieldV_eq, List.length_cons, List.length_nil, rowsT, List.getD_cons_zero, List.getD_cons_succ, es2, es4, Int.reduceToNat, Nat.reduceBEq, Nat.reduceAdd, Nat.zero_add]
           refine fun (b5 : Nat) => ⟨by (try (and_intros <;> first | rfl | decide)), ?_⟩
           refine Safe.sub ?_ (rest b5)
           exact Sub.front (X := []) (by simp [envSub, look]) rfl)
        | (refine go_ok _ 3 _ _ ?_
           simp only [go_sem, fieldV_eq, List.length_cons, List.length_nil, Nat.reduceBEq, Nat.reduceAdd, Nat.zero_add]
           refine Safe.sub ?_ (rest b5)
           exact Sub.front (X := []) (by simp [envSub, look]) rfl)
end Go.SX

/- The program's Check and Due. -/
namespace Go.SX
open Go.Proofs Go.RowKit
set_option maxRecDepth 1000000
variable {E : Env}

set_option maxHeartbeats 4000000 in
theorem c9 (j : Jb) (h2 : j.cron.length ≤ 2 ^ 30) : Spec Tryd.prog E 9 [jobV j] [tabC] (fun v hp => CheckP j v ∧ hp = [tabC]) := by
  refine Spec.leave (Post := fun v hp => CheckP j v ∧ ∃ X, hp = tabC :: X) ?_ (fun v hp h => by
    obtain ⟨h1, X, h2⟩ := h
    exact ⟨[tabC], X, h2, h1, rfl⟩)
  refine spec_of (keep := k9) (args' := [jobV j]) Tryd.func9 rfl Tryd.ntmps9 s9_ok (by simp) ⟨rfl, fun _ h => h⟩ (fun _ _ h => h) (go_ok _ 100 _ _ ?_)
  simp only [go_sem, s9, k9, jobV, Nat.reduceBEq, Nat.zero_add]
  intro b
  refine (stp_call [] (args := [T j.name]) rfl rfl rfl ⟨_, Tryd.func18, rfl, rfl⟩ (c18 j.name) rfl (fun _ h => h) rfl (fun _ _ h => h) ?_).safe trivial
  rintro v hp ⟨rfl, rfl⟩
  refine ⟨trivial, go_ok _ 100 _ _ ?_⟩
  simp only [go_sem, Nat.reduceBEq, Nat.zero_add, Tryd.results9]
  have hq : (!nameA j.name || decide (j.pol < 0) || decide (2 < j.pol) || decide (j.dl < 1) || decide (10080 < j.dl) || decide (j.keep < 0) || decide (20 < j.keep)) = !(nameA j.name && numsOk j) := by
    unfold numsOk
    rw [Bool.eq_iff_iff]
    simp only [Bool.or_eq_true, Bool.not_eq_true', Bool.and_eq_false_iff, decide_eq_true_eq, decide_eq_false_iff_not]
    generalize nameA j.name = nn
    cases nn <;> simp <;> omega
  rw [hq]
  refine ⟨fun hc => ⟨⟨26, rfl, fun h => absurd h (by decide), fun h => ?_⟩, _, rfl⟩, fun hc => ?_⟩
  · unfold okJ at h
    rw [Bool.not_eq_true'] at hc
    rw [hc] at h
    cases h
  refine (stp_call [0] (args := [T j.cron]) rfl rfl rfl ⟨_, Tryd.func10, rfl, rfl⟩ (c10 j.cron h2) rfl (fun _ h => h) rfl (fun _ _ h => h) ?_).safe trivial
  rintro v hp ⟨hv, rfl⟩
  refine ⟨trivial, ?_⟩
  rw [Bool.not_eq_false'] at hc
  unfold RefP at hv
  rcases he : Cron.parse j.cron with _ | e
  · rw [he] at hv
    obtain ⟨n, hn, rfl⟩ := hv
    refine go_ok _ 100 _ _ ?_
    simp only [go_sem, rxV, Nat.reduceBEq, Nat.reduceAdd, Nat.zero_add, Tryd.results9]
    refine fun b' => ⟨⟨n, rfl, fun h => absurd h hn, fun h => ?_⟩, _, rfl⟩
    unfold okJ at h
    rw [he] at h
    simp at h
  · rw [he] at hv
    subst hv
    refine go_ok _ 100 _ _ ?_
    simp only [go_sem, rxV, Nat.reduceBEq, Nat.reduceAdd, Nat.zero_add, Tryd.results9]
    refine fun b' => ⟨⟨0, rfl, fun _ => ?_, fun _ => rfl⟩, _, rfl⟩
    unfold okJ
    rw [he, hc]
    rfl
theorem parse_bounds {x : List UInt8} {e : Cron.Ex} (h : Cron.parse x = some e) : e.ho < 2 ^ 24 ∧ e.mi < 2 ^ 60 := by
  unfold Cron.parse at h
  split at h
  · cases h
  · split at h
    · split at h
      · rename_i h1 h2 h3 h4 h5
        simp only [Option.some.injEq] at h
        subst h
        exact ⟨(Cron.field_pos (by decide) (by decide) (n := 24) (by decide) h2).2, (Cron.field_pos (by decide) (by decide) (n := 60) (by decide) h1).2⟩
      · cases h
    · cases h
theorem due_next {j : Jb} {e : Cron.Ex} {last now : Int} (hok : okJ j = true) (hs : j.sus = false) (hn : 0 ≤ now) (he : Cron.parse j.cron = some e) :
    (∃ m, nextV e (max last (max (now - j.dl - 1) (-1))) = .tup [I m, I 0] ∧ ((m ≤ now ∧ dueA j last now = some m) ∨ (now < m ∧ dueA j last now = none))) ∨
    (∃ k, k ≠ 0 ∧ nextV e (max last (max (now - j.dl - 1) (-1))) = .tup [I 0, I k] ∧ dueA j last now = none) := by
  have hnum := hok
  unfold okJ numsOk at hnum
  simp only [Bool.and_eq_true, decide_eq_true_eq] at hnum
  have hdue : dueA j last now = e.find (now + 1 - max (last + 1) (max (now - j.dl) 0)).toNat (max (last + 1) (max (now - j.dl) 0)) := by
    unfold dueA
    rw [if_pos ⟨hok, hs, hn⟩, he]
  obtain ⟨af, haf⟩ : ∃ af, max last (max (now - j.dl - 1) (-1)) = af := ⟨_, rfl⟩
  have hfr : max (last + 1) (max (now - j.dl) 0) = af + 1 := by omega
  rw [hfr] at hdue
  rw [haf, hdue]
  unfold nextV
  by_cases hl : Cron.last < af
  · rw [if_pos hl]
    exact .inr ⟨1, by decide, rfl, Cron.Ex.find_none fun k h1 h2 => Cron.Ex.hit_late (by omega)⟩
  · rw [if_neg hl]
    have hk : (now + 1 - (af + 1)).toNat ≤ 4216320 := by omega
    have hless := Cron.Ex.find_less (e := e) (m := af + 1) hk
    rw [← hless]
    rcases hf : e.find 4216320 (af + 1) with _ | m
    · exact .inr ⟨28, by decide, rfl, rfl⟩
    · obtain ⟨k1, k2, k3, k4⟩ := Cron.Ex.find_spec hf
      refine .inl ⟨m, rfl, ?_⟩
      by_cases hm : m ≤ now
      · exact .inl ⟨hm, by simp only; rw [if_pos (by omega)]⟩
      · exact .inr ⟨by omega, by simp only; rw [if_neg (by omega)]⟩
set_option maxHeartbeats 8000000 in
theorem c5 (j : Jb) (last now : Int) (h2 : j.cron.length ≤ 2 ^ 30) (hl : inI64 last) (hn : inI64 now) (hnn : now ≤ 2 ^ 60) : Spec Tryd.prog E 5 [jobV j, I last, I now] [tabC] (fun v hp => v = dueV (dueA j last now) ∧ hp = [tabC]) := by
  refine Spec.leave (Post := fun v hp => v = dueV (dueA j last now) ∧ ∃ X, hp = tabC :: X) ?_ (fun v hp h => by
    obtain ⟨h1, X, h2⟩ := h
    exact ⟨[tabC], X, h2, h1, rfl⟩)
  have hjv : jobV j = .agg [T j.name, T j.cron, I j.pol, I j.dl, I j.keep, Bl j.sus] := rfl
  refine spec_of (keep := k5) (args' := [jobV j, I last, I now]) Tryd.func5 rfl Tryd.ntmps5 s5_ok (by simp) ⟨rfl, fun _ h => h⟩ (fun _ _ h => h) (go_ok _ 100 _ _ ?_)
  simp only [go_sem, s5, k5, jobV, Nat.reduceBEq, Nat.reduceAdd, Nat.zero_add]
  intro b
  refine (stp_call [0] (args := [jobV j]) rfl rfl rfl ⟨_, Tryd.func9, rfl, rfl⟩ (c9 j h2) rfl (fun _ h => h) rfl (fun _ _ h => h) ?_).safe trivial
  rintro v hp ⟨⟨n, rfl, hok⟩, rfl⟩
  refine ⟨by simp only [recheck, go_sem], go_ok _ 100 _ _ ?_⟩
  simp only [go_sem, Nat.reduceBEq, Nat.zero_add, Tryd.results5]
  have hq : (decide (n ≠ 0) || j.sus || decide (now < 0)) = !(okJ j && !j.sus && decide (0 ≤ now)) := by
    rw [Bool.eq_iff_iff]
    simp only [Bool.or_eq_true, Bool.not_eq_true', Bool.and_eq_false_iff, decide_eq_true_eq, decide_eq_false_iff_not, Bool.not_eq_false']
    rw [ne_eq, hok, Bool.not_eq_true, Int.not_le]
  rw [hq]
  refine ⟨fun hc => ?_, fun hc => ?_⟩
  · have : dueA j last now = none := by
      unfold dueA
      rw [if_neg]
      rintro ⟨q1, q2, q3⟩
      rw [q1, q2, decide_eq_true q3] at hc
      cases hc
    rw [this]
    exact ⟨rfl, _, rfl⟩
  simp only [Bool.not_eq_false', Bool.and_eq_true, Bool.not_eq_true', decide_eq_true_eq] at hc
  obtain ⟨⟨q1, q2⟩, q3⟩ := hc
  refine (stp_call [0] (args := [T j.cron]) rfl rfl rfl ⟨_, Tryd.func10, rfl, rfl⟩ (c10 j.cron h2) rfl (fun _ h => h) rfl (fun _ _ h => h) ?_).safe trivial
  rintro v hp ⟨hv, rfl⟩
  unfold RefP at hv
  have q1' := q1
  unfold okJ at q1'
  rw [Bool.and_eq_true, Bool.and_eq_true] at q1'
  obtain ⟨⟨_, hnum⟩, hsome⟩ := q1'
  obtain ⟨e, he⟩ := Option.isSome_iff_exists.1 hsome
  rw [he] at hv
  subst hv
  have hdn := due_next (last := last) q1 q2 q3 he
  obtain ⟨hb1, hb2⟩ := parse_bounds he
  unfold numsOk at hnum
  simp only [Bool.and_eq_true, decide_eq_true_eq] at hnum
  refine ⟨trivial, go_ok _ 100 _ _ ?_⟩
  simp only [go_sem, rxV, Nat.reduceBEq, Nat.reduceAdd, Nat.zero_add]
  refine fun b2 => ⟨by simp only [inI64]; omega, by simp only [inI64]; omega, ?_⟩
  refine safe_oth (oth_max3 (xo := .t 30) (yo := .t 35) (zo := .c (.int .i64 (-1))) rfl rfl rfl rfl rfl rfl) trivial ?_
  rw [show max (max last (now - j.dl - 1)) (-1) = max last (max (now - j.dl - 1) (-1)) by omega]
  obtain ⟨af, haf⟩ : ∃ af, max last (max (now - j.dl - 1) (-1)) = af := ⟨_, rfl⟩
  rw [haf] at hdn ⊢
  refine go_ok _ 100 _ _ ?_
  simp only [go_sem, Nat.reduceBEq]
  have hxv : exV e = .agg [U e.mi, U e.ho, U e.da, U e.mo, U e.we, Bl e.ad, Bl e.aw] := rfl
  refine (stp_call [0] (args := [exV e, I af]) rfl rfl rfl ⟨_, Tryd.func11, rfl, rfl⟩ (c11 e af (by omega) hb1 hb2) (by rw [hxv]; rfl) (fun _ h => by rw [hxv]; exact h) rfl (fun _ _ h => h) ?_).safe trivial
  rintro v hp ⟨rfl, rfl⟩
  refine ⟨trivial, ?_⟩
  rcases hdn with ⟨m, e1, ⟨hm, e2⟩ | ⟨hm, e2⟩⟩ | ⟨k, hk, e1, e2⟩
  · rw [e1, e2]
    refine go_ok _ 100 _ _ ?_
    simp only [go_sem, decide_eq_false (show ¬ now < m by omega), Nat.reduceBEq, Tryd.results5]
    exact ⟨fun _ => rfl, fun h => absurd h (by decide), fun _ => ⟨rfl, _, rfl⟩⟩
  · rw [e1, e2]
    refine go_ok _ 100 _ _ ?_
    simp only [go_sem, decide_eq_true hm, Nat.reduceBEq, Tryd.results5]
    exact ⟨fun _ => rfl, ⟨rfl, _, rfl⟩, fun h => absurd h (by decide)⟩
  · rw [e1, e2]
    have hk2 : decide (k ≠ 0) = true := decide_eq_true hk
    refine go_ok _ 100 _ _ ?_
    simp only [go_sem, hk2, Nat.reduceBEq, Tryd.results5]
    exact ⟨fun h => absurd h (by decide), ⟨rfl, _, rfl⟩, fun h => absurd h (by decide)⟩
end Go.SX

/- The chapter's example; the law. -/
namespace Go.SX
open Go.Proofs Go.RowKit
set_option maxRecDepth 1000000
variable {E : Env}

/-- the chapter's job -/
def jobK : Jb := ⟨[97], [42, 32, 42, 32, 42, 32, 42, 32, 42], 0, 10, 0, false⟩
def exK : Cron.Ex := ⟨2 ^ 60 - 1, 2 ^ 24 - 1, 2 ^ 32 - 2, 2 ^ 13 - 2, 2 ^ 7 - 1, true, true⟩
theorem parseK : Cron.parse jobK.cron = some exK := by
  have h1 : Cron.fieldsA [] jobK.cron = [[42], [42], [42], [42], [42]] := by decide
  exact parse_good (by decide) h1 rfl rfl rfl rfl rfl
theorem okK : okJ jobK = true := by
  unfold okJ
  rw [parseK]
  rfl
theorem hitK : exK.hit 99 = true := by
  have hd : Cal.IsDate (Cron.dayOf 99) 1970 1 1 := ⟨by decide, by decide, by decide, by decide, by decide⟩
  unfold Cron.Ex.hit
  rw [Cron.Ex.day_eq hd]
  decide
theorem due1 : dueA jobK 98 100 = some 99 := by
  unfold dueA
  rw [if_pos ⟨okK, rfl, by decide⟩, parseK]
  exact Cron.Ex.find_some (by decide) (by decide) hitK fun k h1 h2 => absurd h2 (by
    have : max ((98 : Int) + 1) (max (100 - jobK.dl) 0) = 99 := by decide
    omega)
theorem due2 : dueA jobK 100 100 = none := by
  unfold dueA
  rw [if_pos ⟨okK, rfl, by decide⟩, parseK]
  rfl
theorem c4 : Spec Tryd.prog E 4 [] [tabC] (fun v hp => v = Bl true ∧ hp = [tabC]) := by
  refine spec_of (keep := k4) (args' := []) Tryd.func4 rfl Tryd.ntmps4 s4_ok (by simp) ⟨rfl, fun _ h => h⟩ (fun _ _ h => h) (go_ok _ 100 _ _ ?_)
  simp only [go_sem, s4, k4, Nat.reduceBEq, Nat.zero_add]
  have C1 := c5 (E := E) jobK 98 100 (by decide) (by simp only [inI64]; omega) (by simp only [inI64]; omega) (by decide)
  have C2 := c5 (E := E) jobK 100 100 (by decide) (by simp only [inI64]; omega) (by simp only [inI64]; omega) (by decide)
  rw [due1] at C1
  rw [due2] at C2
  refine (stp_call [0] (args := [jobV jobK, I 98, I 100]) rfl rfl rfl ⟨_, Tryd.func5, rfl, rfl⟩ C1 rfl (fun _ h => h) rfl (fun _ _ h => h) ?_).safe trivial
  rintro v hp ⟨rfl, rfl⟩
  refine ⟨trivial, go_ok _ 100 _ _ ?_⟩
  simp only [go_sem, dueV, Nat.reduceBEq, Nat.zero_add]
  refine (stp_call [0] (args := [jobV jobK, I 100, I 100]) rfl rfl rfl ⟨_, Tryd.func5, rfl, rfl⟩ C2 rfl (fun _ h => h) rfl (fun _ _ h => h) ?_).safe trivial
  rintro v hp ⟨rfl, rfl⟩
  refine ⟨trivial, go_ok _ 100 _ _ ?_⟩
  simp only [go_sem, dueV, Nat.reduceBEq, Tryd.results4]
theorem due_some {j : Jb} {last now m : Int} (h : dueA j last now = some m) : ∃ e, Cron.parse j.cron = some e ∧ e.hit m = true ∧ last < m ∧ m ≤ now ∧ now - m ≤ j.dl ∧ 0 ≤ m := by
  unfold dueA at h
  split at h
  · split at h
    · rename_i e he
      obtain ⟨k1, k2, k3, _⟩ := Cron.Ex.find_spec h
      exact ⟨e, he, k3, by omega, by omega, by omega, by omega⟩
    · cases h
  · cases h
set_option maxHeartbeats 8000000 in
theorem c3 (j : Jb) (last now : Int) (hs : j.name.length + j.cron.length ≤ 2 ^ 62) (hl : inI64 last) (hn : inI64 now) : Spec Tryd.prog E 3 [jobV j, I last, I now] [tabC] (fun v _ => v = Bl true) := by
  have hjv : jobV j = .agg [T j.name, T j.cron, I j.pol, I j.dl, I j.keep, Bl j.sus] := rfl
  refine spec_of (keep := k3) (args' := [jobV j, I last, I now]) Tryd.func3 rfl Tryd.ntmps3 s3_ok (by simp) ⟨rfl, fun _ h => h⟩ (fun _ _ h => h) (go_ok _ 100 _ _ ?_)
  simp only [go_sem, s3, k3, jobV, Nat.reduceBEq, Nat.reduceAdd, Nat.zero_add]
  intro b
  refine (stp_call [0] (args := []) rfl rfl rfl ⟨_, Tryd.func4, rfl, rfl⟩ c4 rfl (fun _ h => h) rfl (fun _ _ h => h) ?_).safe trivial
  rintro v hp ⟨rfl, rfl⟩
  refine ⟨trivial, go_ok _ 100 _ _ ?_⟩
  simp only [go_sem, List.size_toArray, Nat.reduceBEq, Nat.zero_add, Tryd.results3]
  refine ⟨by simp only [inI64]; omega, fun hc => ?_⟩
  rw [Bool.or_eq_false_iff, decide_eq_false_iff_not, decide_eq_false_iff_not] at hc
  refine (stp_call [0] (args := [jobV j, I last, I now]) rfl rfl rfl ⟨_, Tryd.func5, rfl, rfl⟩ (c5 j last now (by omega) hl hn (by omega)) (by rw [hjv]; rfl) (fun _ h => by rw [hjv]; exact h) rfl (fun _ _ h => h) ?_).safe trivial
  rintro v hp ⟨rfl, rfl⟩
  have C6 := c6 (E := E) j last now (by omega) (by omega) hl hn (by omega)
  rcases hdu : dueA j last now with _ | m
  · rw [hdu] at C6
    refine ⟨trivial, go_ok _ 100 _ _ ?_⟩
    simp only [go_sem, dueV, Nat.reduceBEq]
    refine (stp_call [] (args := [jobV j, I last, I now]) rfl rfl rfl ⟨_, Tryd.func6, rfl, rfl⟩ C6 (by rw [hjv]; rfl) (fun _ h => by rw [hjv]; exact h) rfl (fun _ _ h => h) ?_).safe trivial
    rintro v hp ⟨rfl, rfl⟩
    refine ⟨trivial, go_ok _ 100 _ _ ?_⟩
    simp only [go_sem, dueV, Nat.reduceBEq, Nat.zero_add, Tryd.results3]
    exact ⟨fun _ => rfl, fun h => absurd h (by decide), fun _ h => absurd h (by decide)⟩
  · obtain ⟨e, he, hhit, m1, m2, m3, m4⟩ := due_some hdu
    rw [hdu] at C6
    refine ⟨trivial, go_ok _ 100 _ _ ?_⟩
    simp only [go_sem, dueV, Nat.reduceBEq]
    refine (stp_call [] (args := [jobV j, I last, I now]) rfl rfl rfl ⟨_, Tryd.func6, rfl, rfl⟩ C6 (by rw [hjv]; rfl) (fun _ h => by rw [hjv]; exact h) rfl (fun _ _ h => h) ?_).safe trivial
    rintro v hp ⟨rfl, rfl⟩
    refine ⟨trivial, go_ok _ 100 _ _ ?_⟩
    have d1 : decide (m = m) = true := decide_eq_true rfl
    have d2 : decide (m ≠ m) = false := by simp
    simp only [go_sem, dueV, d2, Nat.reduceBEq, Nat.zero_add, Tryd.results3]
    refine (stp_call [] (args := [T j.cron]) rfl rfl rfl ⟨_, Tryd.func7, rfl, rfl⟩ (c7 j.cron (by omega)) rfl (fun _ h => h) rfl (fun _ _ h => h) ?_).safe trivial
    rintro v hp ⟨hv, rfl⟩
    unfold RefP at hv
    rw [he] at hv
    subst hv
    have g1 : decide (last < m) = true := decide_eq_true m1
    have g2 : decide (m ≤ now) = true := decide_eq_true m2
    have g3 : decide (now - m ≤ j.dl) = true := decide_eq_true m3
    have g4 : decide (0 ≤ m) = true := decide_eq_true m4
    have C8 := c8 (E := E) e m (by omega) (by omega)
    rw [hhit] at C8
    have hxv : rxV e = .agg [U e.mi, U e.ho, U e.da, U e.mo, U e.we, Bl e.ad, Bl e.aw] := rfl
    refine ⟨trivial, go_ok _ 100 _ _ ?_⟩
    simp only [go_sem, rxV, Nat.reduceBEq, Nat.reduceAdd, Nat.zero_add, Tryd.results3]
    refine fun b2 => ⟨?_, fun h => absurd h (by decide), rfl⟩
    refine Stp.safeOn ?_ trivial
    refine stp_call [] (args := [rxV e, I m]) rfl rfl rfl ⟨_, Tryd.func8, rfl, rfl⟩ C8 (by rw [hxv]; rfl) (fun _ h => by rw [hxv]; exact unc_oks h) (by simp [callIdx]) (fun _ _ h => h) ?_
    rintro v hp ⟨rfl, rfl⟩
    refine ⟨trivial, go_ok _ 100 _ _ ?_⟩
    simp only [go_sem, List.cons_append, List.nil_append, g1, g2, g3, g4, Nat.reduceBEq, Nat.zero_add, Tryd.results3]
    simp only [inI64]; omega
end Go.SX
