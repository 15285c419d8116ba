/- The law of what stays: its walk. -/
import Derived.Test.YthpnhfnilogflaaSxK22
namespace Go.SX
open Go.Proofs
set_option maxRecDepth 1000000
variable {E : Env}

def zz : List UInt8 := [122, 122]
structure N6 (a b : List UInt8) where
  i : Nat
  d : DS
  hi : i ≤ 40
  iv : PInv d.ps (i + 3)
  lf : d.ps.left = 0
  dd : d.ps.dead = false
  gt : getF d.ps.fs [122, 122] = some ⟨[122, 122], a ++ b, a.length⟩

structure N6b (a b : List UInt8) where
  j : Nat
  d : DS
  f : FS
  hj : j ≤ 3
  iv : PInv d.ps 60
  dd : d.ps.dead = false
  gt : getF d.ps.fs [122, 122] = some f
  fr : Front ⟨[122, 122], a ++ b, a.length⟩ f
theorem bytes_ne {x y : List UInt8} (h : decide ((⟨x.toArray⟩ : ByteArray) = ⟨y.toArray⟩) = false) : x ≠ y := fun e => by simp [e] at h
set_option maxHeartbeats 2000000 in
theorem c6 (a1 a2 a3 a4 : Option Addr) (c1 c2 c3 c4 : Nat) (xa xb : List UInt8) (calls : List Call) (picks : List Int) (ha : xa.length < 2 ^ 47) (hb : xb.length < 2 ^ 47) :
    Spec Try.prog E 6 [vB a1 c1 xa, vB a2 c2 xb, vC a3 c3 calls, vI a4 c4 picks] [] (fun v _ => v = Bl true) := by
  refine spec_of (keep := k6) (args' := [vB a1 c1 xa, vB a2 c2 xb, vC a3 c3 calls, vI a4 c4 picks]) Try.func6 rfl Try.ntmps6 s6_ok (by simp) ⟨rfl, fun _ h => h⟩ (fun _ _ h => h) (go_ok _ 100 _ _ ?_)
  simp only [go_sem, s6, k6, Nat.reduceBEq, Nat.reduceAdd, Nat.zero_add]
  refine (stp_call [] rfl rfl rfl ⟨_, Try.func10, rfl, rfl⟩ (c10.leave (Post' := fun v hp => v = Bl true ∧ hp = []) fun _ hp h => ⟨[], hp, rfl, h.1, rfl⟩) rfl (fun _ h => h) rfl (fun _ _ h => h) ?_).safe trivial
  rintro v hp ⟨rfl, rfl⟩
  refine ⟨trivial, go_ok _ 100 _ _ ?_⟩
  simp only [go_sem, Nat.reduceBEq, Try.results6]
  refine ⟨by simp only [inI64]; omega, fun hsm => ?_⟩
  have hlen : xa.length + xb.length ≤ 1000 := by simp at hsm; omega
  refine (stp_call [] rfl rfl rfl ⟨_, Try.func11, rfl, rfl⟩ (c11 1048576 0) rfl (fun _ h => h) rfl (fun _ _ h => h) ?_).safe trivial
  rintro v hp (⟨h, _, _⟩ | ⟨_, b, M, rfl, rfl⟩)
  · exact absurd h (by decide)
  obtain ⟨d0, hdO, e0⟩ : ∃ d0 : DS, [Chunk.cells b 68 [I 1048576, .val (.map (some M)), I 0, I 0, Bl false], mpC kvS M (⟨1048576, 0, 0, false, M, []⟩ : DS).mp, sepC []] = dO b d0 ∧ d0.ps = ⟨1048576, 0, 0, false, []⟩ := ⟨⟨1048576, 0, 0, false, M, []⟩, rfl, rfl⟩
  have i0 : PInv d0.ps 0 := by rw [e0]; exact PInv.new (by decide) (by decide) 0
  refine ⟨trivial, go_ok _ 100 _ _ ?_⟩
  simp only [go_sem, reduceCtorEq, Nat.reduceBEq, Try.results6]
  have q0 : decide ((0 : Int) ≠ 0) = false := by decide
  refine ⟨Stp.safeOn ?_ trivial, rfl⟩
  refine stp_call [0, 1, 2] (args := [.ptr 0 b 0, T [122, 122], vB a1 c1 xa]) rfl rfl rfl ⟨_, Try.func12, rfl, rfl⟩ (kApp [122, 122] a1 c1 xa i0 (by decide) (by omega)) rfl (fun _ h => unc_oks h) rfl (fun ro H h => by rw [← hdO]; exact h) ?_
  rintro v hp ⟨rfl, d1, e1, rfl⟩
  have i1 : PInv d1.ps 1 := by rw [e1]; exact i0.app (by omega)
  rw [e0, app_ok rfl (by decide) (by simp [sumF]; omega)] at e1 ⊢
  refine ⟨trivial, go_ok _ 100 _ _ ?_⟩
  simp only [go_sem, q0, List.append_nil, reduceCtorEq, Nat.reduceBEq, Try.results6]
  refine ⟨Stp.safeOn ?_ trivial, rfl⟩
  refine stp_call [0, 1, 2] (args := [.ptr 0 b 0, T [122, 122]]) rfl rfl rfl ⟨_, Try.func19, rfl, rfl⟩ (kSync [122, 122] i1 (by decide)) rfl (fun _ h => unc_oks h) rfl (fun _ _ h => h) ?_
  rintro v hp ⟨rfl, d2, e2, rfl⟩
  have i2 : PInv d2.ps 2 := by rw [e2]; exact i1.syn
  rw [e1, one_ok rfl (by decide) (by simp [addF, getF])] at e2 ⊢
  refine ⟨trivial, go_ok _ 100 _ _ ?_⟩
  simp only [go_sem, q0, List.append_nil, reduceCtorEq, Nat.reduceBEq, Try.results6]
  refine ⟨Stp.safeOn ?_ trivial, rfl⟩
  refine stp_call [0, 1, 2] (args := [.ptr 0 b 0, T [122, 122], vB a2 c2 xb]) rfl rfl rfl ⟨_, Try.func12, rfl, rfl⟩ (kApp [122, 122] a2 c2 xb i2 (by decide) (by omega)) rfl (fun _ h => unc_oks h) rfl (fun _ _ h => h) ?_
  rintro v hp ⟨rfl, d3, e3, rfl⟩
  have i3 : PInv d3.ps 3 := by rw [e3]; exact i2.app (by omega)
  have e2' : d2.ps = ⟨1048576, 2, 0, false, [⟨[122, 122], xa, xa.length⟩]⟩ := by rw [e2]; simp [PS.did, PS.begun, addF, synF]
  rw [e2', app_ok rfl (by decide) (by simp [sumF]; omega)] at e3 ⊢
  have e3' : d3.ps = ⟨1048576, 3, 0, false, [⟨[122, 122], xa ++ xb, xa.length⟩]⟩ := by rw [e3]; simp [PS.did, PS.begun, addF]
  clear e1 e2 e3 i0 i1 i2 hdO
  refine ⟨trivial, go_ok _ 100 _ _ ?_⟩
  simp only [go_sem, q0, List.append_nil, Nat.reduceBEq, Try.results6]
  refine safe_loop (ι := N6 xa xb) (fun g => ⟨[(0, vB a1 c1 xa), (1, vB a2 c2 xb), (2, vC a3 c3 calls), (3, vI a4 c4 picks), (9, .ptr 0 b 0), (11, I g.i)], dO b g.d⟩) (fun g => 40 - g.i)
    ⟨0, d3, by decide, i3, by rw [e3'], by rw [e3'], by rw [e3']; simp [getF]⟩ (Sub.front (X := []) ⟨rfl, rfl, rfl, rfl, rfl, rfl, trivial⟩ rfl) ?_
  intro g
  refine go_ok _ 100 _ _ ?_
  simp only [go_sem, Nat.reduceBEq, Nat.reduceAdd, Nat.zero_add, Int.toNat_natCast]
  refine ⟨fun hlt => ?_, fun _ => ?_⟩
  · have hlt : g.i < calls.length ∧ g.i < 40 := by simp at hlt; omega
    have hg := g.hi
    have hlf := g.lf
    have hgt := g.gt
    have next : ∀ (d' : DS) (p' : PS), Keeps g.d.ps p' [122, 122] → d'.ps = p' → PInv p' (g.i + 3 + 1) → ∃ q : N6 xa xb, q.i = g.i + 1 ∧ q.d = d' := fun d' p' hk e iv => ⟨⟨g.i + 1, d', by omega, by rw [e]; exact iv.mono (by omega), by rw [e]; exact hk.left, by rw [e, hk.dead]; exact g.dd, by rw [e, hk.get]; exact hgt⟩, rfl, rfl⟩
    refine ⟨by omega, by decide, fun bc => ?_⟩
    generalize calls.getD g.i default = c
    have fin : ∀ (q : N6 xa xb), q.i = g.i + 1 → ∀ (X : List Chunk) (E2 : List (Nat × SV)), Sub ⟨[(0, vB a1 c1 xa), (1, vB a2 c2 xb), (2, vC a3 c3 calls), (3, vI a4 c4 picks), (9, .ptr 0 b 0), (11, I ((g.i : Int) + 1))] ++ E2, dO b q.d ++ X⟩ ⟨[(0, vB a1 c1 xa), (1, vB a2 c2 xb), (2, vC a3 c3 calls), (3, vI a4 c4 picks), (9, .ptr 0 b 0), (11, I q.i)], dO b q.d⟩ :=
      fun q hq X E2 => Sub.front (X := X) ⟨rfl, rfl, rfl, rfl, rfl, by rw [hq]; rfl, trivial⟩ rfl
    have lt : ∀ (q : N6 xa xb), q.i = g.i + 1 → 40 - q.i < 40 - g.i := fun q hq => by omega
    have i64 : inI64 ((g.i : Int) + 1) := by simp only [inI64]; omega
    refine ⟨fun _ => ⟨i64, ?_⟩, fun hno => ?_⟩
    · exact safe_lend ⟨g.i + 1, g.d, by omega, g.iv.mono (by omega), hlf, g.dd, hgt⟩ (lt _ rfl) (fin ⟨g.i + 1, g.d, by omega, g.iv.mono (by omega), hlf, g.dd, hgt⟩ rfl [_] [(12, .ptr 3 bc 0)])
    simp only [Bool.or_eq_false_iff] at hno
    have nA := bytes_ne (x := c.A) (y := [122, 122]) hno.1.1
    have nB := bytes_ne (x := c.B) (y := [122, 122]) hno.1.2
    have nD : c.data.xs.length ≤ 1000 := by have := hno.2; simp at this; omega
    refine ⟨fun _ => ?_, fun _ => ⟨fun _ => ?_, fun _ => ⟨fun _ => ?_, fun _ => ⟨fun _ => ?_, fun _ => ?_⟩⟩⟩⟩
    · refine (stp_call [0, 1, 2] (args := [.ptr 0 b 0, T c.A, vB c.data.a c.data.cap c.data.xs]) rfl rfl rfl ⟨_, Try.func12, rfl, rfl⟩ (kApp c.A c.data.a c.data.cap c.data.xs g.iv (by omega) (by omega)) rfl (fun _ h => h) rfl (fun _ _ h => h) ?_).safe trivial
      rintro v hp ⟨rfl, d', e, rfl⟩
      obtain ⟨q, q1, rfl⟩ := next d' _ (keeps_app hlf nA) e (g.iv.app (by omega))
      refine ⟨trivial, go_ok _ 100 _ _ ?_⟩
      simp only [go_sem, List.cons_append, List.nil_append, Nat.reduceBEq]
      exact ⟨i64, safe_lend q (lt q q1) (fin q q1 [_] [(12, .ptr 3 bc 0), (76, I c.kind)])⟩
    · refine (stp_call [0, 1, 2] (args := [.ptr 0 b 0, T c.A]) rfl rfl rfl ⟨_, Try.func19, rfl, rfl⟩ (kSync c.A g.iv (by omega)) rfl (fun _ h => h) rfl (fun _ _ h => h) ?_).safe trivial
      rintro v hp ⟨rfl, d', e, rfl⟩
      obtain ⟨q, q1, rfl⟩ := next d' _ (keeps_one hlf (by rw [get_syn, if_neg nA])) e g.iv.syn
      refine ⟨trivial, go_ok _ 100 _ _ ?_⟩
      simp only [go_sem, List.cons_append, List.nil_append, Nat.reduceBEq]
      exact ⟨i64, safe_lend q (lt q q1) (fin q q1 [_] [(12, .ptr 3 bc 0), (76, I c.kind)])⟩
    · refine (stp_call [0, 1, 2] (args := [.ptr 0 b 0, T c.A, T c.B]) rfl rfl rfl ⟨_, Try.func21, rfl, rfl⟩ (kRen c.A c.B g.iv (by omega)) rfl (fun _ h => h) rfl (fun _ _ h => h) ?_).safe trivial
      rintro v hp ⟨rfl, d', e, rfl⟩
      obtain ⟨q, q1, rfl⟩ := next d' _ (keeps_ren hlf g.iv.nd nA nB) e g.iv.ren
      refine ⟨trivial, go_ok _ 100 _ _ ?_⟩
      simp only [go_sem, List.cons_append, List.nil_append, Nat.reduceBEq]
      exact ⟨i64, safe_lend q (lt q q1) (fin q q1 [_] [(12, .ptr 3 bc 0), (76, I c.kind)])⟩
    · refine (stp_call [0, 1, 2] (args := [.ptr 0 b 0, T c.A]) rfl rfl rfl ⟨_, Try.func18, rfl, rfl⟩ (kRem c.A g.iv (by omega)) rfl (fun _ h => h) rfl (fun _ _ h => h) ?_).safe trivial
      rintro v hp ⟨rfl, d', e, rfl⟩
      obtain ⟨q, q1, rfl⟩ := next d' _ (keeps_one hlf (by rw [get_del _ _ _ g.iv.nd, if_neg nA])) e g.iv.rem
      refine ⟨trivial, go_ok _ 100 _ _ ?_⟩
      simp only [go_sem, List.cons_append, List.nil_append, Nat.reduceBEq]
      exact ⟨i64, safe_lend q (lt q q1) (fin q q1 [_] [(12, .ptr 3 bc 0), (76, I c.kind)])⟩
    · exact ⟨i64, safe_lend ⟨g.i + 1, g.d, by omega, g.iv.mono (by omega), hlf, g.dd, hgt⟩ (lt _ rfl) (fin ⟨g.i + 1, g.d, by omega, g.iv.mono (by omega), hlf, g.dd, hgt⟩ rfl [_] [(12, .ptr 3 bc 0), (76, I c.kind)])⟩
  · have hfr0 : (FS.mk [122, 122] (xa ++ xb) xa.length).syn ≤ (FS.mk [122, 122] (xa ++ xb) xa.length).xs.length := by simp
    refine safe_loop (ι := N6b xa xb) (fun q => ⟨[(0, vB a1 c1 xa), (1, vB a2 c2 xb), (3, vI a4 c4 picks), (9, .ptr 0 b 0), (13, I q.j)], dO b q.d⟩) (fun q => 3 - q.j)
      ⟨0, g.d, _, by decide, g.iv.mono (by have := g.hi; omega), g.dd, g.gt, Front.refl hfr0⟩ (Sub.front (X := []) ⟨rfl, rfl, rfl, rfl, rfl, trivial⟩ rfl) ?_
    intro q
    have hqj := q.hj
    refine go_ok _ 17 _ _ ?_
    simp only [go_sem, List.cons_append, List.nil_append, Nat.reduceBEq, Try.results6]
    intro hlt
    have hlt : q.j < 3 := by simp at hlt; omega
    refine safe_code_mid (ι := {r : N6b xa xb // r.j = q.j + 1}) (fun r => ⟨[(0, vB a1 c1 xa), (1, vB a2 c2 xb), (3, vI a4 c4 picks), (9, .ptr 0 b 0), (13, I q.j)], dO b r.1.d⟩) ?_ ?_
    · rintro ⟨r, hr⟩
      have hrj := r.hj
      obtain ⟨f1, f2, f3, m, f4⟩ := r.fr
      simp only at f1 f2 f4
      have hrd : readF r.d.ps.fs r.d.ps.dead [122, 122] = (r.f.xs, 0) := by rw [r.dd, readF_get _ (by decide), r.gt]
      have hl1 : xa.length ≤ r.f.xs.length := by omega
      have hl2 : r.f.xs.length ≤ xa.length + xb.length := by rw [f4, List.length_take, List.length_append]; omega
      have hx : r.f.xs = (xa ++ xb).take r.f.xs.length := by
        conv => lhs; rw [f4]
        rw [f4, List.length_take, ← List.take_eq_take_min]
      generalize r.f.xs = xs at hrd hl1 hl2 hx
      refine go_ok _ 100 _ _ ?_
      simp only [go_sem, Nat.reduceBEq]
      refine (stp_call [0, 1, 2] (args := [.ptr 0 b 0, T [122, 122]]) rfl rfl rfl ⟨_, Try.func13, rfl, rfl⟩ (kRead 3 [122, 122] r.iv (by decide)) rfl (fun _ h => h) rfl (fun ro H h => h) ?_).safe trivial
      rintro v hp ⟨nl, b6, off, cap, rfl, rfl⟩
      rw [hrd]
      have q0 : decide ((0 : Int) ≠ 0) = false := by decide
      have q1 : decide ((xs.length : Int) < xa.length) = false := by simp; omega
      have q2 : decide ((xa.length : Int) + xb.length < xs.length) = false := by simp; omega
      refine ⟨trivial, go_ok _ 100 _ _ ?_⟩
      simp only [go_sem, q0, q1, q2, reduceCtorEq, List.cons_append, List.nil_append, Nat.reduceBEq, Try.results6]
      refine ⟨by simp only [inI64]; omega, ?_, rfl⟩
      refine safe_frzA (c := 3) (rowsV encB xs) rfl (fun _ _ _ _ => rfl) (by simp [frzOk, frzOk1]) ?_
      simp only [go_sem]
      refine safe_othOn (oth_str (e := 5) (xs := xs) (ad := if nl then none else some ⟨b6, off, none⟩) (n := xs.length) (cap := cap) (f := rowsV encB xs) (xo := .t 140) rfl (by kernel_rfl) (by kernel_rfl) (by kernel_rfl) rfl rfl (fun ro h => by simp only [SV.ok] at h ⊢; exact h trivial) rfl fun i _ => rfl) (show 141 < 153 by decide) trivial ?_
      refine go_ok _ 100 _ _ ?_
      simp only [go_sem, reduceCtorEq, List.cons_append, List.nil_append, Nat.reduceBEq, Try.results6]
      have hstr := fun (st : St) (hx : opv st.env (.t 140) = some (.cnd true (.view (if nl then none else some ⟨b6, off, none⟩) xs.length cap 1 (rowsV encB xs)))) => oth_str (C := { P := Try.prog, E := E, N := 153 }) (st := st) (x := .tmp 140) (src := 22) (dst := 9) (ty := 9) (e := 5) (xs := xs) (ad := if nl then none else some ⟨b6, off, none⟩) (n := xs.length) (cap := cap) (f := rowsV encB xs) (xo := .t 140) rfl (by kernel_rfl) (by kernel_rfl) (by kernel_rfl) hx rfl (fun ro h => by simp only [SV.ok] at h ⊢; exact h trivial) rfl fun i _ => rfl
      refine ⟨?_, rfl⟩
      refine Stp.safeOn ?_ trivial
      refine stp_bsl (cs := []) rfl fun b8 => ?_
      refine ⟨⟨?_, recheck_gsOn rfl (hstr _ rfl) rfl, ?_, ?_, ?_, ?_, trivial⟩, ?_⟩
      · simp only [recheck1, go_sem, Nat.reduceBEq]
      · simp only [recheck1, go_sem, Nat.reduceBEq]
      · simp only [recheck1, go_sem, Nat.reduceBEq]
      · simp only [recheck1, go_sem, Nat.reduceBEq]
      · simp only [recheck1, go_sem, Nat.reduceBEq]
      refine safe_gs (gb := true) rfl (fun _ => ?_) (fun h => absurd h (by decide)) (decide_eq_true (show 144 < 153 by decide))
      refine safe_peel (t := 143) rfl ?_
      refine Stp.safeOn ?_ trivial
      refine stp_app2 (c := 4) (b := b8) (off := 0) (nl := false) (n := 0) (cap := 0) (x := vB a1 c1 xa) (gx := rowsV encB xa) (m := xa.length) (f := litF 1 []) (f2 := rowsV encB xa) (N := xa.length) rfl rfl rfl rfl rfl (onesF_rows fun x => ⟨rfl, by simp [encB, ones, one, Value.oneCell']⟩) (by omega) (by simp) (fun i j hi hj => by rw [appF_zero]) fun nl1 bo1 off1 cap1 => ?_
      refine ⟨⟨?_, recheck_gsOn rfl (hstr _ rfl) rfl, ?_, ?_, ?_, trivial⟩, ?_⟩
      · simp only [recheck1, go_sem, Nat.reduceBEq]
      · simp only [recheck1, go_sem, Nat.reduceBEq]
      · simp only [recheck1, go_sem, Nat.reduceBEq]
      · simp only [recheck1, go_sem, Nat.reduceBEq]
      refine safe_gs (gb := true) rfl (fun _ => ?_) (fun h => absurd h (by decide)) (decide_eq_true (show 146 < 153 by decide))
      refine safe_peel (t := 145) rfl ?_
      refine Stp.safeOn ?_ trivial
      refine stp_app2 (c := 4) (b := bo1) (off := off1) (nl := nl1) (n := xa.length) (cap := cap1) (x := vB a2 c2 xb) (gx := rowsV encB xb) (m := xb.length) (f := rowsV encB xa) (f2 := rowsV encB (xa ++ xb)) (N := (xa ++ xb).length) rfl rfl rfl rfl rfl (onesF_rows fun x => ⟨rfl, by simp [encB, ones, one, Value.oneCell']⟩) (by omega) (by simp) (fun i j hi hj => app_rows i j (by simpa using hi) hj) fun nl2 bo2 off2 cap2 => ?_
      refine ⟨⟨?_, recheck_gsOn rfl (hstr _ rfl) rfl, ?_, ?_, trivial⟩, ?_⟩
      · simp only [recheck1, go_sem, Nat.reduceBEq]
      · simp only [recheck1, go_sem, Nat.reduceBEq]
      · simp only [recheck1, go_sem, Nat.reduceBEq]
      refine safe_prune [0, 1, 3, 9, 13, 14, 15, 139, 141, 146, 148] ?_
      simp only [prune, go_sem, Nat.reduceBEq]
      refine safe_rowcap (c := 4) (n := (xa ++ xb).length) (cap := cap2) rfl fun hcap2 => ?_
      refine safe_frzA (c := 4) (rowsV encB (xa ++ xb)) rfl (fun _ _ _ _ => rfl) (by simp [frzOk, frzOk1]) ?_
      have hl3 : (xa ++ xb).length = xa.length + xb.length := by simp
      refine go_ok _ 1 _ _ ?_
      simp only [go_sem, List.cons_append, List.nil_append, Nat.reduceBEq]
      refine ⟨?_, ?_⟩
      · and_intros
        all_goals (first | omega | rfl | (intro; omega) | trivial)
      refine safe_gs (gb := true) rfl (fun _ => ?_) (fun h => absurd h (by decide)) (decide_eq_true (show 150 < 153 by decide))
      have hg1 : ∀ i, i < xs.length → xs.getD i 0 = (xa ++ xb).getD i 0 := by
        intro i hi
        rw [hx, List.getD_eq_getElem?_getD, List.getElem?_take, if_pos hi, ← List.getD_eq_getElem?_getD]
      refine safe_othOn (oth_str (e := 5) (xs := xs) (xo := .t 149) rfl (by kernel_rfl) (by kernel_rfl) (by kernel_rfl) rfl rfl (fun ro h => by simp only [SV.ok] at h ⊢; exact h trivial) (by simp) fun i hi => ?_) (show 150 < 153 by decide) trivial ?_
      · rw [hg1 i (by simpa using hi)]
        rfl
      refine go_ok _ 100 _ _ ?_
      simp only [go_sem, List.cons_append, List.nil_append, Nat.reduceBEq, Try.results6]
      refine ⟨fun h => absurd h (by simp), fun _ => ⟨by simp only [inI64]; omega, ?_⟩⟩
      exact safe_lend r (by show 3 - r.j < 3 - q.j; omega) (Sub.front (X := [.emp, .emp]) ⟨rfl, rfl, rfl, rfl, by rw [hr]; rfl, trivial⟩ rfl)
    · intro hrest
      cases hc : decide ((picks.length : Int) < 200) with
      | false =>
        refine go_ok _ 2 _ _ ?_
        simp only [go_sem, Nat.reduceBEq]
        refine Safe.sub ?_ (hrest ⟨⟨q.j + 1, q.d, q.f, hlt, q.iv, q.dd, q.gt, q.fr⟩, rfl⟩)
        exact Sub.front (X := []) ⟨rfl, rfl, rfl, rfl, rfl, trivial⟩ rfl
      | true =>
        refine go_ok _ 100 _ _ ?_
        simp only [go_sem, reduceCtorEq, Nat.reduceBEq]
        refine (stp_call [0, 1, 2] (args := [.ptr 0 b 0, vI a4 c4 picks]) rfl rfl rfl ⟨_, Try.func22, rfl, rfl⟩ (kCrash a4 c4 picks q.iv (by decide)) rfl (fun _ h => h) rfl (fun ro H h => h) ?_).safe trivial
        rintro v hp ⟨rfl, d', e, rfl⟩
        obtain ⟨f', h6, h7⟩ := get_crash_some (picks := picks) q.iv.sy q.gt
        refine ⟨trivial, go_ok _ 1 _ _ ?_⟩
        simp only [go_sem, List.cons_append, List.nil_append, Nat.reduceBEq]
        refine Safe.sub ?_ (hrest ⟨⟨q.j + 1, d', f', hlt, by rw [e]; exact q.iv.crash, by rw [e]; rfl, by rw [e]; exact h6, q.fr.trans h7⟩, rfl⟩)
        exact Sub.front (X := []) ⟨rfl, rfl, rfl, rfl, rfl, trivial⟩ rfl
end Go.SX
