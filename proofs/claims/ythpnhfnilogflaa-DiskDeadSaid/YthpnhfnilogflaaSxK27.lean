/- The law of the dead disk: its walk. -/
import Derived.Test.YthpnhfnilogflaaSxK24
namespace Go.SX
open Go.Proofs
set_option maxRecDepth 1000000
variable {E : Env}

structure N9 (n : Int) where
  i : Nat
  bg : Nat
  d : DS
  hi : i ≤ 40
  hb : bg ≤ i
  iv : PInv d.ps i
  st : Dd n bg d.ps
  rm : d.ps.room = 65536

theorem room_app (p : PS) (x ys : List UInt8) : (p.app x ys).2.room = p.room := by
  unfold PS.app
  repeat' split
  all_goals exact (begun_same' p).1
theorem room_one (p : PS) (x : List UInt8) (g : List FS → List FS) : (p.one x g).2.room = p.room := by
  unfold PS.one
  repeat' split
  all_goals exact (begun_same' p).1
theorem room_ren (p : PS) (x y : List UInt8) : (p.ren x y).2.room = p.room := by
  unfold PS.ren
  repeat' split
  all_goals exact (begun_same' p).1
structure M9 (n : Int) (i bg : Nat) where
  e : Int
  op : Bool
  d : DS
  iv : PInv d.ps (i + 1)
  st : Dd n (if op then bg + 1 else bg) d.ps
  rm : d.ps.room = 65536
  ok : decide (e = 13) = decide (n ≤ ((if op then bg + 1 else bg : Nat) : Int))
theorem read13 (fs : List FS) (dead : Bool) (x : List UInt8) : decide ((readF fs dead x).2 = 13) = dead := by
  unfold readF
  cases dead with
  | true => rfl
  | false =>
    simp only [Bool.false_eq_true, if_false]
    split
    · split <;> rfl
    · rfl
theorem list13 (p : PS) : decide ((listF p).2 = 13) = p.dead := by
  unfold listF
  cases p.dead <;> rfl
theorem nm_ok3 : ∀ k, k < 3 → nameB (nmJ k) = true := by decide

set_option maxHeartbeats 2000000 in
theorem c9 (n0 : Int) (a : Option Addr) (cap : Nat) (calls : List Call) : Spec Try.prog E 9 [I n0, vC a cap calls] [] (fun v _ => v = Bl true) := by
  refine spec_of (keep := k9) (args' := [I n0, vC a cap calls]) Try.func9 rfl Try.ntmps9 s9_ok (by simp) ⟨rfl, fun _ h => h⟩ (fun _ _ h => h) (go_ok _ 100 _ _ ?_)
  simp only [go_sem, s9, k9, Nat.reduceBEq, Nat.zero_add]
  refine (stp_call [] rfl rfl rfl ⟨_, Try.func10, rfl, rfl⟩ (c10.leave (Post' := fun v hp => v = Bl true ∧ hp = []) fun _ hp h => ⟨[], hp, rfl, h.1, rfl⟩) rfl (fun _ h => h) rfl (fun _ _ h => h) ?_).safe trivial
  rintro v hp ⟨rfl, rfl⟩
  refine ⟨trivial, go_ok _ 100 _ _ ?_⟩
  simp only [go_sem, Nat.reduceBEq, Try.results9]
  refine (stp_call [] rfl rfl rfl ⟨_, Try.func11, rfl, rfl⟩ (c11 65536 0) rfl (fun _ h => h) rfl (fun _ _ h => h) ?_).safe trivial
  rintro v hp (⟨h, _, _⟩ | ⟨_, b, M, rfl, rfl⟩)
  · exact absurd h (by decide)
  obtain ⟨d0, hdO, e0⟩ : ∃ d0 : DS, [Chunk.cells b 68 [I 65536, .val (.map (some M)), I 0, I 0, Bl false], mpC kvS M (⟨65536, 0, 0, false, M, []⟩ : DS).mp, sepC []] = dO b d0 ∧ d0.ps = ⟨65536, 0, 0, false, []⟩ := ⟨⟨65536, 0, 0, false, M, []⟩, rfl, rfl⟩
  have i0 : PInv d0.ps 0 := by rw [e0]; exact PInv.new (by decide) (by decide) 0
  refine ⟨trivial, go_ok _ 100 _ _ ?_⟩
  simp only [go_sem, Nat.reduceBEq, Try.results9]
  refine (stp_call [] rfl rfl rfl ⟨_, Try.func15, rfl, rfl⟩ (c15 n0 9 (by decide) (by decide)) rfl (fun _ h => h) rfl (fun _ _ h => h) ?_).safe trivial
  rintro v hp ⟨rfl, rfl⟩
  have hr : 0 ≤ n0 % 9 ∧ n0 % 9 < 9 := by omega
  generalize n0 % 9 = r at hr ⊢
  refine ⟨trivial, go_ok _ 100 _ _ ?_⟩
  simp only [go_sem, Nat.reduceBEq]
  refine ⟨by simp only [inI64]; omega, ?_⟩
  have hn : 1 ≤ 1 + r ∧ 1 + r ≤ 9 := by omega
  generalize 1 + r = n at hn ⊢
  refine (stp_call [0, 1, 2] (args := [.ptr 0 b 0, I n]) rfl rfl rfl ⟨_, Try.func20, rfl, rfl⟩ (kStop n) rfl (fun _ h => h) rfl (fun ro H h => by rw [← hdO]; exact h) ?_).safe trivial
  rintro v hp ⟨rfl, d1, e1, rfl⟩
  have i1 : PInv d1.ps 0 := by rw [e1]; exact i0.stop (by simp only [inI64]; omega)
  have e1' : d1.ps = ⟨65536, 0, n, false, []⟩ := by rw [e1, e0]; simp [PS.stop]; omega
  clear hdO i0 e1
  refine ⟨trivial, go_ok _ 100 _ _ ?_⟩
  simp only [go_sem, Nat.reduceBEq]
  refine safe_loop (ι := N9 n) (fun g => ⟨[(0, I n), (1, vC a cap calls), (5, .ptr 0 b 0), (7, I g.bg), (8, I g.i)], dO b g.d⟩) (fun g => 40 - g.i)
    ⟨0, 0, d1, by decide, by decide, i1, Dd.new hn.1 (by rw [e1']) (by rw [e1']) (by rw [e1']), by rw [e1']⟩ (Sub.front (X := []) ⟨rfl, rfl, rfl, rfl, rfl, trivial⟩ rfl) ?_
  intro g
  refine go_ok _ 100 _ _ ?_
  simp only [go_sem, Nat.reduceBEq, Nat.reduceAdd, Nat.zero_add, Int.toNat_natCast]
  have hg := g.hi
  have hgb := g.hb
  refine ⟨fun hlt => ?_, fun _ => ?_⟩
  · have hlt : g.i < calls.length ∧ g.i < 40 := by simp at hlt; omega
    refine ⟨by omega, by decide, fun bc => ?_⟩
    generalize calls.getD g.i default = c
    have i64 : inI64 ((g.i : Int) + 1) := by simp only [inI64]; omega
    refine ⟨fun _ => ⟨i64, ?_⟩, fun hno => ?_⟩
    · exact safe_lend ⟨g.i + 1, g.bg, g.d, by omega, by omega, g.iv.mono (by omega), g.st, g.rm⟩ (by show 40 - (g.i + 1) < 40 - g.i; omega) (Sub.front (X := [_]) ⟨rfl, rfl, rfl, rfl, rfl, trivial⟩ rfl)
    have nD : c.data.xs.length ≤ 500 := by simp at hno; omega
    refine (stp_call [] rfl rfl rfl ⟨_, Try.func15, rfl, rfl⟩ (c15 c.n 3 (by decide) (by decide)) rfl (fun _ h => h) rfl (fun _ _ h => h) ?_).safe trivial
    rintro v hp ⟨rfl, rfl⟩
    obtain ⟨k, hk, hke⟩ : ∃ k : Nat, k < 3 ∧ c.n % 3 = k := ⟨(c.n % 3).toNat, by omega, by omega⟩
    rw [hke]
    refine ⟨trivial, go_ok _ 2 _ _ ?_⟩
    simp only [go_sem, u8_nm k (by omega), List.cons_append, List.nil_append, Nat.reduceBEq]
    refine ⟨by simp only [inI64]; omega, ?_⟩
    refine safe_bslstr (z := UInt8.ofNat (97 + k)) rfl (by kernel_rfl) (by kernel_rfl) (by kernel_rfl) (fun _ => trivial) (fun _ => trivial) fun b2 => ?_
    refine go_ok _ 100 _ _ ?_
    simp only [go_sem, List.cons_append, List.nil_append, Nat.reduceBEq, Nat.zero_add]
    refine (stp_call [] rfl rfl rfl ⟨_, Try.func15, rfl, rfl⟩ (c15 c.kind 6 (by decide) (by decide)) rfl (fun _ h => h) rfl (fun _ _ h => h) ?_).safe trivial
    rintro v hp ⟨rfl, rfl⟩
    have hr6 : 0 ≤ c.kind % 6 ∧ c.kind % 6 < 6 := by omega
    generalize c.kind % 6 = w at hr6 ⊢
    have e0 : nmJ k = [UInt8.ofNat (97 + k)] := rfl
    rw [← e0]
    have hkn := nm_ok3 k hk
    generalize nmJ k = x at hkn ⊢
    refine ⟨trivial, go_ok _ 2 _ _ ?_⟩
    simp only [go_sem, List.cons_append, List.nil_append, Nat.reduceBEq]
    refine safe_code_mid (ι := M9 n g.i g.bg) (fun q => ⟨[(0, I n), (1, vC a cap calls), (5, .ptr 0 b 0), (7, I g.bg), (8, I g.i), (11, I q.e), (12, Bl q.op)], dO b q.d⟩) ?_ ?_
    · intro q
      have hqr := q.rm
      refine go_ok _ 6 _ _ ?_
      simp only [go_sem, List.cons_append, List.nil_append, Nat.reduceBEq]
      have qst := q.st
      have qok := q.ok
      cases hop : q.op with
      | true =>
        rw [hop] at qst qok
        simp only [if_true] at qst qok
        push_cast at qok
        have qo := qst.op
        push_cast at qo
        have q5 : decide (min ((g.bg : Int) + 1) (n - 1) ≠ min ((g.bg : Int) + 1) (n - 1)) = false := by simp
        refine go_ok _ 100 _ _ ?_
        simp only [go_sem, qok, BEq.rfl, Bool.not_true, reduceCtorEq, List.cons_append, List.nil_append, Nat.reduceBEq, Try.results9]
        refine ⟨by simp only [inI64]; omega, ?_⟩
        refine ⟨?_, rfl⟩
        refine Stp.safeOn ?_ trivial
        refine stp_call [0, 1, 2] (args := [.ptr 0 b 0]) rfl rfl rfl ⟨_, Try.func17, rfl, rfl⟩ kOps rfl (fun _ h => unc_oks h) rfl (fun _ _ h => h) ?_
        rintro v hp ⟨rfl, rfl⟩
        rw [qo]
        refine ⟨trivial, go_ok _ 100 _ _ ?_⟩
        simp only [go_sem, q5, List.cons_append, List.nil_append, Nat.reduceBEq, Try.results9]
        refine ⟨by simp only [inI64]; omega, i64, ?_⟩
        exact safe_lend ⟨g.i + 1, g.bg + 1, q.d, by omega, by omega, q.iv, qst, hqr⟩ (by show 40 - (g.i + 1) < 40 - g.i; omega) (Sub.front (X := []) ⟨rfl, rfl, rfl, rfl, rfl, trivial⟩ rfl)
      | false =>
        rw [hop] at qst qok
        simp only [Bool.false_eq_true, if_false] at qst qok
        skip
        have qo := qst.op
        skip
        have q5 : decide (min ((g.bg : Int)) (n - 1) ≠ min ((g.bg : Int)) (n - 1)) = false := by simp
        refine go_ok _ 100 _ _ ?_
        simp only [go_sem, qok, BEq.rfl, Bool.not_true, reduceCtorEq, List.cons_append, List.nil_append, Nat.reduceBEq, Try.results9]
        skip
        refine ⟨?_, rfl⟩
        refine Stp.safeOn ?_ trivial
        refine stp_call [0, 1, 2] (args := [.ptr 0 b 0]) rfl rfl rfl ⟨_, Try.func17, rfl, rfl⟩ kOps rfl (fun _ h => unc_oks h) rfl (fun _ _ h => h) ?_
        rintro v hp ⟨rfl, rfl⟩
        rw [qo]
        refine ⟨trivial, go_ok _ 100 _ _ ?_⟩
        simp only [go_sem, q5, List.cons_append, List.nil_append, Nat.reduceBEq, Try.results9]
        refine ⟨by simp only [inI64]; omega, i64, ?_⟩
        exact safe_lend ⟨g.i + 1, g.bg, q.d, by omega, by omega, q.iv, qst, hqr⟩ (by show 40 - (g.i + 1) < 40 - g.i; omega) (Sub.front (X := []) ⟨rfl, rfl, rfl, rfl, rfl, trivial⟩ rfl)
    · intro hrest
      refine go_ok _ 100 _ _ ?_
      simp only [go_sem, List.cons_append, List.nil_append, Nat.reduceBEq, Nat.zero_add]
      refine ⟨fun _ => ?_, fun _ => ⟨fun _ => ?_, fun _ => ⟨fun _ => ?_, fun _ => ⟨fun _ => ?_, fun _ => ⟨fun _ => ?_, fun _ => ?_⟩⟩⟩⟩⟩
      · refine (stp_call [0, 1, 2] (args := [.ptr 0 b 0, T x, vB c.data.a c.data.cap c.data.xs]) rfl rfl rfl ⟨_, Try.func12, rfl, rfl⟩ (kApp x c.data.a c.data.cap c.data.xs g.iv (by omega) (by omega)) rfl (fun _ h => h) rfl (fun _ _ h => h) ?_).safe trivial
        rintro v hp ⟨rfl, d', e, rfl⟩
        obtain ⟨s1, s2⟩ := g.st.step hn.1 (res_app _ x c.data.xs)
        refine ⟨trivial, go_ok _ 2 _ _ ?_⟩
        simp only [go_sem, List.cons_append, List.nil_append, Nat.reduceBEq]
        refine Safe.sub ?_ (hrest ⟨_, true, d', by rw [e]; exact g.iv.app (by omega), by rw [e]; exact s1, by rw [e]; exact (room_app _ _ _).trans g.rm, by simp only [if_true]; push_cast; exact s2⟩)
        exact Sub.front (X := [_, _]) ⟨rfl, rfl, rfl, rfl, rfl, rfl, rfl, trivial⟩ rfl
      · refine (stp_call [0, 1, 2] (args := [.ptr 0 b 0, T x]) rfl rfl rfl ⟨_, Try.func19, rfl, rfl⟩ (kSync x g.iv (by omega)) rfl (fun _ h => h) rfl (fun _ _ h => h) ?_).safe trivial
        rintro v hp ⟨rfl, d', e, rfl⟩
        obtain ⟨s1, s2⟩ := g.st.step hn.1 (res_one _ x (synF · x))
        refine ⟨trivial, go_ok _ 2 _ _ ?_⟩
        simp only [go_sem, List.cons_append, List.nil_append, Nat.reduceBEq]
        refine Safe.sub ?_ (hrest ⟨_, true, d', by rw [e]; exact g.iv.syn, by rw [e]; exact s1, by rw [e]; exact (room_one _ _ _).trans g.rm, by simp only [if_true]; push_cast; exact s2⟩)
        exact Sub.front (X := [_, _]) ⟨rfl, rfl, rfl, rfl, rfl, rfl, rfl, trivial⟩ rfl
      · refine (stp_call [0, 1, 2] (args := [.ptr 0 b 0, T x, T [122]]) rfl rfl rfl ⟨_, Try.func21, rfl, rfl⟩ (kRen x [122] g.iv (by omega)) rfl (fun _ h => h) rfl (fun _ _ h => h) ?_).safe trivial
        rintro v hp ⟨rfl, d', e, rfl⟩
        obtain ⟨s1, s2⟩ := g.st.step hn.1 (res_ren _ x [122])
        refine ⟨trivial, go_ok _ 2 _ _ ?_⟩
        simp only [go_sem, List.cons_append, List.nil_append, Nat.reduceBEq]
        refine Safe.sub ?_ (hrest ⟨_, true, d', by rw [e]; exact g.iv.ren, by rw [e]; exact s1, by rw [e]; exact (room_ren _ _ _).trans g.rm, by simp only [if_true]; push_cast; exact s2⟩)
        exact Sub.front (X := [_, _]) ⟨rfl, rfl, rfl, rfl, rfl, rfl, rfl, trivial⟩ rfl
      · refine (stp_call [0, 1, 2] (args := [.ptr 0 b 0, T x]) rfl rfl rfl ⟨_, Try.func18, rfl, rfl⟩ (kRem x g.iv (by omega)) rfl (fun _ h => h) rfl (fun _ _ h => h) ?_).safe trivial
        rintro v hp ⟨rfl, d', e, rfl⟩
        obtain ⟨s1, s2⟩ := g.st.step hn.1 (res_one _ x (delF · x))
        refine ⟨trivial, go_ok _ 2 _ _ ?_⟩
        simp only [go_sem, List.cons_append, List.nil_append, Nat.reduceBEq]
        refine Safe.sub ?_ (hrest ⟨_, true, d', by rw [e]; exact g.iv.rem, by rw [e]; exact s1, by rw [e]; exact (room_one _ _ _).trans g.rm, by simp only [if_true]; push_cast; exact s2⟩)
        exact Sub.front (X := [_, _]) ⟨rfl, rfl, rfl, rfl, rfl, rfl, rfl, trivial⟩ rfl
      · refine (stp_call [0, 1, 2] (args := [.ptr 0 b 0, T x]) rfl rfl rfl ⟨_, Try.func13, rfl, rfl⟩ (kRead 5 x g.iv (by omega)) rfl (fun _ h => h) rfl (fun _ _ h => h) ?_).safe trivial
        rintro v hp ⟨nl, b6, off, cap6, rfl, rfl⟩
        refine ⟨trivial, go_ok _ 8 _ _ ?_⟩
        simp only [go_sem, List.cons_append, List.nil_append, Nat.reduceBEq]
        refine Safe.sub ?_ (hrest ⟨(readF g.d.ps.fs g.d.ps.dead x).2, false, g.d, g.iv.mono (by omega), g.st, g.rm, by rw [read13, g.st.dd]; rfl⟩)
        exact Sub.front (X := [_, _, _]) ⟨rfl, rfl, rfl, rfl, rfl, rfl, rfl, trivial⟩ rfl
      · refine (stp_call [0, 1, 2] (args := [.ptr 0 b 0]) rfl rfl rfl ⟨_, Try.func14, rfl, rfl⟩ (kList 5 g.iv (by omega)) rfl (fun _ h => h) rfl (fun _ _ h => h) ?_).safe trivial
        rintro v hp ⟨nl, b6, off, cap6, rfl, rfl⟩
        refine ⟨trivial, go_ok _ 8 _ _ ?_⟩
        simp only [go_sem, List.cons_append, List.nil_append, Nat.reduceBEq]
        refine Safe.sub ?_ (hrest ⟨(listF g.d.ps).2, false, g.d, g.iv.mono (by omega), g.st, g.rm, by rw [list13, g.st.dd]; rfl⟩)
        exact Sub.front (X := [_, _, _]) ⟨rfl, rfl, rfl, rfl, rfl, rfl, rfl, trivial⟩ rfl
  · refine (stp_call [0, 1, 2] (args := [.ptr 0 b 0, vI none 0 []]) rfl rfl rfl ⟨_, Try.func22, rfl, rfl⟩ (kCrash none 0 [] g.iv (by omega)) rfl (fun ro _ => by simp only [SV.oks, SV.ok]; exact ⟨trivial, ⟨Nat.le_refl _, fun i j hi => absurd hi (by simp)⟩, trivial⟩) rfl (fun ro H h => h) ?_).safe trivial
    rintro v hp ⟨rfl, d2, e2, rfl⟩
    have i2 : PInv d2.ps g.i := by rw [e2]; exact g.iv.crash
    have dd2 : d2.ps.dead = false := by rw [e2]; rfl
    have lf2 : d2.ps.left = 0 := by rw [e2]; rfl
    refine ⟨trivial, go_ok _ 100 _ _ ?_⟩
    simp only [go_sem, List.cons_append, List.nil_append, Nat.reduceBEq]
    refine (stp_call [0, 1, 2] (args := [.ptr 0 b 0]) rfl rfl rfl ⟨_, Try.func14, rfl, rfl⟩ (kList 3 i2 (by omega)) rfl (fun _ h => h) rfl (fun _ _ h => h) ?_).safe trivial
    rintro v hp ⟨nl, b6, off, cap6, rfl, rfl⟩
    have hl : (listF d2.ps).2 = 0 := by unfold listF; rw [dd2]; rfl
    rw [hl]
    have q0 : decide ((0 : Int) = 0) = true := by decide
    refine ⟨trivial, go_ok _ 100 _ _ ?_⟩
    simp only [go_sem, reduceCtorEq, List.cons_append, List.nil_append, Nat.reduceBEq, Try.results9]
    refine ⟨?_, rfl⟩
    refine Stp.safeOn ?_ trivial
    refine stp_call [0, 1, 2] (args := [.ptr 0 b 0, T [113], vB none 0 []]) rfl rfl rfl ⟨_, Try.func12, rfl, rfl⟩ (kApp [113] none 0 [] i2 (by omega) (by decide)) rfl (fun ro _ => by simp only [SV.oks, SV.ok]; exact ⟨trivial, trivial, ⟨Nat.le_refl _, fun i j hi => absurd hi (by simp)⟩, trivial⟩) rfl (fun _ _ h => h) ?_
    rintro v hp ⟨rfl, d3, e3, rfl⟩
    rw [app_quiet lf2 dd2 (by decide) (by have := i2.us; simp; omega)]
    refine ⟨trivial, go_ok _ 100 _ _ ?_⟩
    simp only [go_sem, reduceCtorEq, List.cons_append, List.nil_append, Nat.reduceBEq, Try.results9]
end Go.SX
