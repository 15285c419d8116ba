/- The law of the names: its walk. -/
import Derived.Test.YthpnhfnilogflaaSxK20
namespace Go.SX
open Go.Proofs
set_option maxRecDepth 1000000
variable {E : Env}

def encH (b : Bool) : List SV := [Bl b]
theorem rowH_set {hs : List Bool} {a : Nat} {z : Bool} (hl : hs.length = 6) (ha : a < 6) : ∀ k j, k < 6 → j < 1 → updF (rowsV encH hs) a 0 [Bl z] k j = rowsV encH (hs.set a z) k j := by
  intro k j hk hj
  obtain rfl : j = 0 := by omega
  have e1 : (Nat.ble 0 0 && Nat.blt 0 1) = true := rfl
  have e3 : rowsV encH (hs.set a z) k 0 = Bl (if a = k then z else hs.getD k false) := by rw [← getD_set hl ha]; rfl
  rw [e3]
  by_cases h : k = a
  · subst h
    simp [updF, e1]
  · have e2 : (k == a) = false := by simpa using h
    simp [updF, e2, Ne.symm h, rowsV, encH]
@[simp, go_sem] theorem rowsH (hs : List Bool) (i : Nat) : rowsV encH hs i 0 = Bl (hs.getD i false) := rfl
theorem safe_code_mid {S : Setup} {k : List Frag} {st : St} {c : SCode} {ι : Type} (mid : ι → St) (hrest : ∀ x, Safe S k (mid x)) (h : (∀ x, Safe S k (mid x)) → Safe S (.code c :: k) st) : Safe S (.code c :: k) st := h hrest
/-- what stands at a round's begin -/
structure N7 where
  i : Nat
  d : DS
  hs : List Bool
  hi : i ≤ 40
  iv : PInv d.ps i
  rm : d.ps.room = 65536
  lf : d.ps.left = 0
  dd : d.ps.dead = false
  sm : sumF d.ps.fs ≤ i
  hl : hs.length = 6
  hh : Has d.ps.fs hs

theorem tdiv_fits {x n : Int} (hx : inI64 x) (hn : 2 ≤ n) : inI64 (x.tdiv n) := by
  simp only [inI64] at hx ⊢
  rcases Int.le_total 0 x with h | h
  · have h1 := Int.tdiv_nonneg h (show (0 : Int) ≤ n by omega)
    have h2 : x.tdiv n ≤ x := by rw [Int.tdiv_eq_ediv_of_nonneg h]; exact Int.ediv_le_self n h
    omega
  · have h' : 0 ≤ -x := by omega
    have e : x.tdiv n = -((-x).tdiv n) := by rw [Int.neg_tdiv]; omega
    have h1 := Int.tdiv_nonneg h' (show (0 : Int) ≤ n by omega)
    have h2 : (-x).tdiv n ≤ -x := by rw [Int.tdiv_eq_ediv_of_nonneg h']; exact Int.ediv_le_self n h'
    have h3 : (-x).tdiv n ≤ (-x) / 2 := by
      rw [Int.tdiv_eq_ediv_of_nonneg h']
      exact Int.le_ediv_of_mul_le (by decide) (by have := Int.ediv_mul_le (-x) (show n ≠ 0 by omega); have h0 := Int.ediv_nonneg h' (show (0:Int) ≤ n by omega); have := Int.mul_le_mul_of_nonneg_left hn h0; omega)
    omega
theorem u8_nm : ∀ a : Nat, a < 6 → IntKind.u8.wrap (97 + (a : Int)) = ((UInt8.ofNat (97 + a)).toNat : Nat) := by decide
theorem getI_mem {xs : List Int} {i : Nat} (h : i < xs.length) : xs.getD i 0 ∈ xs := by
  rw [List.getD_eq_getElem?_getD, List.getElem?_eq_getElem h]
  exact List.getElem_mem h

theorem c7 (a1 a2 : Option Addr) (c1 c2 : Nat) (names picks : List Int) (hn : ∀ x ∈ names, inI64 x) : Spec Try.prog E 7 [vI a1 c1 names, vI a2 c2 picks] [] (fun v _ => v = Bl true) := by
  refine spec_of (keep := k7) (args' := [vI a1 c1 names, vI a2 c2 picks]) Try.func7 rfl Try.ntmps7 s7_ok (by simp) ⟨rfl, fun _ h => h⟩ (fun _ _ h => h) (go_ok _ 100 _ _ ?_)
  simp only [go_sem, s7, k7, Nat.reduceBEq, Nat.zero_add]
  refine (stp_call [] rfl rfl rfl ⟨_, Try.func10, rfl, rfl⟩ (c10.leave (Post' := fun v hp => v = Bl true ∧ hp = []) fun _ hp h => ⟨[], hp, rfl, h.1, rfl⟩) rfl (fun _ h => h) rfl (fun _ _ h => h) ?_).safe trivial
  rintro v hp ⟨rfl, rfl⟩
  refine ⟨trivial, go_ok _ 100 _ _ ?_⟩
  simp only [go_sem, Nat.reduceBEq, Try.results7]
  intro hsm
  refine (stp_call [] rfl rfl rfl ⟨_, Try.func11, rfl, rfl⟩ (c11 65536 0) rfl (fun _ h => h) rfl (fun _ _ h => h) ?_).safe trivial
  rintro v hp (⟨h, _, _⟩ | ⟨_, b, M, rfl, rfl⟩)
  · exact absurd h (by decide)
  refine ⟨trivial, go_ok _ 100 _ _ ?_⟩
  simp only [go_sem, Nat.reduceBEq, Nat.reduceAdd, Nat.zero_add]
  intro b7
  refine safe_sees (hp' := dO b ⟨65536, 0, 0, false, M, []⟩ ++ [.row false b7 48 0 1 6 6 (rowsV encH [false, false, false, false, false, false])]) (Sees.app (Sees.refl (dO b ⟨65536, 0, 0, false, M, []⟩)) (Sees.cons (fun ro H h => ⟨H, [], by simp, cells_row (n := 6) rfl (fun i hi => ?_) ro H h⟩) (Sees.refl []))) ?_
  · have : i = 0 ∨ i = 1 ∨ i = 2 ∨ i = 3 ∨ i = 4 ∨ i = 5 := by omega
    rcases this with rfl | rfl | rfl | rfl | rfl | rfl <;> rfl
  refine safe_loop (ι := N7) (fun g => ⟨[(0, vI a1 c1 names), (1, vI a2 c2 picks), (5, .ptr 0 b 0), (7, .ptr 3 b7 0), (8, I g.i)], dO b g.d ++ [.row false b7 48 0 1 6 6 (rowsV encH g.hs)]⟩) (fun g => 40 - g.i)
    ⟨0, ⟨65536, 0, 0, false, M, []⟩, [false, false, false, false, false, false], by decide, PInv.new (r := 65536) (by decide) (by decide) 0, rfl, rfl, rfl, Nat.zero_le _, rfl, ?_⟩ (Sub.front (X := []) ⟨rfl, rfl, rfl, rfl, rfl, trivial⟩ rfl) ?_
  · intro x
    simp only [DS.ps, List.map_nil, getF, ne_eq, not_true_eq_false, false_iff]
    rintro ⟨j, hj, _, h⟩
    have : ∀ j, j < 6 → [false, false, false, false, false, false].getD j false = false := by decide
    rw [this j hj] at h
    cases h
  intro g
  refine go_ok _ 100 _ _ ?_
  simp only [go_sem, List.cons_append, List.nil_append, Nat.reduceBEq, Try.results7, Int.toNat_natCast]
  intro hlt
  have hlt : g.i < names.length ∧ g.i < 40 := by simp at hlt; omega
  have hx := hn _ (getI_mem hlt.1)
  refine ⟨by omega, by decide, by omega, by decide, ⟨by decide, tdiv_fits hx (by decide)⟩, ?_⟩
  have hg := g.hi
  generalize hxx : names.getD g.i 0 = x at hx ⊢
  refine (stp_call [] rfl rfl rfl ⟨_, Try.func15, rfl, rfl⟩ (c15 x 6 (by decide) (by decide)) rfl (fun _ h => h) rfl (fun _ _ h => h) ?_).safe trivial
  rintro v hp ⟨rfl, rfl⟩
  refine ⟨?_, ?_⟩
  · simp only [recheck, recheck1, go_sem, Nat.reduceBEq, hxx, Int.toNat_natCast]
    exact ⟨by omega, by decide, by decide, tdiv_fits hx (by decide)⟩
  refine go_ok _ 100 _ _ ?_
  simp only [go_sem, List.cons_append, List.nil_append]
  refine (stp_call [] rfl rfl rfl ⟨_, Try.func15, rfl, rfl⟩ (c15 (x.tdiv 6) 6 (by decide) (by decide)) rfl (fun _ h => h) rfl (fun _ _ h => h) ?_).safe trivial
  rintro v hp ⟨rfl, rfl⟩
  obtain ⟨a, ha, hae⟩ : ∃ a : Nat, a < 6 ∧ x % 6 = a := ⟨(x % 6).toNat, by omega, by omega⟩
  obtain ⟨a', ha', hae'⟩ : ∃ a : Nat, a < 6 ∧ x.tdiv 6 % 6 = a := ⟨(x.tdiv 6 % 6).toNat, by omega, by omega⟩
  rw [hae, hae']
  refine ⟨trivial, go_ok _ 100 _ _ ?_⟩
  simp only [go_sem, List.cons_append, List.nil_append, Nat.reduceBEq]
  refine safe_alts_mid (ι := Unit) (fun _ => ⟨[(0, vI a1 c1 names), (1, vI a2 c2 picks), (5, .ptr 0 b 0), (7, .ptr 3 b7 0), (8, I g.i), (9, I a), (10, I a'), (11, T (nmJ a)), (12, T (nmJ a'))], dO b g.d ++ [.row false b7 48 0 1 6 6 (rowsV encH g.hs), .emp, .emp]⟩) ?_ ?_
  · intro _
    refine go_ok _ 100 _ _ ?_
    simp only [go_sem, List.cons_append, List.nil_append, Nat.reduceBEq, Int.toNat_natCast]
    rw [hxx]
    refine ⟨by omega, by decide, ⟨by decide, tdiv_fits hx (by decide)⟩, ?_⟩
    refine (stp_call [] rfl rfl rfl ⟨_, Try.func15, rfl, rfl⟩ (c15 (x.tdiv 36) 3 (by decide) (by decide)) rfl (fun _ h => h) rfl (fun _ _ h => h) ?_).safe trivial
    rintro v hp ⟨rfl, rfl⟩
    have hr : 0 ≤ x.tdiv 36 % 3 ∧ x.tdiv 36 % 3 < 3 := by omega
    generalize x.tdiv 36 % 3 = r at hr ⊢
    refine ⟨trivial, go_ok _ 2 _ _ ?_⟩
    simp only [go_sem, List.cons_append, List.nil_append, Nat.reduceBEq]
    refine safe_code_mid (ι := {q : N7 // q.i = g.i + 1}) (fun q => ⟨[(0, vI a1 c1 names), (1, vI a2 c2 picks), (5, .ptr 0 b 0), (7, .ptr 3 b7 0), (8, I g.i)], dO b q.1.d ++ [.row false b7 48 0 1 6 6 (rowsV encH q.1.hs), .emp, .emp]⟩) ?_ ?_
    · rintro ⟨q, hq⟩
      refine go_ok _ 8 _ _ ?_
      simp only [go_sem, List.cons_append, List.nil_append, Nat.reduceBEq]
      refine ⟨by decide, ?_⟩
      refine safe_code_mid (ι := {q : N7 // q.i = g.i + 1}) (fun q => ⟨[(0, vI a1 c1 names), (1, vI a2 c2 picks), (5, .ptr 0 b 0), (7, .ptr 3 b7 0), (8, I g.i)], dO b q.1.d ++ [.row false b7 48 0 1 6 6 (rowsV encH q.1.hs), .emp, .emp]⟩) ?_ ?_
      · clear hq q
        rintro ⟨q, hq⟩
        have hls : listF q.d.ps = (nmH q.hs, 0) := by
          unfold listF
          rw [q.dd, if_neg (by decide), q.hh.names q.iv.nd]
        refine go_ok _ 100 _ _ ?_
        simp only [go_sem, List.cons_append, List.nil_append, Nat.reduceBEq]
        refine (stp_call [0, 1, 2] (args := [.ptr 0 b 0]) rfl rfl rfl ⟨_, Try.func14, rfl, rfl⟩ (kList 6 q.iv (by omega)) rfl (fun _ h => h) rfl (fun ro H h => h) ?_).safe trivial
        rintro v hp ⟨nl, bl, off, cap, rfl, rfl⟩
        rw [hls]
        refine ⟨trivial, go_ok _ 100 _ _ ?_⟩
        simp only [go_sem, List.cons_append, List.nil_append, Nat.reduceBEq]
        refine safe_loop (ι := {j : Nat // j ≤ 6}) (fun j => ⟨[(0, vI a1 c1 names), (1, vI a2 c2 picks), (5, .ptr 0 b 0), (7, .ptr 3 b7 0), (8, I g.i), (13, .osl 6 nl bl off (nmH q.hs).length cap), (14, I 0), (15, I (cntH q.hs j.1)), (16, I j.1)], dO b q.d ++ [.row false b7 48 0 1 6 6 (rowsV encH q.hs), .emp, .emp, .row nl bl 9 off 1 (nmH q.hs).length cap (rowsV encT (nmH q.hs))]⟩) (fun j => 6 - j.1)
          ⟨0, by decide⟩ (Sub.front (X := []) ⟨rfl, rfl, rfl, rfl, rfl, rfl, rfl, rfl, rfl, trivial⟩ rfl) ?_
        rintro ⟨j, hj⟩
        refine go_ok _ 100 _ _ ?_
        simp only [go_sem, List.cons_append, List.nil_append, Nat.reduceBEq, Try.results7]
        refine ⟨fun hj2 => ?_, fun hj2 => ?_⟩
        · have hj2 : j < 6 := by simp at hj2; omega
          refine safe_oth (oth_arrIdx (xo := .t 7) (io := .t 118) (c := 3) (b := b7) (n := 6) (sz := 1) (iv := j) rfl rfl Try.underlying48 (by kernel_rfl) rfl rfl (by omega) (by omega)) trivial ?_
          cases hc : q.hs.getD j false with
          | false =>
            refine go_ok _ 100 _ _ ?_
            simp only [go_sem, hc, List.cons_append, List.nil_append, Nat.reduceBEq, Try.results7, Int.toNat_natCast]
            refine ⟨⟨hj2, by decide⟩, by simp only [inI64]; omega, ?_⟩
            exact safe_lend ⟨j + 1, hj2⟩ (by simp only; omega) (Sub.front (X := []) ⟨rfl, rfl, rfl, rfl, rfl, rfl, rfl, by rw [cnt_succ, hc]; rfl, rfl, trivial⟩ rfl)
          | true =>
            obtain ⟨n1, n2⟩ := nmH_at hj2 hc
            have q1 : decide (((nmH q.hs).length : Int) ≤ (cntH q.hs j : Nat)) = false := by simp; omega
            refine go_ok _ 100 _ _ ?_
            simp only [go_sem, hc, q1, n2, u8_nm j hj2, reduceCtorEq, List.cons_append, List.nil_append, Nat.reduceBEq, Try.results7, Int.toNat_natCast]
            refine ⟨⟨hj2, by decide⟩, by omega, by omega, by simp only [inI64]; omega, ?_, rfl⟩
            refine safe_bslstrOn (z := UInt8.ofNat (97 + j)) rfl (by kernel_rfl) (by kernel_rfl) (by kernel_rfl) (show 134 < 147 by decide) (fun _ => rfl) (fun _ => ?_) (fun _ => trivial) fun b9 => ?_
            · simp only [recheck, recheck1, go_sem, n2, Nat.reduceBEq, Nat.reduceAdd, Int.toNat_natCast]
              exact ⟨by omega, n1, by decide⟩
            have q2 : decide ((⟨(nmJ j).toArray⟩ : ByteArray) ≠ ⟨[UInt8.ofNat (97 + j)].toArray⟩) = false := by simp [nmJ]
            refine go_ok _ 100 _ _ ?_
            simp only [go_sem, q2, List.cons_append, List.nil_append, Nat.reduceBEq, Try.results7]
            have hcl := cnt_le q.hs j
            refine ⟨by simp only [inI64]; omega, by simp only [inI64]; omega, ?_⟩
            exact safe_lend ⟨j + 1, hj2⟩ (by simp only; omega) (Sub.front (X := [.emp]) ⟨rfl, rfl, rfl, rfl, rfl, rfl, rfl, by rw [cnt_succ, hc]; rfl, rfl, trivial⟩ rfl)
        · have hj6 : j = 6 := by simp at hj2; omega
          subst hj6
          have q0 : decide ((0 : Int) ≠ 0) = false := by decide
          have q1 : decide (((nmH q.hs).length : Int) ≠ (cntH q.hs 6 : Nat)) = false := by rw [nmH_len]; simp
          simp only [q0, q1]
          refine ⟨fun _ => rfl, fun h => absurd h (by decide), fun _ => ⟨by simp only [inI64]; omega, ?_⟩⟩
          exact safe_lend q (by show 40 - q.i < 40 - g.i; omega) (Sub.front (X := [.emp, .emp, .row nl bl 9 off 1 (nmH q.hs).length cap (rowsV encT (nmH q.hs))]) ⟨rfl, rfl, rfl, rfl, by rw [hq]; rfl, trivial⟩ rfl)
      · intro hrest
        have hqi := q.hi
        have fin := fun (q : {q : N7 // q.i = g.i + 1}) (y : SV) => Safe.sub (st := ⟨[(105, y), (0, vI a1 c1 names), (1, vI a2 c2 picks), (5, .ptr 0 b 0), (7, .ptr 3 b7 0), (8, I g.i)], dO b q.1.d ++ [.row false b7 48 0 1 6 6 (rowsV encH q.1.hs), .emp, .emp]⟩) (Sub.front (st' := ⟨[(0, vI a1 c1 names), (1, vI a2 c2 picks), (5, .ptr 0 b 0), (7, .ptr 3 b7 0), (8, I g.i)], dO b q.1.d ++ [.row false b7 48 0 1 6 6 (rowsV encH q.1.hs), .emp, .emp]⟩) (X := []) ⟨rfl, rfl, rfl, rfl, rfl, trivial⟩ rfl) (hrest q)
        cases hc : decide ((g.i : Int).tmod 7 = 6) with
        | false =>
          refine go_ok _ 2 _ _ ?_
          simp only [go_sem, Nat.reduceBEq]
          exact fin ⟨q, hq⟩ _
        | true =>
          refine go_ok _ 100 _ _ ?_
          simp only [go_sem, reduceCtorEq, Nat.reduceBEq]
          refine (stp_call [0, 1, 2] (args := [.ptr 0 b 0, vI a2 c2 picks]) rfl rfl rfl ⟨_, Try.func22, rfl, rfl⟩ (kCrash a2 c2 picks q.iv (by omega)) rfl (fun _ h => h) rfl (fun ro H h => h) ?_).safe trivial
          rintro v hp ⟨rfl, d', e, rfl⟩
          refine ⟨trivial, go_ok _ 1 _ _ ?_⟩
          simp only [go_sem, List.cons_append, List.nil_append, Nat.reduceBEq]
          have := q.sm
          have := sum_crash q.d.ps picks
          refine Safe.sub ?_ (hrest ⟨⟨q.i, d', q.hs, hqi, by rw [e]; exact q.iv.crash, by rw [e]; exact q.rm, by rw [e]; rfl, by rw [e]; rfl, by rw [e]; show sumF (q.d.ps.crash picks).2.fs ≤ _; omega, q.hl, by rw [e]; exact q.hh.crash picks⟩, hq⟩)
          exact Sub.front (X := []) ⟨rfl, rfl, rfl, rfl, rfl, trivial⟩ rfl
    · intro hrest
      have fin := fun (q : {q : N7 // q.i = g.i + 1}) (X : List Chunk) (E2 : List (Nat × SV)) => Safe.sub (st := ⟨[(0, vI a1 c1 names), (1, vI a2 c2 picks), (5, .ptr 0 b 0), (7, .ptr 3 b7 0), (8, I g.i)] ++ E2, dO b q.1.d ++ [.row false b7 48 0 1 6 6 (rowsV encH q.1.hs), .emp, .emp] ++ X⟩) (Sub.front (st' := ⟨[(0, vI a1 c1 names), (1, vI a2 c2 picks), (5, .ptr 0 b 0), (7, .ptr 3 b7 0), (8, I g.i)], dO b q.1.d ++ [.row false b7 48 0 1 6 6 (rowsV encH q.1.hs), .emp, .emp]⟩) (X := X) ⟨rfl, rfl, rfl, rfl, rfl, trivial⟩ rfl) (hrest q)
      have hsum := g.sm
      have hlft := g.lf
      have hdd := g.dd
      have hrm := g.rm
      refine go_ok _ 100 _ _ ?_
      simp only [go_sem, List.cons_append, List.nil_append, Nat.reduceBEq, Nat.reduceAdd, Nat.zero_add]
      refine ⟨fun h => ?_, fun h0 => ⟨fun h => ?_, fun h1 => ⟨fun h => ?_, fun h2 => ?_⟩⟩⟩
      · intro b9
        have ei : IntKind.u8.wrap (g.i : Int) = ((UInt8.ofNat g.i).toNat : Nat) := by
          simp only [IntKind.wrap_u8', UInt8.toNat_ofNat']
          omega
        rw [ei]
        refine safe_frzA (c := 6) (rowsV encB [UInt8.ofNat g.i]) rfl (fun i j hi hj => ?_) (by simp [frzOk, frzOk1]) ?_
        · obtain rfl : j = 0 := by omega
          obtain rfl : i = 0 := by omega
          rfl
        simp only [go_sem]
        refine (stp_call [0, 1, 2] (args := [.ptr 0 b 0, T (nmJ a), vB (some ⟨b9, 0, none⟩) 1 [UInt8.ofNat g.i]]) rfl rfl rfl ⟨_, Try.func12, rfl, rfl⟩ (kApp (nmJ a) (some ⟨b9, 0, none⟩) 1 [UInt8.ofNat g.i] g.iv (by omega) (by simp)) rfl (fun _ h => h) rfl (fun _ _ h => h) ?_).safe trivial
        rintro v hp ⟨rfl, d', e, rfl⟩
        have iv' : PInv d'.ps (g.i + 1) := by rw [e]; exact g.iv.app (by simp)
        rw [app_quiet hlft hdd (nmJ_ok a ha) (by rw [hrm]; simp; omega)] at e
        refine ⟨trivial, go_ok _ 100 _ _ ?_⟩
        simp only [go_sem, List.cons_append, List.nil_append, Nat.reduceBEq]
        refine safe_oth (oth_arrIdx (xo := .t 7) (io := .t 71) (c := 3) (b := b7) (n := 6) (sz := 1) (iv := a) rfl rfl Try.underlying48 (by kernel_rfl) rfl rfl (by omega) (by omega)) trivial ?_
        refine go_ok _ 3 _ _ ?_
        simp only [go_sem, Nat.reduceBEq, Nat.zero_add, Int.toNat_natCast]
        refine ⟨⟨ha, by decide⟩, ?_⟩
        refine safe_sees (hp' := dO b d' ++ [.row false b7 48 0 1 6 6 (rowsV encH (g.hs.set a true)), .emp, .emp, .emp]) (Sees.app (Sees.refl (dO b d')) (Sees.cons (fun ro H h => ⟨H, [], by simp, row_congr (rowH_set g.hl ha) h⟩) (Sees.refl _))) ?_
        exact fin ⟨⟨g.i + 1, d', g.hs.set a true, by omega, iv', by rw [e]; exact hrm, by rw [e]; exact hlft, by rw [e]; exact hdd, by rw [e]; show sumF (addF g.d.ps.fs _ _) ≤ _; rw [sum_add]; simp; omega, by simp [g.hl], by rw [e]; exact g.hh.add g.hl ha _⟩, rfl⟩ [.emp] [(9, I a), (10, I a'), (11, T (nmJ a)), (12, T (nmJ a')), (62, I r)]
      · refine safe_oth (oth_arrIdx (xo := .t 7) (io := .t 79) (c := 3) (b := b7) (n := 6) (sz := 1) (iv := a) rfl rfl Try.underlying48 (by kernel_rfl) rfl rfl (by omega) (by omega)) trivial ?_
        refine go_ok _ 1 _ _ ?_
        simp only [go_sem, Nat.reduceBEq, Int.toNat_natCast]
        refine ⟨⟨ha, by decide⟩, ?_⟩
        refine (stp_call [0, 1, 2] (args := [.ptr 0 b 0, T (nmJ a)]) rfl rfl rfl ⟨_, Try.func18, rfl, rfl⟩ (kRem (nmJ a) g.iv (by omega)) rfl (fun _ h => h) rfl (fun _ _ h => h) ?_).safe trivial
        rintro v hp ⟨rfl, d', e, rfl⟩
        have iv' : PInv d'.ps (g.i + 1) := by rw [e]; exact g.iv.rem
        rw [one_quiet hlft hdd (nmJ_ok a ha)] at e ⊢
        refine ⟨⟨?_, recheck_oth (oth_arrIdx (xo := .t 7) (io := .t 79) (c := 3) (b := b7) (n := 6) (sz := 1) (iv := a) rfl rfl Try.underlying48 (by kernel_rfl) rfl rfl (by omega) (by omega)) rfl, ?_, trivial⟩, ?_⟩
        · simp only [recheck1, go_sem, Nat.reduceBEq]
        · simp only [recheck1, go_sem, List.cons_append, List.nil_append, Nat.reduceBEq]
          exact ⟨ha, by decide⟩
        refine go_ok _ 2 _ _ ?_
        simp only [go_sem, List.cons_append, List.nil_append, Nat.reduceBEq]
        have hat := g.hh.at ha
        have hq : (decide ((if getF g.d.ps.fs (nmJ a) = none then ((2 : Int), g.d.ps.did) else (0, { g.d.ps.did with fs := delF g.d.ps.fs (nmJ a) })).1 = 0) == g.hs.getD a false) = true := by
          by_cases hf : getF g.d.ps.fs (nmJ a) = none
          · have : g.hs.getD a false = false := by
              cases hc : g.hs.getD a false with
              | false => rfl
              | true => exact absurd hf (hat.2 hc)
            rw [if_pos hf, this]; rfl
          · rw [if_neg hf, hat.1 hf]; rfl
        refine go_ok _ 100 _ _ ?_
        simp only [go_sem, hq, Bool.not_true, List.cons_append, List.nil_append, Nat.reduceBEq, Try.results7]
        refine safe_oth (oth_arrIdx (xo := .t 7) (io := .t 83) (c := 3) (b := b7) (n := 6) (sz := 1) (iv := a) rfl rfl Try.underlying48 (by kernel_rfl) rfl rfl (by omega) (by omega)) trivial ?_
        refine go_ok _ 3 _ _ ?_
        simp only [go_sem, Nat.reduceBEq, Nat.zero_add, Int.toNat_natCast]
        refine ⟨⟨ha, by decide⟩, ?_⟩
        refine safe_sees (hp' := dO b d' ++ [.row false b7 48 0 1 6 6 (rowsV encH (g.hs.set a false)), .emp, .emp]) (Sees.app (Sees.refl (dO b d')) (Sees.cons (fun ro H h => ⟨H, [], by simp, row_congr (rowH_set g.hl ha) h⟩) (Sees.refl _))) ?_
        have hn0 := g.iv.nd
        by_cases hf : getF g.d.ps.fs (nmJ a) = none
        · rw [if_pos hf] at e
          exact fin ⟨⟨g.i + 1, d', g.hs.set a false, by omega, iv', by rw [e]; exact hrm, by rw [e]; exact hlft, by rw [e]; exact hdd, by rw [e]; show sumF g.d.ps.fs ≤ _; omega, by simp [g.hl], by rw [e]; exact g.hh.rem0 g.hl ha hf⟩, rfl⟩ [] [(9, I a), (10, I a'), (11, T (nmJ a)), (12, T (nmJ a')), (62, I r)]
        · rw [if_neg hf] at e
          exact fin ⟨⟨g.i + 1, d', g.hs.set a false, by omega, iv', by rw [e]; exact hrm, by rw [e]; exact hlft, by rw [e]; exact hdd, by rw [e]; show sumF (delF g.d.ps.fs _) ≤ _; have := sum_sub (del_sub g.d.ps.fs (nmJ a)); omega, by simp [g.hl], by rw [e]; exact g.hh.rem hn0 g.hl ha⟩, rfl⟩ [] [(9, I a), (10, I a'), (11, T (nmJ a)), (12, T (nmJ a')), (62, I r)]
      · refine safe_oth (oth_arrIdx (xo := .t 7) (io := .t 92) (c := 3) (b := b7) (n := 6) (sz := 1) (iv := a) rfl rfl Try.underlying48 (by kernel_rfl) rfl rfl (by omega) (by omega)) trivial ?_
        refine go_ok _ 1 _ _ ?_
        simp only [go_sem, Nat.reduceBEq, Int.toNat_natCast]
        refine ⟨⟨ha, by decide⟩, ?_⟩
        refine (stp_call [0, 1, 2] (args := [.ptr 0 b 0, T (nmJ a), T (nmJ a')]) rfl rfl rfl ⟨_, Try.func21, rfl, rfl⟩ (kRen (nmJ a) (nmJ a') g.iv (by omega)) rfl (fun _ h => h) rfl (fun _ _ h => h) ?_).safe trivial
        rintro v hp ⟨rfl, d', e, rfl⟩
        have iv' : PInv d'.ps (g.i + 1) := by rw [e]; exact g.iv.ren
        rw [ren_quiet hlft hdd (nmJ_ok a ha) (nmJ_ok a' ha')] at e ⊢
        refine ⟨⟨?_, recheck_oth (oth_arrIdx (xo := .t 7) (io := .t 92) (c := 3) (b := b7) (n := 6) (sz := 1) (iv := a) rfl rfl Try.underlying48 (by kernel_rfl) rfl rfl (by omega) (by omega)) rfl, ?_, trivial⟩, ?_⟩
        · simp only [recheck1, go_sem, Nat.reduceBEq]
        · simp only [recheck1, go_sem, List.cons_append, List.nil_append, Nat.reduceBEq]
          exact ⟨ha, by decide⟩
        have hat := g.hh.at ha
        have hn0 := g.iv.nd
        by_cases hf : getF g.d.ps.fs (nmJ a) = none
        · have hc : g.hs.getD a false = false := by
            cases hc : g.hs.getD a false with
            | false => rfl
            | true => exact absurd hf (hat.2 hc)
          rw [if_pos hf] at e ⊢
          have q2 : decide ((2 : Int) = 0) = false := by decide
          refine go_ok _ 100 _ _ ?_
          simp only [go_sem, q2, hc, BEq.rfl, Bool.not_true, List.cons_append, List.nil_append, Nat.reduceBEq, Try.results7]
          refine safe_oth (oth_arrIdx (xo := .t 7) (io := .t 96) (c := 3) (b := b7) (n := 6) (sz := 1) (iv := a) rfl rfl Try.underlying48 (by kernel_rfl) rfl rfl (by omega) (by omega)) trivial ?_
          refine go_ok _ 4 _ _ ?_
          simp only [go_sem, hc, List.cons_append, List.nil_append, Nat.reduceBEq, Int.toNat_natCast]
          refine ⟨⟨ha, by decide⟩, ?_⟩
          refine Safe.sub ?_ (hrest ⟨⟨g.i + 1, d', g.hs, by omega, iv', by rw [e]; exact hrm, by rw [e]; exact hlft, by rw [e]; exact hdd, by rw [e]; show sumF g.d.ps.fs ≤ _; omega, g.hl, by rw [e]; exact g.hh⟩, rfl⟩)
          exact Sub.front (X := []) ⟨rfl, rfl, rfl, rfl, rfl, trivial⟩ rfl
        · have hc : g.hs.getD a false = true := hat.1 hf
          rw [if_neg hf] at e ⊢
          have q2 : decide ((0 : Int) = 0) = true := by decide
          refine go_ok _ 100 _ _ ?_
          simp only [go_sem, hc, BEq.rfl, Bool.not_true, List.cons_append, List.nil_append, Nat.reduceBEq, Try.results7]
          refine safe_oth (oth_arrIdx (xo := .t 7) (io := .t 96) (c := 3) (b := b7) (n := 6) (sz := 1) (iv := a) rfl rfl Try.underlying48 (by kernel_rfl) rfl rfl (by omega) (by omega)) trivial ?_
          refine go_ok _ 100 _ _ ?_
          simp only [go_sem, hc, reduceCtorEq, List.cons_append, List.nil_append, Nat.reduceBEq, Int.toNat_natCast]
          refine ⟨⟨ha, by decide⟩, ?_⟩
          refine safe_oth (oth_arrIdx (xo := .t 7) (io := .t 99) (c := 3) (b := b7) (n := 6) (sz := 1) (iv := a) rfl rfl Try.underlying48 (by kernel_rfl) rfl rfl (by omega) (by omega)) trivial ?_
          refine go_ok _ 100 _ _ ?_
          simp only [go_sem, List.nil_append, Nat.reduceBEq, Nat.zero_add, Int.toNat_natCast]
          refine ⟨⟨ha, by decide⟩, ?_⟩
          refine safe_sees (hp' := dO b d' ++ [.row false b7 48 0 1 6 6 (rowsV encH (g.hs.set a false)), .emp, .emp]) (Sees.app (Sees.refl (dO b d')) (Sees.cons (fun ro H h => ⟨H, [], by simp, row_congr (rowH_set g.hl ha) h⟩) (Sees.refl _))) ?_
          refine safe_oth (oth_arrIdx (xo := .t 7) (io := .t 101) (c := 3) (b := b7) (n := 6) (sz := 1) (iv := a') rfl rfl Try.underlying48 (by kernel_rfl) rfl rfl (by omega) (by omega)) trivial ?_
          refine go_ok _ 3 _ _ ?_
          simp only [go_sem, List.cons_append, List.nil_append, Nat.reduceBEq, Nat.zero_add, Int.toNat_natCast]
          refine ⟨⟨ha', by decide⟩, ?_⟩
          have hl' : (g.hs.set a false).length = 6 := by simp [g.hl]
          refine safe_sees (hp' := dO b d' ++ [.row false b7 48 0 1 6 6 (rowsV encH ((g.hs.set a false).set a' true)), .emp, .emp]) (Sees.app (Sees.refl (dO b d')) (Sees.cons (fun ro H h => ⟨H, [], by simp, row_congr (rowH_set hl' ha') h⟩) (Sees.refl _))) ?_
          exact fin ⟨⟨g.i + 1, d', (g.hs.set a false).set a' true, by omega, iv', by rw [e]; exact hrm, by rw [e]; exact hlft, by rw [e]; exact hdd, by rw [e]; show sumF (renF g.d.ps.fs _ _) ≤ _; have := sum_ren g.d.ps.fs (nmJ a) (nmJ a'); omega, by simp [g.hl], by rw [e]; exact g.hh.ren hn0 g.hl ha ha' hc⟩, rfl⟩ [] [(9, I a), (10, I a'), (11, T (nmJ a)), (12, T (nmJ a')), (62, I r)]
      · simp at h0 h1 h2; omega
  · have ea := u8_nm a ha
    have ea' := u8_nm a' ha'
    intro l hl hrest
    simp only [List.mem_cons, List.not_mem_nil, or_false] at hl
    have e0 : nmJ a = [UInt8.ofNat (97 + a)] := rfl
    have e0' : nmJ a' = [UInt8.ofNat (97 + a')] := rfl
    have i1 : inI64 (97 + (a : Int)) := by simp only [inI64]; omega
    have i2 : inI64 (97 + (a' : Int)) := by simp only [inI64]; omega
    have hstr := fun (st : St) (d : Nat) (z : UInt8) (b : Nat) (hx : opv st.env (.t d) = some (.view (some ⟨b, 0, none⟩) 1 1 1 (rowsV encB [z]))) => oth_str (C := { P := Try.prog, E := E, N := 147 }) (st := st) (x := .tmp d) (src := 22) (dst := 9) (ty := 9) (e := 5) (xs := [z]) (ad := some ⟨b, 0, none⟩) (n := 1) (cap := 1) (f := rowsV encB [z]) (xo := .t d) rfl (by kernel_rfl) (by kernel_rfl) (by kernel_rfl) hx rfl (fun _ h => h) rfl (fun _ _ => rfl)
    rw [e0, e0'] at hrest
    generalize UInt8.ofNat (97 + a) = z at *
    generalize UInt8.ofNat (97 + a') = z' at *
    rcases hl with rfl | rfl | rfl
    · refine go_ok _ 6 _ _ ?_
      simp only [go_sem, ea, ea', Nat.reduceBEq]
      refine ⟨i1, i2, ?_⟩
      refine safe_bslstr (z := z) rfl (by kernel_rfl) (by kernel_rfl) (by kernel_rfl) (fun _ => ?_) (fun _ => trivial) fun b1 => ?_
      · simp only [recheck, recheck1, go_sem, ea', Nat.reduceBEq, Nat.reduceAdd]
        exact i2
      refine safe_bslstr (z := z') rfl (by kernel_rfl) (by kernel_rfl) (by kernel_rfl) (fun _ => ?_) (fun _ => trivial) fun b2 => ?_
      · refine ⟨?_, ?_, ?_, recheck_oth (hstr _ 50 z b1 rfl) rfl, trivial⟩ <;> simp only [recheck1, go_sem, ea, Nat.reduceBEq, Nat.reduceAdd]
        exact i1
      refine safe_rd (s := T [z]) (vc := True) rfl trivial ⟨?_, ?_, ?_, recheck_oth (hstr _ 55 z' b2 rfl) rfl, trivial⟩ ?_
      · simp only [recheck1, go_sem, Nat.reduceBEq]
      · simp only [recheck1, go_sem, Nat.reduceBEq]
        exact i2
      · simp only [recheck1, go_sem, ea', Nat.reduceBEq]
      refine go_ok _ 2 _ _ ?_
      simp only [go_sem, List.cons_append, List.nil_append, Nat.reduceBEq]
      refine Safe.sub ?_ (hrest ())
      exact Sub.front (X := []) ⟨rfl, rfl, rfl, rfl, rfl, rfl, rfl, rfl, rfl, trivial⟩ rfl
    · refine go_ok _ 6 _ _ ?_
      simp only [go_sem, ea, ea', Nat.reduceBEq]
      refine ⟨i1, i2, ?_⟩
      refine safe_bslstr (z := z) rfl (by kernel_rfl) (by kernel_rfl) (by kernel_rfl) (fun _ => ?_) (fun _ => trivial) fun b1 => ?_
      · simp only [recheck, recheck1, go_sem, ea', Nat.reduceBEq, Nat.reduceAdd]
        exact i2
      refine go_ok _ 1 _ _ ?_
      simp only [go_sem, ea', List.cons_append, List.nil_append, Nat.reduceBEq]
      refine ⟨i2, ?_⟩
      refine safe_bslstr (z := z') rfl (by kernel_rfl) (by kernel_rfl) (by kernel_rfl) (fun _ => ?_) (fun _ => trivial) fun b2 => ?_
      · refine ⟨?_, ?_, ?_, recheck_oth (hstr _ 50 z b1 rfl) rfl, trivial⟩ <;> simp only [recheck1, go_sem, ea, Nat.reduceBEq, Nat.reduceAdd]
        exact i1
      refine go_ok _ 2 _ _ ?_
      simp only [go_sem, List.cons_append, List.nil_append, Nat.reduceBEq]
      refine Safe.sub ?_ (hrest ())
      exact Sub.front (X := []) ⟨rfl, rfl, rfl, rfl, rfl, rfl, rfl, rfl, rfl, trivial⟩ rfl
    · refine go_ok _ 6 _ _ ?_
      simp only [go_sem, ea, ea', Nat.reduceBEq]
      refine ⟨i1, i2, ?_⟩
      refine safe_bslstr (z := z') rfl (by kernel_rfl) (by kernel_rfl) (by kernel_rfl) (fun _ => ?_) (fun _ => trivial) fun b1 => ?_
      · simp only [recheck, recheck1, go_sem, ea, Nat.reduceBEq, Nat.reduceAdd]
        exact i1
      refine safe_bslstr (z := z) rfl (by kernel_rfl) (by kernel_rfl) (by kernel_rfl) (fun _ => ?_) (fun _ => trivial) fun b2 => ?_
      · refine ⟨?_, ?_, ?_, recheck_oth (hstr _ 55 z' b1 rfl) rfl, trivial⟩ <;> simp only [recheck1, go_sem, ea', Nat.reduceBEq, Nat.reduceAdd]
        exact i2
      refine safe_rd (s := T [z]) (vc := True) rfl trivial ⟨?_, ?_, ?_, recheck_oth (hstr _ 55 z' b1 rfl) rfl, trivial⟩ ?_
      · simp only [recheck1, go_sem, Nat.reduceBEq]
      · simp only [recheck1, go_sem, Nat.reduceBEq]
        exact i2
      · simp only [recheck1, go_sem, ea', Nat.reduceBEq]
      refine go_ok _ 2 _ _ ?_
      simp only [go_sem, List.cons_append, List.nil_append, Nat.reduceBEq]
      refine Safe.sub ?_ (hrest ())
      exact Sub.front (X := []) ⟨rfl, rfl, rfl, rfl, rfl, rfl, rfl, rfl, rfl, trivial⟩ rfl
end Go.SX
