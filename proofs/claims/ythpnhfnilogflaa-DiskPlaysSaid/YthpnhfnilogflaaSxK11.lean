/- The law of the full disk: its walk. -/
import Derived.Test.YthpnhfnilogflaaSxK10
namespace Go.SX
open Go.Proofs
set_option maxRecDepth 1000000
variable {E : Env}

theorem sum_add : ∀ (l : List FS) (x ys : List UInt8), sumF (addF l x ys) = sumF l + ys.length
  | [], x, ys => by simp [addF, sumF]
  | f :: r, x, ys => by
    have ih := sum_add r x ys
    simp only [sumF] at ih ⊢
    unfold addF
    split
    · simp; omega
    · simp only [List.map_cons, List.sum_cons, ih]; omega
theorem nm_add : ∀ (l : List FS) (x ys : List UInt8) (f : FS), f ∈ addF l x ys → f.nm = x ∨ ∃ g ∈ l, g.nm = f.nm
  | [], x, ys, f, h => by simp [addF] at h; exact .inl (by rw [h])
  | g :: r, x, ys, f, h => by
    unfold addF at h
    split at h
    · rename_i hg
      rcases List.mem_cons.1 h with rfl | h
      · exact .inl hg
      · exact .inr ⟨f, by simp [h], rfl⟩
    · rcases List.mem_cons.1 h with rfl | h
      · exact .inr ⟨f, by simp, rfl⟩
      · rcases nm_add r x ys f h with h | ⟨k, hk, e⟩
        · exact .inl h
        · exact .inr ⟨k, by simp [hk], e⟩
theorem nd_add : ∀ (l : List FS) (x ys : List UInt8), (l.map (·.nm)).Nodup → ((addF l x ys).map (·.nm)).Nodup
  | [], x, ys, _ => by simp [addF]
  | g :: r, x, ys, h => by
    simp only [List.map_cons, List.nodup_cons] at h
    unfold addF
    split
    · simp only [List.map_cons, List.nodup_cons]; exact h
    · rename_i hg
      simp only [List.map_cons, List.nodup_cons]
      refine ⟨fun hm => ?_, nd_add r x ys h.2⟩
      obtain ⟨f, hf, e⟩ := List.mem_map.1 hm
      rcases nm_add r x ys f hf with h1 | ⟨k, hk, h1⟩
      · exact hg (by rw [← e, h1])
      · exact h.1 (List.mem_map.2 ⟨k, hk, by rw [h1, e]⟩)
theorem del_sub : ∀ (l : List FS) (x : List UInt8), (delF l x).Sublist l
  | [], _ => List.Sublist.refl _
  | f :: r, x => by
    unfold delF
    split
    · exact List.sublist_cons_self f r
    · exact (del_sub r x).cons_cons f
theorem del_gone : ∀ (l : List FS) (x : List UInt8), (l.map (·.nm)).Nodup → ∀ f ∈ delF l x, f.nm ≠ x
  | [], _, _, f, h => by simp [delF] at h
  | g :: r, x, hn, f, h => by
    simp only [List.map_cons, List.nodup_cons] at hn
    unfold delF at h
    split at h
    · rename_i hg
      intro e
      exact hn.1 (List.mem_map.2 ⟨f, h, by rw [e, hg]⟩)
    · rename_i hg
      rcases List.mem_cons.1 h with rfl | h
      · exact hg
      · exact del_gone r x hn.2 f h
theorem fnd_gone : ∀ (l : List FS) (x : List UInt8), fndF l x = none → ∀ f ∈ l, f.nm ≠ x
  | [], _, _, f, h => by simp at h
  | g :: r, x, hn, f, h => by
    simp only [fndF] at hn
    split at hn
    · cases hn
    · rename_i hg
      cases hr : fndF r x with
      | some j => rw [hr] at hn; cases hn
      | none =>
        rcases List.mem_cons.1 h with rfl | h
        · exact hg
        · exact fnd_gone r x hr f h

theorem recheck_oth {C : Ctx} {st : St} {d : Nat} {op : Op} {ty : TypeId} {s : SV} (h : OthV C st op ty s) (hl : look st.env d = some s) : recheck1 C st (.oth (some d) op ty) :=
  ⟨s, hl, fun ro H F a w g => by
    rw [exec_same (o := oper0 (some d) op ty) (o' := oper0 none op ty) rfl rfl]
    exact (h ro H F a w g).1⟩
/-- the j-th name -/
def nmJ (j : Nat) : List UInt8 := [UInt8.ofNat (97 + j)]
theorem nm_byte (k : Nat) (h : k < 5) : litF 1 [.val (.int .u8 (IntKind.u8.wrap (97 + (k : Int))))] 0 0 = rowsV encB (nmJ k) 0 0 := by
  simp only [litF, rowsV, nmJ, encB, Nat.zero_mul, Nat.zero_add, List.getD_cons_zero, IntKind.wrap_u8', UInt8.toNat_ofNat']
  congr 3
theorem nm_ok : ∀ k, k < 5 → nameB (nmJ k) = true := by decide
theorem zero_byte (n i : Nat) (h : i < n) : zerF [.int .u8 0] i 0 = rowsV encB (List.replicate n 0) i 0 := by
  simp [zerF, rowsV, encB, cst1, List.getD_eq_getElem?_getD, h]
theorem Alive.full {b : Nat} {d : DS} {r o : Int} {fs : List FS} (h : Alive d r o fs) {x ys : List UInt8} {X : List Chunk} {v : SV} {hp : List Chunk} (hx : nameB x = true) (hf : ¬ (sumF fs : Int) + ys.length ≤ r) (hv : AppP b d x ys X v hp) :
    v = I 14 ∧ ∃ d', Alive d' r (o + 1) fs ∧ hp = dO b d' ++ X := by
  have hdead : d.begun.dead = false := by rw [h.begun]; exact h.dead
  rcases hv with ⟨h1, _⟩ | ⟨_, h1, _⟩ | ⟨_, _, h1, rfl, rfl⟩ | ⟨_, _, h1, _⟩
  · rw [hdead] at h1; cases h1
  · rw [hx] at h1; cases h1
  · refine ⟨rfl, d.begun.did, ?_, rfl⟩
    rw [h.begun]
    exact ⟨h.room, by show d.ops + 1 = _; rw [h.ops], h.left, h.dead, h.fs⟩
  · rw [h.room, h.used] at h1; omega
structure F4 (rm : Int) where
  i : Nat
  d : DS
  fs : List FS
  hi : i ≤ 40
  al : Alive d rm i fs
  us : (sumF fs : Int) ≤ rm
  nd : (fs.map (·.nm)).Nodup
  nms : ∀ f ∈ fs, ∃ j, j < 5 ∧ f.nm = nmJ j

structure F5 (rm : Int) where
  j : Nat
  d : DS
  fs : List FS
  o : Int
  hj : j ≤ 5
  al : Alive d rm o fs
  o0 : 0 ≤ o
  o1 : o ≤ 40 + j
  us : (sumF fs : Int) ≤ rm
  nd : (fs.map (·.nm)).Nodup
  nms : ∀ f ∈ fs, ∃ k, j ≤ k ∧ k < 5 ∧ f.nm = nmJ k
theorem sum_sub {l l' : List FS} (h : l'.Sublist l) : sumF l' ≤ sumF l := by
  induction h with
  | slnil => exact Nat.le_refl _
  | cons a _ ih => simp only [sumF, List.map_cons, List.sum_cons] at ih ⊢; omega
  | cons_cons a _ ih => simp only [sumF, List.map_cons, List.sum_cons] at ih ⊢; omega
theorem Alive.rem {b : Nat} {d : DS} {r o : Int} {fs : List FS} (h : Alive d r o fs) {x : List UInt8} {v : SV} {hp : List Chunk} (hn : (fs.map (·.nm)).Nodup) (hx : nameB x = true) (hv : OneP b d x (delF · x) v hp) :
    ∃ d' fs', Alive d' r (o + 1) fs' ∧ hp = dO b d' ∧ fs'.Sublist fs ∧ ∀ f ∈ fs', f.nm ≠ x := by
  have hdead : d.begun.dead = false := by rw [h.begun]; exact h.dead
  rcases hv with ⟨h1, _⟩ | ⟨_, h1, _⟩ | ⟨_, _, h1, rfl, rfl⟩ | ⟨_, _, _, rfl, L', hL, rfl⟩
  · rw [hdead] at h1; cases h1
  · rw [hx] at h1; cases h1
  · refine ⟨d.begun.did, fs, ?_, rfl, List.Sublist.refl _, ?_⟩
    · rw [h.begun]
      exact ⟨h.room, by show d.ops + 1 = _; rw [h.ops], h.left, h.dead, h.fs⟩
    · rw [fnd_fs, h.fs] at h1
      exact fnd_gone fs x h1
  · exact ⟨_, delF fs x, h.did (by rw [hL, h.fs]), rfl, del_sub fs x, del_gone fs x hn⟩

theorem c4 (x : Int) (a : Option Addr) (cap : Nat) (zs : List Int) : Spec Try.prog E 4 [I x, vI a cap zs] [] (fun v _ => v = Bl true) := by
  refine spec_of (keep := k4) (args' := [I x, vI a cap zs]) Try.func4 rfl Try.ntmps4 s4_ok (by simp) ⟨rfl, fun _ h => h⟩ (fun _ _ h => h) (go_ok _ 100 _ _ ?_)
  simp only [go_sem, s4, k4, Nat.reduceBEq, Nat.zero_add]
  refine (stp_call [] rfl rfl rfl ⟨_, Try.func10, rfl, rfl⟩ (c10.leave (Post' := fun v hp => v = Bl true ∧ hp = []) fun _ hp h => ⟨[], hp, rfl, h.1, rfl⟩) rfl (fun _ h => h) rfl (fun _ _ h => h) ?_).safe trivial
  rintro v hp ⟨rfl, rfl⟩
  refine ⟨trivial, go_ok _ 100 _ _ ?_⟩
  simp only [go_sem, Nat.reduceBEq, Try.results4]
  refine (stp_call [] rfl rfl rfl ⟨_, Try.func15, rfl, rfl⟩ (c15 x 500 (by decide) (by decide)) rfl (fun _ h => h) rfl (fun _ _ h => h) ?_).safe trivial
  rintro v hp ⟨rfl, rfl⟩
  have hr1 : 0 ≤ x % 500 ∧ x % 500 < 500 := by omega
  generalize x % 500 = rm at hr1 ⊢
  refine ⟨trivial, go_ok _ 100 _ _ ?_⟩
  simp only [go_sem, Nat.reduceBEq]
  refine (stp_call [] rfl rfl rfl ⟨_, Try.func11, rfl, rfl⟩ (c11 rm 0) rfl (fun _ h => h) rfl (fun _ _ h => h) ?_).safe trivial
  rintro v hp (⟨h, _, _⟩ | ⟨_, b, M, rfl, rfl⟩)
  · omega
  refine ⟨trivial, go_ok _ 100 _ _ ?_⟩
  simp only [go_sem, Nat.reduceBEq, Try.results4]
  have A0 : Alive ⟨rm, 0, 0, false, M, []⟩ rm 0 [] := ⟨rfl, rfl, rfl, rfl, rfl⟩
  refine safe_loop (ι := F4 rm) (fun g => ⟨[(0, I rm), (1, vI a cap zs), (5, .ptr 0 b 0), (7, I (sumF g.fs : Nat)), (8, I g.i)], dO b g.d⟩) (fun g => 40 - g.i)
    ⟨0, _, [], by decide, A0, by simp [sumF]; omega, by simp, by simp⟩ (Sub.front (X := []) ⟨rfl, rfl, rfl, rfl, rfl, trivial⟩ rfl) ?_
  intro g
  refine go_ok _ 100 _ _ ?_
  simp only [go_sem, Nat.reduceBEq, Int.toNat_natCast]
  have hgi := g.hi
  refine ⟨fun h => ?_, fun h => ?_⟩
  · have hlt : g.i < zs.length ∧ g.i < 40 := by simp at h; omega
    refine ⟨by omega, by decide, ?_⟩
    refine (stp_call [] rfl rfl rfl ⟨_, Try.func15, rfl, rfl⟩ (c15 (zs.getD g.i 0) 200 (by decide) (by decide)) rfl (fun _ h => h) rfl (fun _ _ h => h) ?_).safe trivial
    rintro v hp ⟨rfl, rfl⟩
    have hn : 0 ≤ zs.getD g.i 0 % 200 ∧ zs.getD g.i 0 % 200 < 200 := by omega
    generalize zs.getD g.i 0 % 200 = n at hn ⊢
    obtain ⟨n, rfl⟩ : ∃ k : Nat, n = k := ⟨n.toNat, by omega⟩
    refine ⟨by simp only [go_sem], go_ok _ 6 _ _ ?_⟩
    simp only [go_sem, Nat.reduceBEq]
    refine safe_alts_mid (ι := {q : Int × DS // (sumF g.fs + (n : Int) ≤ rm → q.1 = 0 ∧ Alive q.2 rm (g.i + 1) (addF g.fs (nmJ (g.i % 5)) (List.replicate n 0))) ∧ (¬ sumF g.fs + (n : Int) ≤ rm → q.1 = 14 ∧ Alive q.2 rm (g.i + 1) g.fs)})
      (fun q => ⟨[(0, I rm), (1, vI a cap zs), (5, .ptr 0 b 0), (7, I (sumF g.fs : Nat)), (8, I g.i), (9, I n), (10, I q.1.1)], dO b q.1.2⟩) ?_ ?_
    · rintro ⟨⟨e, d'⟩, h1, h2⟩
      simp only at h1 h2
      have hus := g.us
      have hs1 : sumF (addF g.fs (nmJ (g.i % 5)) (List.replicate n 0)) = sumF g.fs + n := by rw [sum_add]; simp
      by_cases hft : sumF g.fs + (n : Int) ≤ rm
      · obtain ⟨rfl, A⟩ := h1 hft
        have q1 : decide ((sumF g.fs : Int) + n ≤ rm) = true := by simpa using hft
        have q2 : decide ((0 : Int) = 0) = true := by decide
        have q3 : decide ((0 : Int) ≠ 0) = false := by decide
        refine go_ok _ 100 _ _ ?_
        simp only [go_sem, q1, q3, Nat.reduceBEq, Try.results4]
        refine ⟨by simp only [inI64]; omega, ⟨by simp only [inI64]; omega, ?_⟩, fun h => absurd h (by decide)⟩
        refine (stp_call [0, 1, 2] rfl rfl rfl ⟨_, Try.func16, rfl, rfl⟩ (c16 b d' (by rw [A.used, hs1]; omega)) rfl (fun _ h => h) rfl (fun _ _ h => h) ?_).safe trivial
        rintro v hp ⟨rfl, rfl⟩
        rw [A.used, hs1]
        have q5 : decide (((sumF g.fs + n : Nat) : Int) ≠ (sumF g.fs : Int) + n) = false := by simp
        refine ⟨trivial, go_ok _ 100 _ _ ?_⟩
        simp only [go_sem, q5, Nat.reduceBEq, Try.results4]
        refine ⟨?_, fun h => absurd h (by decide), rfl⟩
        refine Stp.safeOn ?_ trivial
        refine stp_call [0, 1, 2] (args := [.ptr 0 b 0]) rfl rfl rfl ⟨_, Try.func17, rfl, rfl⟩ (c17 b d') rfl (fun _ h => unc_oks h) rfl (fun _ _ h => h) ?_
        rintro v hp ⟨rfl, rfl⟩
        rw [A.ops]
        have q6 : decide ((g.i : Int) + 1 ≠ (g.i : Int) + 1) = false := by simp
        refine ⟨trivial, go_ok _ 100 _ _ ?_⟩
        simp only [go_sem, q6, Nat.reduceBEq, Try.results4]
        refine ⟨by simp only [inI64]; omega, by simp only [inI64]; omega, ?_⟩
        refine safe_lend ⟨g.i + 1, d', addF g.fs (nmJ (g.i % 5)) (List.replicate n 0), by omega, A, by rw [hs1]; omega, nd_add _ _ _ g.nd, fun f hf => ?_⟩ (by simp only; omega) (Sub.front (X := []) ⟨rfl, rfl, rfl, by rw [hs1]; rfl, rfl, trivial⟩ rfl)
        rcases nm_add _ _ _ f hf with h | ⟨k, hk, h⟩
        · exact ⟨g.i % 5, by omega, h⟩
        · obtain ⟨j, hj, e⟩ := g.nms k hk
          exact ⟨j, hj, by rw [← h, e]⟩
      · obtain ⟨rfl, A⟩ := h2 hft
        have q1 : decide ((sumF g.fs : Int) + n ≤ rm) = false := by simpa using hft
        have q2 : decide ((14 : Int) = 0) = false := by decide
        have q3 : decide ((14 : Int) ≠ 14) = false := by decide
        refine go_ok _ 100 _ _ ?_
        simp only [go_sem, q1, q2, q3, Nat.reduceBEq, Try.results4]
        refine ⟨by simp only [inI64]; omega, ?_⟩
        refine (stp_call [0, 1, 2] rfl rfl rfl ⟨_, Try.func16, rfl, rfl⟩ (c16 b d' (by rw [A.used]; omega)) rfl (fun _ h => h) rfl (fun _ _ h => h) ?_).safe trivial
        rintro v hp ⟨rfl, rfl⟩
        rw [A.used]
        have q5 : decide (((sumF g.fs : Nat) : Int) ≠ (sumF g.fs : Int)) = false := by simp
        refine ⟨trivial, go_ok _ 100 _ _ ?_⟩
        simp only [go_sem, q5, Nat.reduceBEq, Try.results4]
        refine ⟨?_, fun h => absurd h (by decide), rfl⟩
        refine Stp.safeOn ?_ trivial
        refine stp_call [0, 1, 2] (args := [.ptr 0 b 0]) rfl rfl rfl ⟨_, Try.func17, rfl, rfl⟩ (c17 b d') rfl (fun _ h => unc_oks h) rfl (fun _ _ h => h) ?_
        rintro v hp ⟨rfl, rfl⟩
        rw [A.ops]
        have q6 : decide ((g.i : Int) + 1 ≠ (g.i : Int) + 1) = false := by simp
        refine ⟨trivial, go_ok _ 100 _ _ ?_⟩
        simp only [go_sem, q6, Nat.reduceBEq, Try.results4]
        refine ⟨by simp only [inI64]; omega, by simp only [inI64]; omega, ?_⟩
        exact safe_lend ⟨g.i + 1, d', g.fs, by omega, A, g.us, g.nd, g.nms⟩ (by simp only; omega) (Sub.front (X := []) ⟨rfl, rfl, rfl, rfl, rfl, trivial⟩ rfl)
    · intro l hl hrest
      simp only [List.mem_cons, List.not_mem_nil, or_false] at hl
      rcases hl with rfl | rfl
      · refine go_ok _ 100 _ _ ?_
        simp only [go_sem, Nat.reduceBEq, Nat.reduceAdd, Nat.zero_add]
        have hti : (g.i : Int).tmod 5 = ((g.i % 5 : Nat) : Int) := by rw [Int.tmod_eq_emod_of_nonneg (by omega)]; omega
        rw [hti]
        refine ⟨by decide, by simp only [inI64]; omega, fun b1 => ?_⟩
        refine safe_frzC (c := 3) (f' := rowsV encB (nmJ (g.i % 5))) (env' := [(43, .view (some ⟨b1, 0, none⟩) 1 1 1 (rowsV encB (nmJ (g.i % 5)))), (45, I n), (42, .val (.int .u8 (IntKind.u8.wrap (97 + ((g.i % 5 : Nat) : Int))))), (41, I (97 + ((g.i % 5 : Nat) : Int))), (40, I ((g.i % 5 : Nat) : Int)), (39, I g.i), (38, .ptr 0 b 0), (0, I rm), (1, vI a cap zs), (5, .ptr 0 b 0), (7, I (sumF g.fs : Nat)), (8, I g.i), (9, I n)]) rfl (fun i j hi hj => ?_)
          ⟨rfl, .inr ⟨rfl, rfl⟩, rfl, .inl rfl, rfl, .inl rfl, rfl, .inl rfl, rfl, .inl rfl, rfl, .inl rfl, rfl, .inl rfl, rfl, .inl rfl, rfl, .inl rfl, rfl, .inl rfl, rfl, .inl rfl, rfl, .inl rfl, rfl, .inl rfl, trivial⟩ ?_
        · obtain rfl : i = 0 := by omega
          obtain rfl : j = 0 := by omega
          exact nm_byte (g.i % 5) (by omega)
        have hstr := fun (st : St) (hx : opv st.env (.t 43) = some (.view (some ⟨b1, 0, none⟩) 1 1 1 (rowsV encB (nmJ (g.i % 5))))) => oth_str (C := { P := Try.prog, E := E, N := 101 }) (st := st) (x := .tmp 43) (src := 22) (dst := 9) (ty := 9) (e := 5) (xs := nmJ (g.i % 5)) (ad := some ⟨b1, 0, none⟩) (n := 1) (cap := 1) (f := rowsV encB (nmJ (g.i % 5))) (xo := .t 43) rfl (by kernel_rfl) (by kernel_rfl) (by kernel_rfl) hx rfl (fun _ h => h) rfl (fun _ _ => rfl)
        refine safe_oth (hstr _ rfl) trivial ?_
        refine go_ok _ 100 _ _ ?_
        simp only [go_sem]
        refine (stp_mksl (sl := I n) (sc := I n) (ln := n) (cp := n) rfl rfl rfl rfl (by omega) (by omega) (by omega) (by omega) fun b2 => ?_).safe trivial
        refine ⟨?_, ?_⟩
        · refine ⟨?_, ?_, ?_, ?_, ?_, recheck_oth (hstr _ rfl) rfl, trivial⟩
          · simp only [recheck1, go_sem, Nat.reduceBEq]
          · simp only [recheck1, go_sem, Nat.reduceBEq]
          · simp only [recheck1, go_sem, Nat.reduceBEq]
            exact ⟨by decide, by rw [hti]⟩
          · simp only [recheck1, go_sem, Nat.reduceBEq]
            simp only [inI64]
            omega
          · simp only [recheck1, go_sem, Nat.reduceBEq]
        · have hrl : (List.replicate n (0 : UInt8)).length = n := by simp
          rw [Int.toNat_natCast]
          refine safe_frzC (c := 4) (f' := rowsV encB (List.replicate n 0)) (env' := [(46, vB (some ⟨b2, 0, none⟩) n (List.replicate n 0)), (44, T (nmJ (g.i % 5))), (43, .view (some ⟨b1, 0, none⟩) 1 1 1 (rowsV encB (nmJ (g.i % 5)))), (45, I n), (42, .val (.int .u8 (IntKind.u8.wrap (97 + ((g.i % 5 : Nat) : Int))))), (41, I (97 + ((g.i % 5 : Nat) : Int))), (40, I ((g.i % 5 : Nat) : Int)), (39, I g.i), (38, .ptr 0 b 0), (0, I rm), (1, vI a cap zs), (5, .ptr 0 b 0), (7, I (sumF g.fs : Nat)), (8, I g.i), (9, I n)]) rfl (fun i j hi hj => ?_)
            ⟨rfl, .inr ⟨rfl, by simp [frz]⟩, rfl, .inl rfl, rfl, .inl rfl, rfl, .inl rfl, rfl, .inl rfl, rfl, .inl rfl, rfl, .inl rfl, rfl, .inl rfl, rfl, .inl rfl, rfl, .inl rfl, rfl, .inl rfl, rfl, .inl rfl, rfl, .inl rfl, rfl, .inl rfl, rfl, .inl rfl, trivial⟩ ?_
          · obtain rfl : j = 0 := by omega
            exact zero_byte n i hi
          have hnm : nameB (nmJ (g.i % 5)) = true := nm_ok _ (by omega)
          have hok := g.al.ok hr1.1 (by omega) g.us (by have := g.us; omega) (by omega) (by omega)
          refine (stp_call [0, 1, 2] (args := [.ptr 0 b 0, T (nmJ (g.i % 5)), vB (some ⟨b2, 0, none⟩) n (List.replicate n 0)]) rfl rfl rfl ⟨_, Try.func12, rfl, rfl⟩ (c12v b g.d (nmJ (g.i % 5)) (some ⟨b2, 0, none⟩) n (List.replicate n 0) hok (by rw [hrl]; omega)) rfl (fun _ h => h) rfl (fun _ _ h => h) ?_).safe trivial
          rintro v hp hv
          by_cases hft : sumF g.fs + (n : Int) ≤ rm
          · obtain ⟨rfl, d', A', rfl⟩ := g.al.app hnm (by rw [hrl]; exact hft) hv
            refine ⟨trivial, go_ok _ 2 _ _ ?_⟩
            simp only [go_sem, Nat.reduceBEq]
            refine Safe.sub ?_ (hrest ⟨(0, d'), fun _ => ⟨rfl, A'⟩, fun h => absurd hft h⟩)
            exact Sub.front (X := [.emp, .emp]) ⟨rfl, rfl, rfl, rfl, rfl, rfl, rfl, trivial⟩ rfl
          · obtain ⟨rfl, d', A', rfl⟩ := g.al.full hnm (by rw [hrl]; exact hft) hv
            refine ⟨trivial, go_ok _ 2 _ _ ?_⟩
            simp only [go_sem, Nat.reduceBEq]
            refine Safe.sub ?_ (hrest ⟨(14, d'), fun h => absurd h hft, fun _ => ⟨rfl, A'⟩⟩)
            exact Sub.front (X := [.emp, .emp]) ⟨rfl, rfl, rfl, rfl, rfl, rfl, rfl, trivial⟩ rfl
      · refine go_ok _ 100 _ _ ?_
        simp only [go_sem, Nat.reduceBEq]
        have hti : (g.i : Int).tmod 5 = ((g.i % 5 : Nat) : Int) := by rw [Int.tmod_eq_emod_of_nonneg (by omega)]; omega
        rw [hti]
        refine ⟨by decide, by simp only [inI64]; omega, ?_⟩
        have hrl : (List.replicate n (0 : UInt8)).length = n := by simp
        refine (stp_mksl (sl := I n) (sc := I n) (ln := n) (cp := n) rfl rfl rfl rfl (by omega) (by omega) (by omega) (by omega) fun b2 => ?_).safe trivial
        refine ⟨⟨?_, ?_, ?_, ?_, ?_, trivial⟩, ?_⟩
        · simp only [recheck1, go_sem, Nat.reduceBEq]
        · simp only [recheck1, go_sem, Nat.reduceBEq]
        · simp only [recheck1, go_sem, Nat.reduceBEq]
          exact ⟨by decide, by rw [hti]⟩
        · simp only [recheck1, go_sem, Nat.reduceBEq]
          simp only [inI64]
          omega
        · simp only [recheck1, go_sem, Nat.reduceBEq]
        rw [Int.toNat_natCast]
        refine safe_frzC (c := 3) (f' := rowsV encB (List.replicate n 0)) (env' := [(46, vB (some ⟨b2, 0, none⟩) n (List.replicate n 0)), (45, I n), (42, .val (.int .u8 (IntKind.u8.wrap (97 + ((g.i % 5 : Nat) : Int))))), (41, I (97 + ((g.i % 5 : Nat) : Int))), (40, I ((g.i % 5 : Nat) : Int)), (39, I g.i), (38, .ptr 0 b 0), (0, I rm), (1, vI a cap zs), (5, .ptr 0 b 0), (7, I (sumF g.fs : Nat)), (8, I g.i), (9, I n)]) rfl (fun i j hi hj => ?_)
          ⟨rfl, .inr ⟨rfl, by simp [frz]⟩, rfl, .inl rfl, rfl, .inl rfl, rfl, .inl rfl, rfl, .inl rfl, rfl, .inl rfl, rfl, .inl rfl, rfl, .inl rfl, rfl, .inl rfl, rfl, .inl rfl, rfl, .inl rfl, rfl, .inl rfl, rfl, .inl rfl, trivial⟩ ?_
        · obtain rfl : j = 0 := by omega
          exact zero_byte n i hi
        refine go_ok _ 100 _ _ ?_
        simp only [go_sem, Nat.reduceBEq, Nat.reduceAdd, Nat.zero_add]
        intro b1
        refine safe_frzC (c := 4) (f' := rowsV encB (nmJ (g.i % 5))) (env' := [(43, .view (some ⟨b1, 0, none⟩) 1 1 1 (rowsV encB (nmJ (g.i % 5)))), (46, vB (some ⟨b2, 0, none⟩) n (List.replicate n 0)), (45, I n), (42, .val (.int .u8 (IntKind.u8.wrap (97 + ((g.i % 5 : Nat) : Int))))), (41, I (97 + ((g.i % 5 : Nat) : Int))), (40, I ((g.i % 5 : Nat) : Int)), (39, I g.i), (38, .ptr 0 b 0), (0, I rm), (1, vI a cap zs), (5, .ptr 0 b 0), (7, I (sumF g.fs : Nat)), (8, I g.i), (9, I n)]) rfl (fun i j hi hj => ?_)
          ⟨rfl, .inr ⟨rfl, rfl⟩, rfl, .inl rfl, rfl, .inl rfl, rfl, .inl rfl, rfl, .inl rfl, rfl, .inl rfl, rfl, .inl rfl, rfl, .inl rfl, rfl, .inl rfl, rfl, .inl rfl, rfl, .inl rfl, rfl, .inl rfl, rfl, .inl rfl, rfl, .inl rfl, trivial⟩ ?_
        · obtain rfl : i = 0 := by omega
          obtain rfl : j = 0 := by omega
          exact nm_byte (g.i % 5) (by omega)
        refine safe_oth (oth_str (e := 5) (xs := nmJ (g.i % 5)) (ad := some ⟨b1, 0, none⟩) (n := 1) (cap := 1) (f := rowsV encB (nmJ (g.i % 5))) (xo := .t 43) rfl (by kernel_rfl) (by kernel_rfl) (by kernel_rfl) rfl rfl (fun _ h => h) rfl (fun _ _ => rfl)) trivial ?_
        have hnm : nameB (nmJ (g.i % 5)) = true := nm_ok _ (by omega)
        have hok := g.al.ok hr1.1 (by omega) g.us (by have := g.us; omega) (by omega) (by omega)
        refine (stp_call [0, 1, 2] (args := [.ptr 0 b 0, T (nmJ (g.i % 5)), vB (some ⟨b2, 0, none⟩) n (List.replicate n 0)]) rfl rfl rfl ⟨_, Try.func12, rfl, rfl⟩ (c12v b g.d (nmJ (g.i % 5)) (some ⟨b2, 0, none⟩) n (List.replicate n 0) hok (by rw [hrl]; omega)) rfl (fun _ h => h) rfl (fun _ _ h => h) ?_).safe trivial
        rintro v hp hv
        by_cases hft : sumF g.fs + (n : Int) ≤ rm
        · obtain ⟨rfl, d', A', rfl⟩ := g.al.app hnm (by rw [hrl]; exact hft) hv
          refine ⟨trivial, go_ok _ 2 _ _ ?_⟩
          simp only [go_sem, Nat.reduceBEq]
          refine Safe.sub ?_ (hrest ⟨(0, d'), fun _ => ⟨rfl, A'⟩, fun h => absurd hft h⟩)
          exact Sub.front (X := [.emp, .emp]) ⟨rfl, rfl, rfl, rfl, rfl, rfl, rfl, trivial⟩ rfl
        · obtain ⟨rfl, d', A', rfl⟩ := g.al.full hnm (by rw [hrl]; exact hft) hv
          refine ⟨trivial, go_ok _ 2 _ _ ?_⟩
          simp only [go_sem, Nat.reduceBEq]
          refine Safe.sub ?_ (hrest ⟨(14, d'), fun h => absurd h hft, fun _ => ⟨rfl, A'⟩⟩)
          exact Sub.front (X := [.emp, .emp]) ⟨rfl, rfl, rfl, rfl, rfl, rfl, rfl, trivial⟩ rfl
  · have hus := g.us
    refine safe_loop (ι := F5 rm) (fun q => ⟨[(0, I rm), (5, .ptr 0 b 0), (11, I q.j)], dO b q.d⟩) (fun q => 5 - q.j)
      ⟨0, g.d, g.fs, g.i, by decide, g.al, by omega, by omega, g.us, g.nd, fun f hf => by obtain ⟨k, h1, h2⟩ := g.nms f hf; exact ⟨k, Nat.zero_le _, h1, h2⟩⟩ (Sub.front (X := []) ⟨rfl, rfl, rfl, trivial⟩ rfl) ?_
    intro q
    have hqj := q.hj
    have hqu := q.us
    have hqo := q.o0
    have hqo2 := q.o1
    refine go_ok _ 100 _ _ ?_
    simp only [go_sem, Nat.reduceBEq, Nat.reduceAdd, Nat.zero_add]
    refine ⟨fun h => ?_, fun h => ?_⟩
    · have hlt : q.j < 5 := by simp at h; omega
      refine ⟨by simp only [inI64]; omega, fun b1 => ?_⟩
      refine safe_frzC (c := 3) (f' := rowsV encB (nmJ q.j)) (env' := [(88, .view (some ⟨b1, 0, none⟩) 1 1 1 (rowsV encB (nmJ q.j))), (87, .val (.int .u8 (IntKind.u8.wrap (97 + (q.j : Int))))), (86, I (97 + (q.j : Int))), (85, I q.j), (84, .ptr 0 b 0), (81, Bl (decide ((q.j : Int) < 5))), (0, I rm), (5, .ptr 0 b 0), (11, I q.j)]) rfl (fun i j hi hj => ?_)
        ⟨rfl, .inr ⟨rfl, rfl⟩, rfl, .inl rfl, rfl, .inl rfl, rfl, .inl rfl, rfl, .inl rfl, rfl, .inl rfl, rfl, .inl rfl, rfl, .inl rfl, rfl, .inl rfl, trivial⟩ ?_
      · obtain rfl : i = 0 := by omega
        obtain rfl : j = 0 := by omega
        exact nm_byte q.j hlt
      refine safe_oth (oth_str (e := 5) (xs := nmJ q.j) (ad := some ⟨b1, 0, none⟩) (n := 1) (cap := 1) (f := rowsV encB (nmJ q.j)) (xo := .t 88) rfl (by kernel_rfl) (by kernel_rfl) (by kernel_rfl) rfl rfl (fun _ h => h) rfl (fun _ _ => rfl)) trivial ?_
      have hok := q.al.ok hr1.1 (by omega) q.us (by omega) (by omega) (by omega)
      refine (stp_call [0, 1, 2] (args := [.ptr 0 b 0, T (nmJ q.j)]) rfl rfl rfl ⟨_, Try.func18, rfl, rfl⟩ (c18 b q.d (nmJ q.j) hok) rfl (fun _ h => h) rfl (fun _ _ h => h) ?_).safe trivial
      rintro v hp hv
      obtain ⟨d', fs', A', rfl, hsub, hgone⟩ := q.al.rem q.nd (nm_ok _ hlt) hv
      have hss := sum_sub hsub
      refine ⟨trivial, go_ok _ 100 _ _ ?_⟩
      simp only [go_sem, Nat.reduceBEq]
      refine ⟨by simp only [inI64]; omega, ?_⟩
      refine safe_lend ⟨q.j + 1, d', fs', q.o + 1, by omega, A', by omega, by omega, by omega, (hsub.map _).nodup q.nd, fun f hf => ?_⟩ (by simp only; omega) (Sub.front (X := [.emp]) ⟨rfl, rfl, rfl, trivial⟩ rfl)
      obtain ⟨k, h1, h2, h3⟩ := q.nms f (hsub.subset hf)
      have hne := hgone f hf
      refine ⟨k, ?_, h2, h3⟩
      rcases Nat.lt_or_eq_of_le h1 with h1 | rfl
      · exact h1
      · exact absurd h3 hne
    · have hge : q.j = 5 := by have := of_decide_eq_false h; omega
      have hfs : q.fs = [] := by
        cases hq : q.fs with
        | nil => rfl
        | cons f r =>
          obtain ⟨k, h1, h2, _⟩ := q.nms f (by rw [hq]; simp)
          omega
      have A := q.al
      rw [hfs] at A
      refine (stp_call [0, 1, 2] rfl rfl rfl ⟨_, Try.func16, rfl, rfl⟩ (c16 b q.d (by rw [A.used]; decide)) rfl (fun _ h => h) rfl (fun _ _ h => h) ?_).safe trivial
      rintro v hp ⟨rfl, rfl⟩
      rw [A.used]
      have q1 : decide (((sumF [] : Nat) : Int) = 0) = true := by decide
      refine ⟨trivial, go_ok _ 100 _ _ ?_⟩
      simp only [go_sem, q1, Nat.reduceBEq, Try.results4]
      refine ⟨?_, fun h => absurd h (by decide), rfl⟩
      refine safe_env (env' := [(96, I rm), (95, .ptr 0 b 0), (94, Bl true), (0, I rm)]) ⟨⟨_, rfl, rfl, fun _ _ => by simp only [SV.ok]⟩, ⟨_, rfl, rfl, fun _ _ => by simp only [SV.ok]⟩, seen _ _ _ rfl, seen _ _ _ rfl, trivial⟩ ?_
      obtain ⟨m, hm⟩ : ∃ m : Nat, rm = m := ⟨rm.toNat, by omega⟩
      have hrl : (List.replicate m (0 : UInt8)).length = m := by simp
      refine Stp.safeOn (stp_mksl (sl := I rm) (sc := I rm) (ln := rm) (cp := rm) rfl rfl rfl rfl (by omega) (by omega) (by omega) (by omega) fun b2 => ?_) trivial
      rw [show rm.toNat = m by omega]
      refine ⟨trivial, ?_⟩
      refine safe_frzC (c := 3) (f' := rowsV encB (List.replicate m 0)) (env' := [(97, vB (some ⟨b2, 0, none⟩) m (List.replicate m 0)), (96, I rm), (95, .ptr 0 b 0), (94, Bl true), (0, I rm)]) rfl (fun i j hi hj => ?_)
        ⟨rfl, .inr ⟨rfl, by simp [frz]⟩, rfl, .inl rfl, rfl, .inl rfl, rfl, .inl rfl, rfl, .inl rfl, trivial⟩ ?_
      · obtain rfl : j = 0 := by omega
        exact zero_byte m i hi
      refine go_ok _ 100 _ _ ?_
      simp only [go_sem, Nat.reduceBEq, Try.results4]
      refine ⟨?_, fun h => absurd h (by decide), rfl⟩
      refine Stp.safeOn ?_ trivial
      have hok := A.ok hr1.1 (by omega) (by rw [show sumF [] = 0 from rfl]; omega) (by decide) (by omega) (by omega)
      refine stp_call [0, 1, 2] (args := [.ptr 0 b 0, T [122], vB (some ⟨b2, 0, none⟩) m (List.replicate m 0)]) rfl rfl rfl ⟨_, Try.func12, rfl, rfl⟩ (c12v b q.d [122] (some ⟨b2, 0, none⟩) m (List.replicate m 0) hok (by rw [hrl]; omega)) rfl (fun _ h => h) rfl (fun _ _ h => h) ?_
      rintro v hp hv
      obtain ⟨rfl, d', A', rfl⟩ := A.app (by decide) (by rw [hrl, show sumF [] = 0 from rfl]; omega) hv
      have q2 : decide ((0 : Int) = 0) = true := by decide
      refine ⟨trivial, go_ok _ 100 _ _ ?_⟩
      simp only [go_sem, Nat.reduceBEq, Try.results4]
end Go.SX
