/- Joined texts: T50 T51 T52 T53. -/
import Derived.Test.YtpbbpmhahkeekaaSxTJ10
/- Raft: what a node tells is saved: a snapshot. -/
namespace Go.SX
open Go.Proofs
set_option maxRecDepth 1000000
variable {E : Env}

@[go_sem] theorem condT_q2 : condT q2 = [] := rfl
@[go_sem] theorem condT_q4 : condT q4 = [] := rfl
@[go_sem] theorem condT_q6 : condT q6 = [] := rfl
@[go_sem] theorem condT_q8 : condT q8 = [] := rfl
@[go_sem] theorem condT_h3 : condT h3 = [] := rfl
@[go_sem] theorem condT_h5 : condT h5 = [] := rfl
@[go_sem] theorem condT_b1 : condT b1 = [] := rfl
set_option maxHeartbeats 8000000 in
theorem safe_h3 {P : SV → List Chunk → Prop} {b b6 b7 i cc N db doff dcap : Nat} {dnl : Bool} {A1 A2 A3 A6 A7 A8 : Chunk} {x0 x1 x2 x5 x6 x7 : SV} {F : Nat → Nat → SV} {aw : Rw} {al : List Ent} {r : RdL} {s : SvL} {k : List Frag} {kk : Nat} (hkk : kk ≤ 2 ^ 30) (hi : i < N) (hs : s.pl.okk kk) (hm0 : r.sn = true → 0 ≤ r.mi) (hal : al.length ≤ kk) (hb : (botK k).isNone = true)
    (hno : r.sn = true → (al.length : Int) < r.mi → ∀ hp, P (Bl false) hp)
    (hyes0 : r.sn = false → Safe (S29 E P) k ⟨[(0, .ptr 0 b 0), (1, I i), (5, I cc), (6, .ptr 9 b6 0), (7, .ptr 10 b7 0)], [.cells b 63 [x0, x1, x2, .osl 4 dnl db doff N dcap, aw.sv 5 al.length, x5, x6, x7], A1, A2, A3, .row dnl db 36 doff 1 N dcap F, aw.ch 43 4 encE al, A6, A7, A8, .cells b6 40 (encRd r), .cells b7 108 (encS s)]⟩)
    (hyes1 : r.sn = true → r.mi ≤ al.length → ∀ (w : Rw) (s' : SvL), s'.pl = { s.pl with m := ⟨r.mi, r.mm, r.mv.xs⟩, d := r.d.xs, l := Rf.Gr.stay s.pl.l ⟨r.mi, r.mm, r.mv.xs⟩ } →
      Safe (S29 E P) k ⟨[(0, .ptr 0 b 0), (1, I i), (5, I cc), (6, .ptr 9 b6 0), (7, .ptr 10 b7 0)], [.cells b 63 [x0, x1, x2, .osl 4 dnl db doff N dcap, aw.sv 5 al.length, x5, x6, x7], A1, A2, A3, .row dnl db 36 doff 1 N dcap (updF F i 0 [w.sv 12 r.mi.toNat]), aw.ch 43 4 encE al, A6, A7, A8, .cells b6 40 (encRd r), .cells b7 108 (encS s'), .emp, .row w.nl w.b 43 w.off 4 r.mi.toNat w.cap (rowsV encE (al.take r.mi.toNat))]⟩) :
    Safe (S29 E P) (.code h3 :: k) ⟨[(0, .ptr 0 b 0), (1, I i), (5, I cc), (6, .ptr 9 b6 0), (7, .ptr 10 b7 0)], [.cells b 63 [x0, x1, x2, .osl 4 dnl db doff N dcap, aw.sv 5 al.length, x5, x6, x7], A1, A2, A3, .row dnl db 36 doff 1 N dcap F, aw.ch 43 4 encE al, A6, A7, A8, .cells b6 40 (encRd r), .cells b7 108 (encS s)]⟩ := by
  unfold h3
  refine go_ok _ 5 _ _ ?_
  simp only [go_sem, k29, List.cons_append, List.nil_append, Nat.reduceBEq, Nat.zero_add]
  refine go_ok _ 1 _ _ ?_
  simp only [go_sem, Nat.reduceBEq]
  refine ⟨fun hsn => ?_, fun hsn => ?_⟩
  · have hm0 := hm0 hsn
    have hno := hno hsn
    have hyes1 := hyes1 hsn
    refine go_ok _ 9 _ _ ?_
    simp only [go_sem, k29, List.nil_append, Nat.reduceBEq]
    refine safe_q2 hkk hs hb fun w0 ys hys => ?_
    refine safe_frzA (c := 11) (rowsV encE ys) rfl (fun _ _ _ _ => rfl) (by simp [frzOk, frzOk1, Rw.sv]) ?_
    simp only [go_sem, Rw.sv]
    have hsp : ∀ a cap, ({ s with mi := r.mi, mm := r.mm, mv := r.mv, d := r.d, l := ⟨a, cap, ys⟩ } : SvL).pl = { s.pl with m := ⟨r.mi, r.mm, r.mv.xs⟩, d := r.d.xs, l := Rf.Gr.stay s.pl.l ⟨r.mi, r.mm, r.mv.xs⟩ } := by
      intro a cap
      rw [← hys]
      rfl
    refine go_ok _ 26 _ _ ?_
    simp only [go_sem, k29, List.nil_append, Nat.reduceBEq, Nat.reduceAdd, Nat.zero_add]
    refine go_ok _ 2 _ _ ?_
    simp only [go_sem, k29, List.cons_append, List.nil_append, Nat.reduceBEq]
    refine ⟨fun h1 => ?_, fun h1 => ?_⟩
    · refine go_ok _ 5 _ _ ?_
      simp only [go_sem, k29, hb, Nat.reduceBEq, Try.results29]
      exact hno (of_decide_eq_true h1) _
    · have h1' : ¬ (al.length : Int) < r.mi := of_decide_eq_false h1
      obtain ⟨q, hq⟩ : ∃ q : Nat, r.mi = q := ⟨r.mi.toNat, by omega⟩
      have hql : q ≤ al.length := by omega
      have hy := fun w => hyes1 (by omega) w { s with mi := r.mi, mm := r.mm, mv := r.mv, d := r.d, l := ⟨if w0.nl then none else some ⟨w0.b, w0.off, none⟩, w0.cap, ys⟩ } (hsp _ _)
      refine safe_rowcap (c := 5) rfl fun hcap => ?_
      refine go_ok _ 16 _ _ ?_
      simp only [go_sem, hq, List.cons_append, List.nil_append, Nat.reduceBEq, Nat.reduceAdd, Nat.zero_add, Int.toNat_natCast]
      simp only [Int.toNat_zero, Nat.zero_mul, Nat.add_zero, Nat.sub_zero, ite_self]
      refine ⟨by and_intros <;> first | omega | (intro h; cases h), fun b3 => ⟨by and_intros <;> first | omega | (intro h; cases h), ?_⟩⟩
      refine (stp_app2 (c := 12) (b := b3) (off := 0) (nl := false) (n := 0) (cap := 0) (x := .osl 5 aw.nl aw.b aw.off q aw.cap) (gx := rowsV encE al) (m := q) (f := litF 4 []) (f2 := rowsV encE (al.take q)) (N := q) rfl rfl rfl rfl ?_ ?_ (by omega) (by omega) (fun a j ha hj => ?_) fun nl' b' off' cap' => ?_).safe trivial
      · exact ⟨rfl, rfl, rfl, rfl, hql⟩
      · exact onesF_rows fun x => ⟨rfl, by simp [encE, ones, one, Value.oneCell']⟩
      · rw [rowsE_take al (show a < q by omega)]
        have e2 : appF (litF 4 []) 0 (rowsV encE al) a j = rowsV encE al a j := by rw [appF_zero]
        exact e2
      refine ⟨by simp only [recheck, recheck1, go_sem, Nat.reduceBEq, Nat.zero_add], go_ok _ 2 _ _ ?_⟩
      simp only [go_sem, Nat.reduceBEq, Nat.zero_add, Int.toNat_natCast]
      refine ⟨⟨by omega, by omega, Nat.le_refl _⟩, ⟨hi, by decide⟩, ?_⟩
      have hy := hy ⟨nl', b', off', cap'⟩
      rw [hq, Int.toNat_natCast] at hy
      refine safe_nil (Safe.sub ?_ hy)
      refine Sub.front (X := []) (by simp [envSub, look]) ?_
      simp only [encRd, hq]
      rfl
  · refine go_ok _ 1 _ _ ?_
    simp only [go_sem]
    refine Safe.sub ?_ (hyes0 hsn)
    exact Sub.front (X := []) (by simp [envSub, look]) rfl
end Go.SX

/- Raft: what a node tells is saved and done: once, in parts. -/
namespace Go.SX
open Go.Proofs
set_option maxRecDepth 1000000
variable {E : Env}

/-- what is left of what was saved and done, a snapshot being told -/
def snapR (all dn : List Rf.En) (s : Rf.Sv) (o : Option (Rf.Me × List UInt8)) : Option (Rf.Sv × List Rf.En) := match o with
  | some (m, d) => if (all.length : Int) < m.ix then none else some ({ s with m := m, d := d, l := Rf.Gr.stay s.l m }, all.take m.ix.toNat)
  | none => some (s, dn)
theorem st1_eq (g : Rf.Gr) (i : Nat) : g.settle1 i = (snapR g.all (g.done.getD i []) (g.S.getD i default) (g.R.getD i default).ready.1.snap).bind fun p => (Rf.Gr.saveE p.1 (g.R.getD i default).ready.1.es).bind fun s2 => (saveH s2 (g.R.getD i default).ready.1.hard).bind fun s3 =>
    (Rf.Gr.doE (p.2, g.all) (g.R.getD i default).ready.1.cs).bind fun q => some { g with R := g.R.set i (g.R.getD i default).ready.2, S := g.S.set i s3, net := g.net ++ (g.R.getD i default).ready.1.ms, done := g.done.set i q.1, all := q.2 } := by
  unfold Rf.Gr.settle1
  dsimp only
  generalize (g.R.getD i default).ready = r
  obtain ⟨⟨hard, snap, es, ms, cs, rs⟩, n⟩ := r
  dsimp only
  have key : ∀ (o : Option (Rf.Sv × List Rf.En)), o = snapR g.all (g.done.getD i []) (g.S.getD i default) snap → (match o with
    | none => none
    | some (s, dn) =>
      match Rf.Gr.saveE s es with
      | none => none
      | some s =>
        match saveH s hard with
        | none => none
        | some s =>
          match Rf.Gr.doE (dn, g.all) cs with
          | none => none
          | some (dn, al) => some { g with R := g.R.set i n, S := g.S.set i s, net := g.net ++ ms, done := g.done.set i dn, all := al }) = (snapR g.all (g.done.getD i []) (g.S.getD i default) snap).bind fun p => (Rf.Gr.saveE p.1 es).bind fun s2 => (saveH s2 hard).bind fun s3 =>
    (Rf.Gr.doE (p.2, g.all) cs).bind fun q => some { g with R := g.R.set i n, S := g.S.set i s3, net := g.net ++ ms, done := g.done.set i q.1, all := q.2 } := by
    rintro o rfl
    rcases snapR g.all (g.done.getD i []) (g.S.getD i default) snap with _ | ⟨s, dn⟩
    · rfl
    dsimp only [Option.bind_some]
    rcases Rf.Gr.saveE s es with _ | s2
    · rfl
    dsimp only [Option.bind_some]
    rcases saveH s2 hard with _ | s3
    · rfl
    dsimp only [Option.bind_some]
    rcases Rf.Gr.doE (dn, g.all) cs with _ | ⟨q1, q2⟩ <;> rfl
  rcases snap with _ | ⟨m, d⟩
  · refine Eq.trans ?_ (key _ rfl)
    rfl
  · refine Eq.trans ?_ (key _ rfl)
    rfl
theorem snapR_okk {all dn : List Rf.En} {s : Rf.Sv} {o : Option (Rf.Me × List UInt8)} {s1 : Rf.Sv} {dn1 : List Rf.En} {k : Nat} (h1 : snapR all dn s o = some (s1, dn1)) (hsv : s.okk k) (ho : ∀ m d, o = some (m, d) → 0 ≤ m.ix ∧ m.ix ≤ k ∧ m.vs.length ≤ 7 ∧ d.length ≤ 2 ^ 23) (hdn : dn.length ≤ all.length) : s1.okk k ∧ dn1.length ≤ all.length := by
  unfold snapR at h1
  split at h1
  · rename_i m d
    split at h1
    · cases h1
    · rename_i hle
      injection h1 with h1
      injection h1 with h2 h3
      subst h2 h3
      obtain ⟨q1, q2, q3, q4⟩ := ho m d rfl
      refine ⟨?_, by rw [List.length_take]; omega⟩
      rcases Rf.stay_okk hsv m with e | ⟨a, ha1, ha2, e⟩
      · refine ⟨q1, ?_, fun i hi => ?_, ?_, q3, q4⟩
        · dsimp only; rw [e]; simp; omega
        · dsimp only at hi; rw [e] at hi; simp at hi
        · dsimp only; rw [e]; simp
      · have hi1 := hsv.i1
        refine ⟨q1, ?_, fun b hb => ?_, fun x hx => ?_, q3, q4⟩
        · dsimp only; rw [e, List.length_drop]; omega
        · dsimp only at hb ⊢
          rw [e] at hb ⊢
          rw [List.length_drop] at hb
          rw [Rf.getD_drop, hsv.ix _ (by omega)]
          omega
        · dsimp only at hx; rw [e] at hx
          exact hsv.en x (List.mem_of_mem_drop hx)
  · injection h1 with h1
    injection h1 with h2 h3
    subst h2 h3
    exact ⟨hsv, hdn⟩
/-- every node stands -/
def GL.full (g : GL) (N : Nat) : Prop := ∀ a, a < N → ∃ nb n, g.R[a]? = some (some (nb, n))
theorem GL.full.set {g : GL} {N i b : Nat} {n : NL} (h : g.full N) (hl : g.R.length = N) : ∀ a, a < N → ∃ nb n', (g.R.set i (some (b, n)))[a]? = some (some (nb, n')) := by
  intro a ha
  by_cases hai : a = i
  · subst hai
    exact ⟨b, n, List.getElem?_set_self (by omega)⟩
  · rw [List.getElem?_set_ne (Ne.symm hai)]
    exact h a ha
theorem encR_at {R : List RN} {i nb : Nat} {n : NL} (h : R[i]? = some (some (nb, n))) : rowsV encR R i 0 = .ptr 0 nb 0 := by
  have e : R.getD i default = some (nb, n) := by
    rw [List.getD_eq_getElem?_getD, h]
    rfl
  unfold rowsV
  rw [e]
  rfl
/-- a done row seen in its place -/
theorem dn_row {D : List DnL} {i c n : Nat} {d : DnL} {F : Nat → Nat → SV} {dnl : Bool} {db doff dcap : Nat} (hi : i < D.length) (hF : F = rowsV encD D) (hn : n = d.xs.length) : ∀ ro H, (Chunk.row dnl db 36 doff 1 D.length dcap (updF F i 0 [d.w.sv c n])).sat ro H → (Chunk.row dnl db 36 doff 1 D.length dcap (rowsV encD (D.set i d))).sat ro H := by
  subst hF hn
  intro ro H hh
  refine row_set (enc := encD) (xs := D) (y := d) (cs := [d.w.sv c d.xs.length]) (sz := 1) hi rfl rfl (fun j hj => ?_) hh
  obtain rfl : j = 0 := by omega
  exact ⟨rfl, fun _ _ => by simp [encD, Rw.sv, SV.ok]⟩
theorem Sees.dnOut {A0 A1 A2 A3 A5 A6 A7 : Chunk} {X : List Chunk} {D : List DnL} {i dc : Nat} {dnl : Bool} {db doff dcap : Nat} {d : DnL} (h : D[i]? = some d) :
    Sees ([A0, A1, A2, A3, .row dnl db 36 doff 1 D.length dcap (rowsV encD D), A5, A6, A7, sepC (D.map DnL.ch)] ++ X) ([A0, A1, A2, A3, .row dnl db 36 doff 1 D.length dcap (updF (rowsV encD D) i 0 [d.w.sv dc d.xs.length]), A5, A6, A7, sepC (setC (D.map DnL.ch) i .emp)] ++ (X ++ [d.ch])) := by
  obtain ⟨hi, hd⟩ := List.getElem?_eq_some_iff.1 h
  have e : D.getD i default = d := by rw [List.getD_eq_getElem?_getD, h]; rfl
  refine Sees.trans (Sees.app (Sees.out' DnL.ch (c := 8) (i := i) (L := D) rfl h) (Sees.refl X)) ?_
  rw [List.append_assoc]
  refine Sees.app ?_ (Sees.perm List.perm_append_comm)
  refine Sees.same (Sees.same (Sees.same (Sees.same (Sees.cons (fun ro H hh => ⟨H, [], by simp, row_see (fun k j hk hj => ?_) hh⟩) (Sees.refl _)))))
  obtain rfl : j = 0 := by omega
  by_cases hki : k = i
  · subst hki
    rw [updF_at]
    simp only [rowsD0, e, Rw.sv, SV.den, SV.ok, true_and, implies_true]
  · have e2 : (k == i) = false := by simpa using hki
    simp only [updF, e2, Bool.false_and, cond_false]
    exact ⟨trivial, fun _ h => h⟩
theorem Sees.dnIn {A0 A1 A2 A3 A5 A6 A7 : Chunk} {X : List Chunk} {D : List DnL} {i dc n : Nat} {dnl : Bool} {db doff dcap : Nat} {d : DnL} (hi : i < D.length) (hn : n = d.xs.length) :
    Sees ([A0, A1, A2, A3, .row dnl db 36 doff 1 D.length dcap (updF (rowsV encD D) i 0 [d.w.sv dc n]), A5, A6, A7, sepC (setC (D.map DnL.ch) i .emp)] ++ (X ++ [d.ch])) ([A0, A1, A2, A3, .row dnl db 36 doff 1 (D.set i d).length dcap (rowsV encD (D.set i d)), A5, A6, A7, sepC ((D.set i d).map DnL.ch)] ++ X) := by
  refine Sees.trans (Sees.app (Sees.refl _) (Sees.perm List.perm_append_comm)) ?_
  rw [← List.append_assoc]
  refine Sees.app ?_ (Sees.refl X)
  refine Sees.trans (Sees.in' DnL.ch d (c := 8) (i := i) (L := D) rfl hi) ?_
  rw [List.length_set]
  exact Sees.same (Sees.same (Sees.same (Sees.same (Sees.cons (fun ro H hh => ⟨H, [], by simp, dn_row hi rfl hn ro H hh⟩) (Sees.refl _)))))
theorem Sees.dnSwap {A0 A1 A2 A3 A5 A6 A7 : Chunk} {X : List Chunk} {D : List DnL} {i dc n : Nat} {dnl : Bool} {db doff dcap : Nat} {d : DnL} (hi : i < D.length) (hn : n = d.xs.length) :
    Sees ([A0, A1, A2, A3, .row dnl db 36 doff 1 D.length dcap (updF (rowsV encD D) i 0 [d.w.sv dc n]), A5, A6, A7, sepC (D.map DnL.ch)] ++ (X ++ [.emp, d.ch])) ([A0, A1, A2, A3, .row dnl db 36 doff 1 (D.set i d).length dcap (rowsV encD (D.set i d)), A5, A6, A7, sepC ((D.set i d).map DnL.ch)] ++ X) := by
  refine Sees.trans (Sees.app (Sees.refl _) (Sees.app (Sees.refl X) (Sees.emp (Sees.refl [d.ch])))) ?_
  refine Sees.trans (Sees.app (Sees.refl _) (Sees.perm List.perm_append_comm)) ?_
  rw [← List.append_assoc]
  refine Sees.app ?_ (Sees.refl X)
  refine Sees.trans (Sees.swap DnL.ch d (c := 8) (i := i) (L := D) rfl hi) ?_
  rw [List.length_set]
  exact Sees.same (Sees.same (Sees.same (Sees.same (Sees.cons (fun ro H hh => ⟨H, [], by simp, dn_row hi rfl hn ro H hh⟩) (Sees.refl _)))))
set_option maxHeartbeats 8000000 in
theorem safe_b1 {P : SV → List Chunk → Prop} {b i cc N : Nat} (g : GL) {k : List Frag} {K j J : Nat} (hK : K ≤ 2 ^ 30) (hj : j ≤ 2 ^ 28) (hJ : J ≤ 2 ^ 28) (hN : g.N = N) (hi : i < N) (hinv : g.pl.inv K j J) (hall : g.full N) (hb : (botK k).isNone = true)
    (hno : g.pl.settle1 i = none → ∀ hp, P (Bl false) hp)
    (hyes : ∀ g' : GL, g.pl.settle1 i = some g'.pl → g'.ok = g.ok → g'.N = g.N → g'.full N → Safe (S29 E P) k ⟨[(0, .ptr 0 b 0), (1, I i), (5, I cc)], gO b g'⟩) :
    Safe (S29 E P) (.code b1 :: k) ⟨[(0, .ptr 0 b 0), (1, I i), (5, I cc)], gO b g⟩ := by
  obtain ⟨nb, n, hR⟩ := hall i hi
  have hgN : g.pl.N = N := by show g.N.toNat = N; rw [hN]; rfl
  have hRl : g.R.length = N := by have h := hinv.lR; rw [hgN] at h; rw [← h]; exact (List.length_map ..).symm
  have hSl : g.S.length = N := by have h := hinv.lS; rw [hgN] at h; rw [← h]; exact (List.length_map ..).symm
  have hDl : g.D.length = N := by have h := hinv.lD; rw [hgN] at h; rw [← h]; exact (List.length_map ..).symm
  have hnd : g.pl.R.getD i default = n.nd := by
    show (g.R.map RN.pl).getD i default = _
    rw [List.getD_eq_getElem?_getD, List.getElem?_map, hR]
    rfl
  have hn := hinv.nd i (by rw [hgN]; exact hi)
  rw [hnd] at hn
  have hsv := hinv.sv i (by rw [hgN]; exact hi)
  rw [getS_pl g (by omega)] at hsv
  have hst := st1_eq g.pl i
  rw [hnd, getS_pl g (by omega)] at hst
  have hrf := Rf.ready_fit hn
  have hRi := encR_at hR
  unfold b1
  refine go_ok _ 9 _ _ ?_
  simp only [go_sem, Nat.reduceBEq, Nat.zero_add, Int.toNat_natCast]
  refine ⟨⟨by omega, by omega, Nat.le_refl _⟩, ?_⟩
  refine go_ok _ 1 _ _ ?_
  simp only [go_sem, hRi, Nat.reduceBEq]
  refine ⟨⟨by omega, by decide⟩, ?_⟩
  refine (stp_call [0, 1, 2, 3, 4, 5, 6, 7, 8] (args := [.ptr 0 nb 0]) rfl rfl rfl ⟨_, Try.func16, rfl, rfl⟩ (Spec.node ((c16p nb n hn hK hj).post (Post' := fun v hp => ∃ N : NL, (∃ r : RdL, v = .agg (encRd r) ∧ r.pl = n.nd.ready.1 ∧ N.nd = n.nd.ready.2) ∧ hp = nO nb N) fun v hp ⟨r, N, h1, h2, h3, h4⟩ => ⟨N, ⟨r, h1, h2, h3⟩, h4⟩) b g hR) rfl (fun _ h => h) rfl (fun _ _ h => h) ?_).safe trivial
  rintro v hp ⟨n1, ⟨r, rfl, hr, hn1⟩, rfl⟩
  have hg1R : (g.setR i nb n1).R = g.R.set i (some (nb, n1)) := rfl
  have hg1S : (g.setR i nb n1).S = g.S := rfl
  have hg1D : (g.setR i nb n1).D = g.D := rfl
  have hg1n : (g.setR i nb n1).net = g.net := rfl
  have hg1a : (g.setR i nb n1).al = g.al := rfl
  have hg1l : (g.setR i nb n1).ld = g.ld := rfl
  have hg1N : (g.setR i nb n1).N = g.N := rfl
  have hg1o : (g.setR i nb n1).ok = g.ok := rfl
  generalize g.setR i nb n1 = g1 at *
  rw [← hr] at hst hrf
  refine ⟨trivial, go_ok _ 10 _ _ ?_⟩
  simp only [go_sem, k29, List.cons_append, List.nil_append, Nat.reduceBEq, Nat.reduceAdd, Nat.zero_add]
  intro b6
  have hiS : i < g1.S.length := by rw [hg1S]; omega
  have hiD : i < g1.D.length := by rw [hg1D]; omega
  have hsS : g.S.getD i default = g1.S.getD i default := by rw [hg1S]
  rw [hsS] at hst hsv
  generalize hsv0 : g1.S.getD i default = s at hst hsv
  refine go_ok _ 3 _ _ ?_
  simp only [go_sem, hsv0, List.cons_append, List.nil_append, Nat.reduceBEq, Nat.reduceAdd, Nat.zero_add, Int.toNat_natCast]
  refine ⟨⟨by omega, by omega, Nat.le_refl _⟩, ⟨hiS, by decide⟩, fun b7 => ?_⟩
  refine go_ok _ 3 _ _ ?_
  simp only [go_sem, k29, List.nil_append, Nat.reduceBEq, Nat.reduceAdd, Nat.zero_add]
  have hdn : g.pl.done.getD i [] = (g1.D.getD i default).xs.map Ent.pl := by
    show (g.D.map fun d => d.xs.map Ent.pl).getD i [] = _
    rw [← hg1D, List.getD_eq_getElem?_getD, List.getD_eq_getElem?_getD, List.getElem?_map, List.getElem?_eq_getElem hiD]
    rfl
  have hall1 : g.pl.all = g1.al.map Ent.pl := by rw [hg1a]; rfl
  rw [hdn, hall1] at hst
  have halK : g1.al.length ≤ K := by
    have h := hinv.al
    rw [hall1, List.length_map] at h
    exact h
  have hdl : (g1.D.getD i default).xs.length ≤ g1.al.length := by
    have h := hinv.dn i (by rw [hgN]; exact hi)
    rw [hdn, hall1, List.length_map, List.length_map] at h
    exact h
  have hsnap : ∀ m d, r.pl.snap = some (m, d) → 0 ≤ m.ix ∧ m.ix ≤ K ∧ m.vs.length ≤ 7 ∧ d.length ≤ 2 ^ 23 := hrf.sn
  refine safe_code_mid (ι := {p : SvL × DnL // snapR (g1.al.map Ent.pl) ((g1.D.getD i default).xs.map Ent.pl) s.pl r.pl.snap = some (p.1.pl, p.2.xs.map Ent.pl)}) (fun p => ⟨[(0, .ptr 0 b 0), (1, I i), (5, I cc), (6, .ptr 9 b6 0), (7, .ptr 10 b7 0)], gO b { g1 with D := g1.D.set i p.1.2 } ++ [.cells b6 40 (encRd r), .cells b7 108 (encS p.1.1)]⟩) ?_ ?_
  · rintro ⟨⟨s1, d1⟩, h1⟩
    dsimp only at h1
    obtain ⟨hs1, hd1⟩ := snapR_okk h1 hsv hsnap (by rw [List.length_map, List.length_map]; exact hdl)
    rw [List.length_map, List.length_map] at hd1
    rw [h1] at hst
    dsimp only [Option.bind_some] at hst
    refine go_ok _ 5 _ _ ?_
    simp only [go_sem, k29, List.cons_append, List.nil_append, Nat.reduceBEq]
    have hes : r.pl.es = r.es.xs.map Ent.pl := rfl
    refine safe_q4 hK hs1 (fun e he => hrf.es e.pl (List.mem_map_of_mem he)) ?_ hb (fun h => ?_) fun s2 h2 => ?_
    · have h := hrf.el
      rw [hes, List.length_map] at h
      omega
    · rw [hes, h] at hst
      exact hno hst
    rw [hes, h2] at hst
    dsimp only [Option.bind_some] at hst
    refine go_ok _ 1 _ _ ?_
    simp only [go_sem]
    refine safe_h5 hb (fun h => ?_) fun s3 h3 => ?_
    · rw [h] at hst
      exact hno hst
    rw [h3] at hst
    dsimp only [Option.bind_some] at hst
    generalize hL : g1.D.set i d1 = L
    have hLl : L.length = g1.D.length := by rw [← hL]; exact List.length_set ..
    have hnl : g1.net.length ≤ J := by
      have h := hinv.nl
      have e : g.pl.net.length = g.net.length := List.length_map ..
      rw [hg1n]; omega
    have hml : r.ms.xs.length ≤ j := by
      have h := hrf.ml
      have e : r.pl.ms.length = r.ms.xs.length := List.length_map ..
      omega
    refine go_ok _ 9 _ _ ?_
    simp only [go_sem, Nat.reduceBEq, Nat.zero_add, Int.toNat_natCast]
    refine ⟨⟨by omega, by omega, Nat.le_refl _⟩, ?_⟩
    refine go_ok _ 2 _ _ ?_
    simp only [go_sem, k29, List.nil_append, Nat.reduceBEq, Nat.reduceAdd, Nat.zero_add]
    refine ⟨⟨hiS, by decide⟩, ?_⟩
    refine go_ok _ 9 _ _ ?_
    simp only [go_sem, Nat.reduceBEq, Nat.zero_add]
    have hnml : (g1.net ++ r.ms.xs).length = g1.net.length + r.ms.xs.length := List.length_append ..
    refine (stp_app2 (c := 3) (b := g1.nw.b) (off := g1.nw.off) (nl := g1.nw.nl) (n := g1.net.length) (cap := g1.nw.cap) (gx := rowsV encM r.ms.xs) (m := r.ms.xs.length) (f := rowsV encM g1.net) (f2 := rowsV encM (g1.net ++ r.ms.xs)) (N := g1.net.length + r.ms.xs.length) rfl rfl rfl rfl rfl (onesF_rows fun x => ⟨rfl, by simp [encM, ones, one, Value.oneCell']⟩) (by omega) rfl (fun a j ha hj => ?_) fun nl3 b3 off3 cap3 => ?_).safe trivial
    · rw [← appF_rows]
    refine ⟨by simp only [recheck, recheck1, go_sem, Nat.reduceBEq], ?_⟩
    refine go_ok _ 8 _ _ ?_
    simp only [go_sem, k29, List.nil_append, Nat.reduceBEq, Nat.zero_add]
    have hLi : L[i]? = some d1 := by rw [← hL]; exact List.getElem?_set_self hiD
    have hcs : r.pl.cs = r.cs.xs.map Ent.pl := rfl
    refine Safe.sub (st' := ⟨[(0, .ptr 0 b 0), (1, I i), (5, I cc), (6, .ptr 9 b6 0), (12, I 0)], [.cells b 63 [g1.rw.sv 1 g1.R.length, g1.sw.sv 2 g1.S.length, .osl 3 nl3 b3 off3 (g1.net.length + r.ms.xs.length) cap3, .osl 4 g1.dw.nl g1.dw.b g1.dw.off L.length g1.dw.cap, g1.aw.sv 5 g1.al.length, g1.lw.sv 6 g1.ld.length, I g1.N, Bl g1.ok],
      g1.rw.ch 24 1 encR g1.R, .row g1.sw.nl g1.sw.b 108 g1.sw.off 8 g1.S.length g1.sw.cap (updF (rowsV encS g1.S) i 0 (encS s3)), .row nl3 b3 54 off3 15 (g1.net.length + r.ms.xs.length) cap3 (rowsV encM (g1.net ++ r.ms.xs)),
      .row g1.dw.nl g1.dw.b 36 g1.dw.off 1 L.length g1.dw.cap (updF (rowsV encD L) i 0 [d1.w.sv 11 d1.xs.length]), g1.aw.ch 43 4 encE g1.al, g1.lw.ch 3 1 encI g1.ld, sepC (g1.R.map RN.ch), sepC (setC (L.map DnL.ch) i .emp), .cells b6 40 (encRd r), .cells b7 108 (encS s3), d1.w.ch 43 4 encE d1.xs]⟩) ⟨?_, ?_⟩ ?_
    · intro t s ht
      exact ⟨s, envSub_ok (env := [(0, .ptr 0 b 0), (1, I i), (5, I cc), (6, .ptr 9 b6 0), (7, .ptr 10 b7 0), (12, I 0)]) (env' := [(0, .ptr 0 b 0), (1, I i), (5, I cc), (6, .ptr 9 b6 0), (12, I 0)]) ⟨rfl, rfl, rfl, rfl, rfl, trivial⟩ t s ht, rfl, fun _ h => h⟩
    · exact Sees.dnOut (X := [.cells b6 40 (encRd r), .cells b7 108 (encS s3)]) hLi
    refine safe_q6 hK (by omega) hd1 halK (fun e he => (hrf.cs e.pl (List.mem_map_of_mem he)).2.2) ?_ hb (fun h => ?_) fun w' xs' aw' al' h4 => ?_
    · have h := hrf.cl
      rw [hcs, List.length_map] at h
      omega
    · rw [hcs, h] at hst
      exact hno hst
    rw [hcs, h4] at hst
    dsimp only [Option.bind_some] at hst
    refine go_ok _ 1 _ _ ?_
    simp only [go_sem]
    have h5 := hyes { g1 with S := g1.S.set i s3, nw := ⟨nl3, b3, off3, cap3⟩, net := g1.net ++ r.ms.xs, D := L.set i ⟨w', xs'⟩, aw := aw', al := al' } ?_ hg1o hg1N ?_
    · refine Safe.sub ?_ h5
      refine ⟨fun t s ht => ⟨s, ht, rfl, fun _ h => h⟩, ?_⟩
      have hsee := Sees.dnIn (A0 := .cells b 63 [g1.rw.sv 1 g1.R.length, g1.sw.sv 2 g1.S.length, .osl 3 nl3 b3 off3 (g1.net.length + r.ms.xs.length) cap3, .osl 4 g1.dw.nl g1.dw.b g1.dw.off L.length g1.dw.cap, aw'.sv 5 al'.length, g1.lw.sv 6 g1.ld.length, I g1.N, Bl g1.ok]) (A1 := g1.rw.ch 24 1 encR g1.R) (A2 := .row g1.sw.nl g1.sw.b 108 g1.sw.off 8 g1.S.length g1.sw.cap (updF (rowsV encS g1.S) i 0 (encS s3))) (A3 := .row nl3 b3 54 off3 15 (g1.net.length + r.ms.xs.length) cap3 (rowsV encM (g1.net ++ r.ms.xs))) (A5 := aw'.ch 43 4 encE al') (A6 := g1.lw.ch 3 1 encI g1.ld) (A7 := sepC (g1.R.map RN.ch)) (X := [.cells b6 40 (encRd r), .cells b7 108 (encS s3)]) (D := L) (i := i) (dc := 11) (n := xs'.length) (dnl := g1.dw.nl) (db := g1.dw.b) (doff := g1.dw.off) (dcap := g1.dw.cap) (d := ⟨w', xs'⟩) (by omega) rfl
      refine Sees.trans hsee (Sees.trans Sees.left ?_)
      have e1 : (L.set i ⟨w', xs'⟩).length = L.length := List.length_set ..
      have e2 : (g1.S.set i s3).length = g1.S.length := List.length_set ..
      simp only [gO, GL.cs, Rw.ch, Rw.sv, e1, e2, hnml]
      exact Sees.same (Sees.same (Sees.cons (fun ro H hh => ⟨H, [], by simp, row_set (enc := encS) (xs := g1.S) (y := s3) (cs := encS s3) (sz := 8) hiS rfl rfl (fun j hj => ⟨rfl, fun _ h => h⟩) hh⟩) (Sees.refl _)))
    · rw [hst]
      congr 1
      have e1 : g.pl.R.set i n.nd.ready.2 = g1.R.map RN.pl := by
        rw [hg1R, pl_set, ← hn1]
        rfl
      have e2 : g.pl.S.set i s3.pl = (g1.S.set i s3).map SvL.pl := by rw [pl_set, hg1S]; rfl
      have e3 : g.pl.net ++ r.pl.ms = (g1.net ++ r.ms.xs).map MsL.pl := by rw [List.map_append, hg1n]; rfl
      have e4 : g.pl.done.set i (xs'.map Ent.pl) = (L.set i ⟨w', xs'⟩).map fun d => d.xs.map Ent.pl := by
        rw [← hL, List.set_set, pl_set, hg1D]
        rfl
      rw [e1, e2, e3, e4]
      have e5 : g.pl.lead = g1.ld := by rw [hg1l]; rfl
      have e6 : g.pl.N = g1.N.toNat := by rw [hg1N]; rfl
      rw [e5, e6]
      rfl
    · intro a ha
      rw [hg1R]
      exact GL.full.set hall hRl a ha
  · intro hrest
    refine safe_h3 hK hiD hsv (fun hsn => ?_) halK hb (fun hsn hlt => ?_) (fun hsn => ?_) fun hsn hle w s' hs' => ?_
    · have e : r.pl.snap = some (⟨r.mi, r.mm, r.mv.xs⟩, r.d.xs) := by unfold RdL.pl; rw [hsn]; rfl
      exact (hsnap _ _ e).1
    · have e : r.pl.snap = some (⟨r.mi, r.mm, r.mv.xs⟩, r.d.xs) := by unfold RdL.pl; rw [hsn]; rfl
      rw [e, snapR, List.length_map, if_pos hlt] at hst
      exact hno hst
    · have e : r.pl.snap = none := by unfold RdL.pl; rw [hsn]; rfl
      refine Safe.sub ?_ (hrest ⟨(s, g1.D.getD i default), by rw [e]; rfl⟩)
      refine Sub.front (X := []) (by simp [envSub, look]) ?_
      have e2 : g1.D.set i (g1.D.getD i default) = g1.D := by
        rw [List.getD_eq_getElem?_getD, List.getElem?_eq_getElem hiD]
        exact List.set_getElem_self hiD
      simp only [e2]
      rfl
    · have e : r.pl.snap = some (⟨r.mi, r.mm, r.mv.xs⟩, r.d.xs) := by unfold RdL.pl; rw [hsn]; rfl
      refine Safe.sub ?_ (hrest ⟨(s', ⟨w, g1.al.take r.mi.toNat⟩), by rw [e, snapR, List.length_map, if_neg (by dsimp only; omega), hs', List.map_take]⟩)
      refine ⟨fun t s ht => ⟨s, ht, rfl, fun _ h => h⟩, ?_⟩
      have htl : (g1.al.take r.mi.toNat).length = r.mi.toNat := by rw [List.length_take]; omega
      have hsee := Sees.dnSwap (A0 := .cells b 63 g1.cs) (A1 := g1.rw.ch 24 1 encR g1.R) (A2 := g1.sw.ch 108 8 encS g1.S) (A3 := g1.nw.ch 54 15 encM g1.net) (A5 := g1.aw.ch 43 4 encE g1.al) (A6 := g1.lw.ch 3 1 encI g1.ld) (A7 := sepC (g1.R.map RN.ch)) (X := [.cells b6 40 (encRd r), .cells b7 108 (encS s')]) (D := g1.D) (i := i) (dc := 12) (n := r.mi.toNat) (dnl := g1.dw.nl) (db := g1.dw.b) (doff := g1.dw.off) (dcap := g1.dw.cap) (d := ⟨w, g1.al.take r.mi.toNat⟩) hiD htl.symm
      have ech : DnL.ch ⟨w, g1.al.take r.mi.toNat⟩ = .row w.nl w.b 43 w.off 4 r.mi.toNat w.cap (rowsV encE (g1.al.take r.mi.toNat)) := by
        unfold DnL.ch Rw.ch
        dsimp only
        rw [htl]
      rw [ech] at hsee
      have hset : (g1.D.set i ⟨w, g1.al.take r.mi.toNat⟩).length = g1.D.length := List.length_set ..
      rw [hset] at hsee
      simp only [gO, GL.cs, Rw.ch, hset]
      exact hsee
end Go.SX

/- Raft: what a node tells is saved and done: 'settle'. -/
namespace Go.SX
open Go.Proofs
set_option maxRecDepth 1000000
variable {E : Env}

def stN (i : Nat) : Nat → Rf.Gr → Option Rf.Gr
  | 0, g => some g
  | n + 1, g => (g.settle1 i).bind (stN i n)
theorem settle3_stN (g : Rf.Gr) (i : Nat) : g.settle3 i = stN i 3 g := by
  unfold Rf.Gr.settle3
  simp only [stN, Option.bind_assoc]
  congr 1
  funext a
  congr 1
  funext c
  cases c.settle1 i <;> rfl
theorem safe_q8b {P : SV → List Chunk → Prop} {b i : Nat} {t : Int} {A1 A2 A3 A4 A5 A7 A8 : Chunk} {x0 x1 x2 x3 x4 x6 x7 : SV} {lw : Rw} {ld : List Int} {k : List Frag} (ht : ¬ t < 5000) (hb : (botK k).isNone = true)
    (hyes : Safe (S29 E P) k ⟨[(0, .ptr 0 b 0), (1, I i), (15, I t)], [.cells b 63 [x0, x1, x2, x3, x4, lw.sv 6 ld.length, x6, x7], A1, A2, A3, A4, A5, lw.ch 3 1 encI ld, A7, A8]⟩) :
    Safe (S29 E P) (.code q8 :: k) ⟨[(0, .ptr 0 b 0), (1, I i), (15, I t)], [.cells b 63 [x0, x1, x2, x3, x4, lw.sv 6 ld.length, x6, x7], A1, A2, A3, A4, A5, lw.ch 3 1 encI ld, A7, A8]⟩ := by
  unfold q8
  refine go_ok _ 1 _ _ ?_
  simp only [go_sem]
  refine safe_loop (ι := Unit) (fun _ => ⟨[(0, .ptr 0 b 0), (1, I i), (15, I t)], [.cells b 63 [x0, x1, x2, x3, x4, lw.sv 6 ld.length, x6, x7], A1, A2, A3, A4, A5, lw.ch 3 1 encI ld, A7, A8]⟩) (fun _ => 0)
    () (Sub.front (X := []) ⟨rfl, rfl, rfl, trivial⟩ rfl) ?_
  rintro ⟨⟩
  have d2 : decide (t < 5000) = false := decide_eq_false ht
  refine go_ok _ 10 _ _ ?_
  simp only [go_sem, Rw.sv, Nat.reduceBEq, Nat.zero_add]
  rcases h1 : decide (((ld.length : Nat) : Int) ≤ t) with _ | _
  · refine go_ok _ 7 _ _ ?_
    simp only [go_sem, k29, d2, List.cons_append, List.nil_append, Nat.reduceBEq]
    refine Safe.sub ?_ hyes
    exact Sub.front (X := []) (by simp [envSub, look]) rfl
  · refine go_ok _ 7 _ _ ?_
    simp only [go_sem, k29, d2, List.cons_append, List.nil_append, Nat.reduceBEq]
    first | (refine Safe.sub ?_ hyes; exact Sub.front (X := []) (by simp [envSub, look]) rfl) | (refine ⟨fun h => by cases h, ?_⟩; refine Safe.sub ?_ hyes; exact Sub.front (X := []) (by simp [envSub, look]) rfl) | trace_state
structure W29 (g0 : GL) (i N K j J : Nat) where
  c : Nat
  hc : c ≤ 3
  g : GL
  inv : g.pl.inv K j (J + c * j)
  N' : g.N = N
  ok : g.ok = g0.ok
  full : g.full N
  eq : g0.pl.settle3 i = stN i (3 - c) g.pl
theorem setR_same {g : GL} {i nb : Nat} {n : NL} (h : g.R[i]? = some (some (nb, n))) : g.setR i nb n = g := by
  obtain ⟨hi, h2⟩ := List.getElem?_eq_some_iff.1 h
  have e : g.R.set i (some (nb, n)) = g.R := by rw [← h2]; exact List.set_getElem_self hi
  unfold GL.setR
  rw [e]
set_option maxHeartbeats 8000000 in
theorem c29p (b : Nat) (g : GL) {i N K j J : Nat} (hK : K ≤ 2 ^ 30) (hj : j ≤ 2 ^ 20) (hJ : J ≤ 2 ^ 26) (hN : g.N = N) (hi : i < N) (hinv : g.pl.inv K j J) (hall : g.full N) :
    Spec Try.prog E 29 [.ptr 0 b 0, I i] (gO b g) (fun v hp => (g.pl.settleG i = none ∧ v = Bl false) ∨ (v = Bl true ∧ ∃ g' : GL, g.pl.settleG i = some g'.pl ∧ g'.ok = g.ok ∧ g'.N = N ∧ g'.full N ∧ hp = gO b g')) := by
  refine Spec.see2 ?_
  generalize hP : SeeP _ = P
  have fin0 : g.pl.settleG i = none → ∀ hp, P (Bl false) hp := fun h hp => by
    rw [← hP]
    exact ⟨Bl false, hp, rfl, fun _ h => h, Sees.refl _, .inl ⟨h, rfl⟩⟩
  have fin1 : ∀ (g' : GL) {X hp : List Chunk}, g.pl.settleG i = some g'.pl → g'.ok = g.ok → g'.N = N → g'.full N → Sees hp (gO b g') → P (Bl true) hp := fun g' X hp h1 h2 h3 h4 h5 => by
    rw [← hP]
    exact ⟨Bl true, gO b g', rfl, fun _ h => h, h5, .inr ⟨rfl, g', h1, h2, h3, h4, rfl⟩⟩
  refine spec_of (keep := k29) (args' := [.ptr 0 b 0, I i]) Try.func29 rfl Try.ntmps29 s29_ok (by simp) ⟨rfl, fun _ h => h⟩ (fun _ _ h => h) (go_ok _ 100 _ _ ?_)
  simp only [go_sem, s29_b, k29, Nat.reduceBEq, Nat.zero_add]
  refine safe_loop (ι := W29 g i N K j J) (fun w => ⟨[(0, .ptr 0 b 0), (1, I i), (5, I w.c)], gO b w.g⟩) (fun w => 3 - w.c)
    ⟨0, by decide, g, by rw [Nat.zero_mul, Nat.add_zero]; exact hinv, hN, rfl, hall, settle3_stN _ _⟩ (Sub.front (X := []) (by simp [envSub, look]) rfl) ?_
  rintro ⟨c, hc, G, inv, hGN, hGo, hGf, heq⟩
  have hset : g.pl.settleG i = (stN i (3 - c) G.pl).bind fun g => g.led i := by rw [Rf.Gr.settleG, heq]
  have hJc : J + c * j ≤ 2 ^ 28 := by
    have : c * j ≤ 3 * j := Nat.mul_le_mul_right j hc
    omega
  refine go_ok _ 8 _ _ ?_
  simp only [go_sem, List.cons_append, List.nil_append, Nat.reduceBEq]
  refine ⟨fun hlc => ?_, fun hlc => ?_⟩
  · have hlt : c < 3 := by have := of_decide_eq_true hlc; omega
    refine go_ok _ 1 _ _ ?_
    simp only [go_sem]
    refine Safe.sub (st' := ⟨[(0, .ptr 0 b 0), (1, I i), (5, I c)], gO b G⟩) (Sub.front (X := []) (by simp [envSub, look]) rfl) ?_
    refine safe_b1 G hK (by omega) hJc hGN hi inv hGf ?_ (fun h => ?_) fun G' h1 h2 h3 h4 => ?_
    · rfl
    · refine fin0 ?_
      rw [hset, show 3 - c = (3 - (c + 1)) + 1 by omega, stN, h]
      rfl
    · refine go_ok _ 5 _ _ ?_
      simp only [go_sem, k29, Nat.reduceBEq]
      refine ⟨by simp only [inI64]; omega, ?_⟩
      obtain ⟨inv', _, _, _⟩ := Rf.settle1_inv inv (by show i < G.N.toNat; rw [hGN]; omega) h1
      refine safe_lend (⟨c + 1, hlt, G', ?_, h3.trans hGN, h2.trans hGo, h4, ?_⟩ : W29 g i N K j J) (by simp only; omega) (Sub.front (X := []) (by simp [envSub, look]) rfl)
      · rw [Nat.add_mul, Nat.one_mul, ← Nat.add_assoc]
        exact inv'
      · rw [heq, show 3 - c = (3 - (c + 1)) + 1 by omega, stN, h1]
        rfl
  · have hcl : c = 3 := by have := of_decide_eq_false hlc; omega
    subst hcl
    simp only [Nat.sub_self, stN, Option.bind_some] at hset
    obtain ⟨nb, n, hR⟩ := hGf i hi
    have hRi := encR_at hR
    have hGN' : G.pl.N = N := by show G.N.toNat = N; rw [hGN]; rfl
    have hRl : G.R.length = N := by have h := inv.lR; rw [hGN'] at h; rw [← h]; exact (List.length_map ..).symm
    have hnd : G.pl.R.getD i default = n.nd := by
      show (G.R.map RN.pl).getD i default = _
      rw [List.getD_eq_getElem?_getD, List.getElem?_map, hR]
      rfl
    have hn := inv.nd i (by rw [hGN']; exact hi)
    rw [hnd] at hn
    have hld : G.ld.length ≤ 5000 := inv.ld
    have ht0 : 0 ≤ n.nd.hd.tm := hn.h0
    have hled : G.pl.led i = if n.nd.role = 2 ∧ n.nd.hd.tm < 5000 then (if 0 ≤ (G.ld ++ List.replicate (n.nd.hd.tm.toNat + 1 - G.ld.length) (-1)).getD n.nd.hd.tm.toNat 0 ∧ (G.ld ++ List.replicate (n.nd.hd.tm.toNat + 1 - G.ld.length) (-1)).getD n.nd.hd.tm.toNat 0 ≠ (i : Int) then none
      else some { G.pl with lead := (G.ld ++ List.replicate (n.nd.hd.tm.toNat + 1 - G.ld.length) (-1)).set n.nd.hd.tm.toNat i }) else some G.pl := by
      unfold Rf.Gr.led
      rw [hnd]
      rfl
    rw [hled] at hset
    refine go_ok _ 9 _ _ ?_
    simp only [go_sem, Nat.reduceBEq, Nat.zero_add, Int.toNat_natCast]
    refine ⟨⟨by omega, by omega, Nat.le_refl _⟩, ?_⟩
    refine go_ok _ 1 _ _ ?_
    simp only [go_sem, hRi, Nat.reduceBEq]
    refine ⟨⟨by omega, by decide⟩, ?_⟩
    refine (stp_call [0, 1, 2, 3, 4, 5, 6, 7, 8] (args := [.ptr 0 nb 0]) rfl rfl rfl ⟨_, Try.func14, rfl, rfl⟩ (Spec.node ((c14n nb n).post (Post' := fun v hp => ∃ N : NL, (v = I n.nd.role ∧ N = n) ∧ hp = nO nb N) fun v hp ⟨h1, h2⟩ => ⟨n, ⟨h1, rfl⟩, h2⟩) b G hR) rfl (fun _ h => h) rfl (fun _ _ h => h) ?_).safe trivial
    rintro v hp ⟨n', ⟨rfl, hn'⟩, rfl⟩
    rw [hn', setR_same hR]
    refine ⟨trivial, go_ok _ 4 _ _ ?_⟩
    simp only [go_sem, List.cons_append, List.nil_append, Nat.reduceBEq]
    refine ⟨fun h1 => ?_, fun h1 => ?_⟩
    · have hro : n.nd.role = 2 := of_decide_eq_true h1
      refine go_ok _ 9 _ _ ?_
      simp only [go_sem, hRi, Nat.reduceBEq, Nat.zero_add, Int.toNat_natCast]
      refine ⟨⟨by omega, by omega, Nat.le_refl _⟩, ⟨by omega, by decide⟩, ?_⟩
      refine (stp_call [0, 1, 2, 3, 4, 5, 6, 7, 8] (args := [.ptr 0 nb 0]) rfl rfl rfl ⟨_, Try.func19, rfl, rfl⟩ (Spec.node ((c19n nb n).post (Post' := fun v hp => ∃ N : NL, (v = .agg [I n.nd.hd.tm, I n.nd.hd.vote, I n.nd.hd.cm] ∧ N = n) ∧ hp = nO nb N) fun v hp ⟨h1, h2⟩ => ⟨n, ⟨h1, rfl⟩, h2⟩) b G hR) rfl (fun _ h => h) rfl (fun _ _ h => h) ?_).safe trivial
      rintro v hp ⟨n', ⟨rfl, hn'⟩, rfl⟩
      rw [hn', setR_same hR]
      obtain ⟨tq, htq⟩ : ∃ tq : Nat, n.nd.hd.tm = tq := ⟨n.nd.hd.tm.toNat, by omega⟩
      rw [htq] at hset ⊢
      rw [Int.toNat_natCast] at hset
      refine ⟨trivial, go_ok _ 4 _ _ ?_⟩
      simp only [go_sem, List.cons_append, List.nil_append, Nat.reduceBEq]
      refine Safe.sub (st' := ⟨[(0, .ptr 0 b 0), (1, I i), (15, I tq)], gO b G⟩) (Sub.front (X := []) (by simp [envSub, look]) rfl) ?_
      by_cases h5 : tq < 5000
      · rw [if_pos ⟨hro, by omega⟩] at hset
        refine safe_q8 hld h5 ?_ fun w => ?_
        · rfl
        have hxl := rep_len G.ld (tq + 1 - G.ld.length)
        generalize hX : G.ld ++ List.replicate (tq + 1 - G.ld.length) (-1) = X at hset hxl
        have hX2 : tq < X.length := by omega
        refine go_ok _ 6 _ _ ?_
        simp only [go_sem, k29, List.cons_append, List.nil_append, Nat.reduceBEq]
        refine ⟨fun _ => ?_, fun h => absurd (of_decide_eq_false h) (by omega)⟩
        have hix : (0 ≤ (tq : Int) ∧ (tq : Int) < X.length ∧ X.length ≤ X.length) ∧ (tq < X.length ∧ 0 < 1) := ⟨⟨by omega, by omega, Nat.le_refl _⟩, hX2, by decide⟩
        have fin2 : ¬ (0 ≤ X.getD tq 0 ∧ X.getD tq 0 ≠ (i : Int)) → ∀ hp, Sees hp (gO b { G with lw := w, ld := X.set tq i }) → P (Bl true) hp := fun hc hp hsee => by
          rw [if_neg hc] at hset
          exact fin1 { G with lw := w, ld := X.set tq i } (X := []) hset hGo hGN hGf hsee
        have hsee : Sees [.cells b 63 [G.rw.sv 1 G.R.length, G.sw.sv 2 G.S.length, G.nw.sv 3 G.net.length, G.dw.sv 4 G.D.length, G.aw.sv 5 G.al.length, w.sv 6 X.length, I G.N, Bl G.ok], G.rw.ch 24 1 encR G.R, G.sw.ch 108 8 encS G.S, G.nw.ch 54 15 encM G.net, G.dw.ch 36 1 encD G.D, G.aw.ch 43 4 encE G.al, .row w.nl w.b 3 w.off 1 X.length w.cap (updF (rowsV encI X) tq 0 [I i]), sepC (G.R.map RN.ch), sepC (G.D.map DnL.ch)] (gO b { G with lw := w, ld := X.set tq i }) := by
          have e1 : (X.set tq (i : Int)).length = X.length := List.length_set ..
          simp only [gO, GL.cs, Rw.ch, Rw.sv, e1]
          exact Sees.same (Sees.same (Sees.same (Sees.same (Sees.same (Sees.same (Sees.cons (fun ro H hh => ⟨H, [], by simp, row_set (enc := encI) (xs := X) (y := (i : Int)) (cs := [I i]) (sz := 1) hX2 rfl rfl (fun j hj => by
            obtain rfl : j = 0 := by omega
            exact ⟨rfl, fun _ h => h⟩) hh⟩) (Sees.refl _)))))))
        rcases d1 : decide (0 ≤ X.getD tq 0) with _ | _
        · refine go_ok _ 60 _ _ ?_
          simp only [go_sem, k29, d1, Try.results29, List.cons_append, List.nil_append, Nat.reduceBEq, Nat.zero_add, Int.toNat_natCast]
          exact ⟨hix.1, hix.2, hix.1, ⟨hX2, by decide⟩, fin2 (fun h => of_decide_eq_false d1 h.1) _ hsee⟩
        · rcases d2 : decide (X.getD tq 0 ≠ (i : Int)) with _ | _
          · refine go_ok _ 60 _ _ ?_
            simp only [go_sem, k29, d1, d2, Try.results29, List.cons_append, List.nil_append, Nat.reduceBEq, Nat.zero_add, Int.toNat_natCast]
            exact ⟨hix.1, hix.2, hix.1, hix.2, hix.1, ⟨hX2, by decide⟩, fin2 (fun h => of_decide_eq_false d2 h.2) _ hsee⟩
          · refine go_ok _ 60 _ _ ?_
            simp only [go_sem, k29, d1, d2, Try.results29, List.cons_append, List.nil_append, Nat.reduceBEq, Nat.zero_add, Int.toNat_natCast]
            refine ⟨hix.1, hix.2, hix.1, hix.2, fin0 ?_ _, fun h => by cases h⟩
            rw [hset, if_pos ⟨of_decide_eq_true d1, of_decide_eq_true d2⟩]
      · rw [if_neg (fun h => by omega)] at hset
        refine safe_q8b (by omega) ?_ ?_
        · rfl
        refine go_ok _ 20 _ _ ?_
        simp only [go_sem, k29, Try.results29, List.cons_append, List.nil_append, Nat.reduceBEq, Nat.zero_add, Int.toNat_natCast]
        exact ⟨fun h => absurd (of_decide_eq_true h) (by omega), fun _ => fin1 G (X := []) hset hGo hGN hGf (Sees.refl _)⟩
    · have hro : ¬ (n.nd.role = 2 ∧ n.nd.hd.tm < 5000) := fun h => of_decide_eq_false h1 h.1
      rw [if_neg hro] at hset
      refine go_ok _ 10 _ _ ?_
      simp only [go_sem, Try.results29, List.nil_append, Nat.reduceBEq]
      exact fin1 G (X := []) hset hGo hGN hGf (Sees.refl _)
end Go.SX

/- Raft: a quiet round. -/
namespace Go.SX
open Go.Proofs
set_option maxRecDepth 1000000
variable {E : Env}

/-- a contract of a node's, over the group, plainly -/
theorem Spec.nodeG {f : FuncId} {args : List SV} {nb : Nat} {n : NL} {Q : SV → Prop} {F : Rf.Nd} (h : Spec Try.prog E f args (nO nb n) (fun v hp => Q v ∧ ∃ n' : NL, n'.nd = F ∧ hp = nO nb n')) (b : Nat) (g : GL) {i N : Nat} (hi : g.R[i]? = some (some (nb, n))) (hf : g.full N) (hl : g.R.length = N) :
    Spec Try.prog E f args (gO b g) (fun v hp => Q v ∧ ∃ g' : GL, g'.pl = g.pl.setN i F ∧ g'.ok = g.ok ∧ g'.N = g.N ∧ g'.full N ∧ hp = gO b g') := by
  refine (Spec.node (Q := fun v n' => Q v ∧ n'.nd = F) (h.post ?_) b g hi).post ?_
  · rintro v hp ⟨h1, n', h2, h3⟩
    exact ⟨n', ⟨h1, h2⟩, h3⟩
  · rintro v hp ⟨n', ⟨h1, h2⟩, rfl⟩
    refine ⟨h1, g.setR i nb n', ?_, rfl, rfl, GL.full.set hf hl, rfl⟩
    unfold GL.setR GL.pl Rf.Gr.setN
    dsimp only
    rw [pl_set, ← h2]
    rfl
/-- the invariant over the group in memory -/
structure GL.good (g : GL) (N K j J : Nat) : Prop where
  inv : g.pl.inv K j J
  N' : g.N = N
  full : g.full N
theorem GL.good.plN {g : GL} {N K j J : Nat} (h : g.good N K j J) : g.pl.N = N := by show g.N.toNat = N; rw [h.N']; rfl
theorem GL.good.Rl {g : GL} {N K j J : Nat} (h : g.good N K j J) : g.R.length = N := by
  have q := h.inv.lR
  rw [h.plN] at q
  rw [← q]; exact (List.length_map ..).symm
theorem GL.good.node {g : GL} {N K j J i : Nat} (h : g.good N K j J) (hi : i < N) : ∃ nb n, g.R[i]? = some (some (nb, n)) ∧ rowsV encR g.R i 0 = .ptr 0 nb 0 ∧ g.pl.R.getD i default = n.nd ∧ n.nd.inv K j := by
  obtain ⟨nb, n, hR⟩ := h.full i hi
  have e : g.pl.R.getD i default = n.nd := by
    show (g.R.map RN.pl).getD i default = _
    rw [List.getD_eq_getElem?_getD, List.getElem?_map, hR]
    rfl
  have hn := h.inv.nd i (by rw [h.plN]; exact hi)
  rw [e] at hn
  exact ⟨nb, n, hR, encR_at hR, e, hn⟩
/-- a quiet round, however many messages are about -/
def quietU (g : Rf.Gr) : Option Rf.Gr := (Rf.Gr.quietTG (List.range g.N) g).bind fun g => Rf.Gr.quietMG g.net { g with net := [] }
theorem quietC_U {g x : Rf.Gr} (h : g.quietC = some x) : quietU g = some x := by
  unfold Rf.Gr.quietC at h
  unfold quietU
  rw [Option.bind_eq_some_iff] at h ⊢
  obtain ⟨g1, h1, h2⟩ := h
  refine ⟨g1, h1, ?_⟩
  split at h2
  · cases h2
  · exact h2
structure W24 (g0 : GL) (N K J : Nat) where
  c : Nat
  hc : c ≤ N
  g : GL
  gd : g.good N (K + 3 * c) 0 (J + 63 * c)
  ok : g.ok = g0.ok
  eq : Rf.Gr.quietTG (List.range N) g0.pl = Rf.Gr.quietTG ((List.range N).drop c) g.pl
structure W24b (g0 : GL) (l : List MsL) (N K : Nat) where
  c : Nat
  hc : c ≤ l.length
  g : GL
  gd : g.good N (K + 2 * c) 0 (63 * c)
  ok : g.ok = g0.ok
  eq : quietU g0.pl = Rf.Gr.quietMG ((l.drop c).map MsL.pl) g.pl
set_option maxHeartbeats 8000000 in
theorem c24p (b : Nat) (g : GL) {N K J : Nat} (hK : K + 200000 ≤ 2 ^ 30) (hJ : J ≤ 70000) (hg : g.good N K 0 J) :
    Spec Try.prog E 24 [.ptr 0 b 0] (gO b g) (fun v hp => g.pl.quietC = none ∨ (v = Bl true ∧ ∃ g' : GL, g.pl.quietC = some g'.pl ∧ g'.ok = g.ok ∧ g'.good N (K + 2100) 0 70000 ∧ hp = gO b g')) := by
  refine Spec.see2 ?_
  generalize hP : SeeP _ = P
  have fin0 : g.pl.quietC = none → ∀ v hp, P v hp := fun h v hp => by
    rw [← hP]
    exact ⟨v, hp, rfl, fun _ h => h, Sees.refl _, .inl h⟩
  have finU : quietU g.pl = none → ∀ v hp, P v hp := fun h => fin0 (by
    rcases hC : g.pl.quietC with _ | x
    · rfl
    · rw [quietC_U hC] at h; cases h)
  have fin1 : ∀ g' : GL, quietU g.pl = some g'.pl → g'.ok = g.ok → g'.N = N → g'.full N → P (Bl true) (gO b g') := fun g' h1 h2 h3 h4 => by
    rcases hC : g.pl.quietC with _ | x
    · exact fin0 hC _ _
    · have e := quietC_U hC
      rw [h1] at e
      injection e with e
      subst e
      obtain ⟨q1, q2⟩ := Rf.quietC_inv hC hg.inv
      rw [← hP]
      exact ⟨Bl true, gO b g', rfl, fun _ h => h, Sees.refl _, .inr ⟨rfl, g', hC, h2, ⟨q1, h3, h4⟩, rfl⟩⟩
  have h7 : N ≤ 7 := by have := hg.inv.n7; rw [hg.plN] at this; exact this
  refine spec_of (keep := k24) (args' := [.ptr 0 b 0]) Try.func24 rfl Try.ntmps24 s24_ok (by simp) ⟨rfl, fun _ h => h⟩ (fun _ _ h => h) (go_ok _ 100 _ _ ?_)
  simp only [go_sem, s24, k24, Nat.reduceBEq]
  refine safe_loop (ι := W24 g N K J) (fun w => ⟨[(0, .ptr 0 b 0), (3, I w.c)], gO b w.g⟩) (fun w => N - w.c)
    ⟨0, Nat.zero_le _, g, by simpa using hg, rfl, by rw [List.drop_zero]⟩ (Sub.front (X := []) (by simp [envSub, look]) rfl) ?_
  rintro ⟨c, hc, G, gd, hGo, heq⟩
  have hGN := gd.N'
  have hRl := gd.Rl
  refine go_ok _ 12 _ _ ?_
  simp only [go_sem, List.cons_append, List.nil_append, Nat.reduceBEq, Nat.zero_add]
  refine ⟨fun hlc => ?_, fun hlc => ?_⟩
  · have hlt : c < N := by have := of_decide_eq_true hlc; omega
    obtain ⟨nb, n, hR, hRi, hnd, hn⟩ := gd.node hlt
    refine go_ok _ 20 _ _ ?_
    simp only [go_sem, hRi, Nat.reduceBEq, Nat.zero_add, Int.toNat_natCast]
    refine ⟨⟨by omega, by omega, Nat.le_refl _⟩, ⟨by omega, by decide⟩, by simp only [inI64]; omega, by decide, ?_⟩
    have hdr : Int.tmod ((c : Int) * 7) 10 = ((c * 7 % 10 : Nat) : Int) := rfl
    rw [hdr]
    refine (stp_call [0, 1, 2, 3, 4, 5, 6, 7, 8] (args := [.ptr 0 nb 0, I ((c * 7 % 10 : Nat) : Int)]) rfl rfl rfl ⟨_, Try.func15, rfl, rfl⟩ (Spec.nodeG (Q := fun _ => True) (F := n.nd.tick ((c * 7 % 10 : Nat) : Int)) ((c15p nb n ((c * 7 % 10 : Nat) : Int) hn (by omega) (by omega)).post fun v hp h => ⟨trivial, h⟩) b G hR gd.full hRl) rfl (fun _ h => h) rfl (fun _ _ h => h) ?_).safe trivial
    rintro v hp ⟨_, G1, h1, h2, h3, h4, rfl⟩
    obtain ⟨q1, q2⟩ := Rf.setN_inv (k' := K + 3 * c + 3) gd.inv (by rw [gd.plN]; exact hlt) (by omega) (Rf.inv_tick hn ((c * 7 % 10 : Nat) : Int))
    rw [← h1] at q1 q2
    refine ⟨trivial, go_ok _ 6 _ _ ?_⟩
    simp only [go_sem, List.cons_append, List.nil_append, Nat.reduceBEq]
    have hN1 : G1.N = N := h3.trans hGN
    have hti : G.pl.tickI c ((c * 7 % 10 : Nat) : Int) = G1.pl := by
      rw [h1, ← hnd]
      rfl
    have hdrop : (List.range N).drop c = c :: (List.range N).drop (c + 1) := by
      rw [List.drop_eq_getElem_cons (by simpa using hlt), List.getElem_range]
    rw [hdrop, Rf.Gr.quietTG, hti] at heq
    refine (stp_call [0, 1, 2, 3, 4, 5, 6, 7, 8] (args := [.ptr 0 b 0, I c]) rfl rfl rfl ⟨_, Try.func29, rfl, rfl⟩ (c29p b G1 (i := c) (N := N) (K := K + 3 * c + 3) (j := 0 + 21) (J := J + 63 * c) (by omega) (by decide) (by omega) hN1 hlt q1 h4) rfl (fun _ h => h) rfl (fun _ _ h => h) ?_).safe trivial
    rintro v hp (⟨hnone, rfl⟩ | ⟨rfl, G2, k1, k2, k3, k4, rfl⟩)
    · refine ⟨trivial, go_ok _ 10 _ _ ?_⟩
      simp only [go_sem, List.cons_append, List.nil_append, Nat.reduceBEq, Try.results24]
      refine ⟨finU ?_ _ _, fun h => by cases h⟩
      unfold quietU
      rw [hg.plN, heq, hnone]
      rfl
    · refine ⟨trivial, go_ok _ 10 _ _ ?_⟩
      simp only [go_sem, List.cons_append, List.nil_append, Nat.reduceBEq, Try.results24]
      refine ⟨by simp only [inI64]; omega, ?_⟩
      have hpN1 : G1.pl.N = N := by show G1.N.toNat = N; rw [hN1]; rfl
      obtain ⟨i2, i3⟩ := Rf.settle_inv q1 (by rw [hpN1]; exact hlt) (fun a ha => q2 a (by rw [gd.plN]; rw [hpN1] at ha; exact ha)) k1
      refine safe_lend (⟨c + 1, hlt, G2, ⟨i2.mono (by omega) (Nat.le_refl _) (by omega), k3, k4⟩, k2.trans (h2.trans hGo), by rw [heq, k1]; rfl⟩ : W24 g N K J) (by simp only; omega) (Sub.front (X := []) (by simp [envSub, look]) rfl)
  · have hcl : c = N := by have := of_decide_eq_false hlc; omega
    subst hcl
    rw [List.drop_of_length_le (by simp)] at heq
    have hU : quietU g.pl = Rf.Gr.quietMG (G.net.map MsL.pl) { G.pl with net := [] } := by
      unfold quietU
      rw [hg.plN, heq]
      rfl
    have hnl : G.net.length ≤ J + 63 * c := by
      have h := gd.inv.nl
      have e : G.pl.net.length = G.net.length := List.length_map ..
      omega
    have hnm : ∀ m ∈ G.net, m.pl.fit (K + 3 * c) := fun m hm => gd.inv.nm m.pl (List.mem_map_of_mem hm)
    refine go_ok _ 30 _ _ ?_
    simp only [go_sem, List.nil_append, Nat.reduceBEq, Nat.zero_add]
    refine safe_frzA (c := 3) (rowsV encM G.net) rfl (fun _ _ _ _ => rfl) (by simp [frzOk, frzOk1]) ?_
    simp only [go_sem]
    generalize hl : G.net = l at *
    refine safe_loop (ι := W24b g l c (K + 3 * c)) (fun w => ⟨[(0, .ptr 0 b 0), (4, .view (if G.nw.nl then none else some ⟨G.nw.b, G.nw.off, none⟩) l.length G.nw.cap 15 (rowsV encM l)), (5, I w.c)], gO b w.g⟩) (fun w => l.length - w.c)
      ⟨0, Nat.zero_le _, { G with nw := nilR, net := [] }, ?_, hGo, ?_⟩ ?_ ?_
    · have q1 := gd.inv
      exact ⟨⟨q1.n1, q1.n7, q1.lR, q1.lS, q1.lD, q1.nd, q1.sv, (fun m hm => by cases hm), Nat.zero_le _, q1.dn, q1.al, q1.ld⟩, hGN, gd.full⟩
    · rw [List.drop_zero]
      exact hU
    · refine ⟨fun t s ht => ⟨s, envSub_ok (by simp [envSub, look]) t s ht, rfl, fun _ h => h⟩, ?_⟩
      simp only [gO, GL.cs, Rw.ch, Rw.sv]
      refine Sees.cons (fun ro H hh => ⟨H, [], by simp, cells_imp (cs := [.osl 1 G.rw.nl G.rw.b G.rw.off G.R.length G.rw.cap, .osl 2 G.sw.nl G.sw.b G.sw.off G.S.length G.sw.cap, nilS, .osl 4 G.dw.nl G.dw.b G.dw.off G.D.length G.dw.cap, .osl 5 G.aw.nl G.aw.b G.aw.off G.al.length G.aw.cap, .osl 6 G.lw.nl G.lw.b G.lw.off G.ld.length G.lw.cap, I G.N, Bl G.ok]) rfl (fun hk => ?_) hh⟩) (Sees.same (Sees.same (Sees.drop (x := .emp) (nil_ch 54 15 encM) (Sees.refl _))))
      simp only [SV.oks, SV.ok, true_and, and_true] at hk ⊢
    rintro ⟨d, hd, G', gd', hGo', heq'⟩
    have hGN' := gd'.N'
    have hRl' := gd'.Rl
    refine go_ok _ 10 _ _ ?_
    simp only [go_sem, List.cons_append, List.nil_append, Nat.reduceBEq]
    refine ⟨fun hld => ?_, fun hld => ?_⟩
    · have hdl : d < l.length := by have := of_decide_eq_true hld; omega
      have hdr : (l.drop d).map MsL.pl = (l.getD d default).pl :: (l.drop (d + 1)).map MsL.pl := by
        rw [List.drop_eq_getElem_cons hdl, List.map_cons, List.getD_eq_getElem?_getD, List.getElem?_eq_getElem hdl]
        rfl
      have hm := hnm (l.getD d default) (by
        rw [List.getD_eq_getElem?_getD, List.getElem?_eq_getElem hdl]
        exact List.getElem_mem hdl)
      generalize hE : l.getD d default = m at hdr hm
      rw [hdr, Rf.Gr.quietMG] at heq'
      refine go_ok _ 11 _ _ ?_
      simp only [go_sem, hE, List.nil_append, Nat.reduceBEq, Nat.zero_add, Int.toNat_natCast]
      refine ⟨⟨by omega, by omega⟩, by decide, ?_⟩
      have hpN : G'.pl.N = c := gd'.plN
      have e0 : m.pl.to = m.to := rfl
      rw [hpN, e0] at heq'
      have hskip : (m.to < 0 ∨ (c : Int) ≤ m.to) → quietU g.pl = Rf.Gr.quietMG ((l.drop (d + 1)).map MsL.pl) G'.pl := fun h => by rw [heq', if_pos h]
      rcases d1 : decide (m.to < 0) with _ | _
      · rcases d2 : decide (G'.N ≤ m.to) with _ | _
        · have hto : ¬ (m.to < 0 ∨ (c : Int) ≤ m.to) := by
            rintro (h | h)
            · exact of_decide_eq_false d1 h
            · exact of_decide_eq_false d2 (by omega)
          rw [if_neg hto] at heq'
          obtain ⟨q, hq⟩ : ∃ q : Nat, m.to = q := ⟨m.to.toNat, by omega⟩
          have hqc : q < c := by omega
          refine go_ok _ 13 _ _ ?_
          simp only [go_sem, d1, d2, List.cons_append, List.nil_append, Nat.reduceBEq, Nat.zero_add]
          obtain ⟨nb, n, hR, hRi, hnd, hn⟩ := gd'.node hqc
          refine go_ok _ 13 _ _ ?_
          simp only [go_sem, hq, hRi, List.cons_append, List.nil_append, Nat.reduceBEq, Nat.zero_add, Int.toNat_natCast]
          refine ⟨⟨by omega, by omega, Nat.le_refl _⟩, ⟨by omega, by decide⟩, ?_⟩
          refine go_ok _ 5 _ _ ?_
          simp only [go_sem, hE, Nat.reduceBEq, Nat.reduceAdd, Nat.zero_add, Int.toNat_natCast]
          refine ⟨⟨by omega, by omega⟩, by decide, ?_⟩
          refine (stp_call [0, 1, 2, 3, 4, 5, 6, 7, 8] (args := [.ptr 0 nb 0, .agg (encM m)]) rfl rfl rfl ⟨_, Try.func22, rfl, rfl⟩ (Spec.nodeG (Q := fun _ => True) (F := n.nd.step m.pl) ((c22p nb n m hn (hm.mono (by omega)) (by omega) (by omega)).post fun v hp h => ⟨trivial, h⟩) b G' hR gd'.full hRl') rfl (fun _ h => h) rfl (fun _ _ h => h) ?_).safe trivial
          rintro v hp ⟨_, G1, h1, h2, h3, h4, rfl⟩
          obtain ⟨q1, q2⟩ := Rf.setN_inv (k' := K + 3 * c + 2 * d + 2) gd'.inv (by rw [hpN]; exact hqc) (by omega) (Rf.inv_step hn (hm.mono (by omega)))
          rw [← h1] at q1 q2
          have hN1 : G1.N = c := h3.trans hGN'
          have hpN1 : G1.pl.N = c := by show G1.N.toNat = c; rw [hN1]; rfl
          have hti : G'.pl.stepI q m.pl = G1.pl := by
            rw [h1, ← hnd]
            rfl
          rw [show m.to.toNat = q by omega, hti] at heq'
          refine ⟨trivial, go_ok _ 6 _ _ ?_⟩
          simp only [go_sem, List.cons_append, List.nil_append, Nat.reduceBEq]
          refine (stp_call [0, 1, 2, 3, 4, 5, 6, 7, 8] (args := [.ptr 0 b 0, I q]) rfl rfl rfl ⟨_, Try.func29, rfl, rfl⟩ (c29p b G1 (i := q) (N := c) (K := K + 3 * c + 2 * d + 2) (j := 0 + 21) (J := 63 * d) (by omega) (by decide) (by omega) hN1 hqc q1 h4) rfl (fun _ h => h) rfl (fun _ _ h => h) ?_).safe trivial
          rintro v hp (⟨hnone, rfl⟩ | ⟨rfl, G2, k1, k2, k3, k4, rfl⟩)
          · refine ⟨trivial, go_ok _ 10 _ _ ?_⟩
            simp only [go_sem, List.cons_append, List.nil_append, Nat.reduceBEq, Try.results24]
            refine ⟨finU ?_ _ _, fun h => absurd h (by decide)⟩
            rw [heq', hnone]
            rfl
          · refine ⟨trivial, go_ok _ 10 _ _ ?_⟩
            simp only [go_sem, List.cons_append, List.nil_append, Nat.reduceBEq, Try.results24]
            refine ⟨by simp only [inI64]; omega, ?_⟩
            obtain ⟨i2, i3⟩ := Rf.settle_inv q1 (by rw [hpN1]; exact hqc) (fun a ha => q2 a (by rw [hpN]; rw [hpN1] at ha; exact ha)) k1
            exact safe_lend (⟨d + 1, hdl, G2, ⟨i2.mono (by omega) (Nat.le_refl _) (by omega), k3, k4⟩, k2.trans (h2.trans hGo'), by rw [heq', k1]; rfl⟩ : W24b g l c (K + 3 * c)) (by simp only; omega) (Sub.front (X := []) (by simp [envSub, look]) rfl)
        · have hto : m.to < 0 ∨ (c : Int) ≤ m.to := .inr (by have := of_decide_eq_true d2; omega)
          refine go_ok _ 30 _ _ ?_
          simp only [go_sem, d1, d2, List.cons_append, List.nil_append, Nat.reduceBEq, Nat.reduceAdd, Nat.zero_add, Int.toNat_natCast]
          refine ⟨⟨by simp only [inI64]; omega, ?_⟩, fun h => by cases h⟩
          exact safe_lend (⟨d + 1, hdl, G', ⟨gd'.inv.mono (by omega) (Nat.le_refl _) (by omega), gd'.N', gd'.full⟩, hGo', hskip hto⟩ : W24b g l c (K + 3 * c)) (by simp only; omega) (Sub.front (X := []) (by simp [envSub, look]) rfl)
      · have hto : m.to < 0 ∨ (c : Int) ≤ m.to := .inl (of_decide_eq_true d1)
        refine go_ok _ 30 _ _ ?_
        simp only [go_sem, d1, List.cons_append, List.nil_append, Nat.reduceBEq, Nat.reduceAdd, Nat.zero_add, Int.toNat_natCast]
        refine ⟨fun h => absurd h (by decide), ⟨by simp only [inI64]; omega, ?_⟩, fun h => absurd h (by decide)⟩
        exact safe_lend (⟨d + 1, hdl, G', ⟨gd'.inv.mono (by omega) (Nat.le_refl _) (by omega), gd'.N', gd'.full⟩, hGo', hskip hto⟩ : W24b g l c (K + 3 * c)) (by simp only; omega) (Sub.front (X := []) (by simp [envSub, look]) rfl)
    · have hdl : d = l.length := by have := of_decide_eq_false hld; omega
      subst hdl
      rw [List.drop_length] at heq'
      refine go_ok _ 10 _ _ ?_
      simp only [go_sem, List.nil_append, Nat.reduceBEq, Try.results24]
      exact fin1 G' heq' hGo' hGN' gd'.full
end Go.SX
