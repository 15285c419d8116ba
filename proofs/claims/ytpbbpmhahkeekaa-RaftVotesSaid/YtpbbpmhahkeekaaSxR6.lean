/- Contracts of the raft package: copies of entries; entries told. -/
import Derived.Test.YtpbbpmhahkeekaaSxR5
namespace Go.SX
open Go.Proofs
set_option maxRecDepth 1000000
variable {E : Env}

theorem c36 (a : Option Addr) (cap : Nat) (xs : List UInt8) (hl : xs.length ≤ 140737488355328) : Spec Try.prog E 36 [vB a cap xs] [] (fun v hp => hp = [] ∧ ∃ a' cap', v = vB a' cap' xs) := by
  refine Spec.of_ok fun ⟨ro, hro⟩ => ?_
  have ha := view_nil (oks_iff.1 hro _ (List.mem_singleton.2 rfl)) (by omega)
  refine Spec.frz (Post := CloneP 1 encB xs) ?_ (fun v hp h => h.fin (Post' := fun v hp => hp = [] ∧ ∃ a' cap', v = vB a' cap' xs) fun a' cap' => ⟨rfl, a', cap', rfl⟩)
  refine spec_of (keep := k36) (args' := [vB a cap xs]) Try.func36 rfl Try.ntmps36 s36_ok (by simp) ⟨rfl, fun _ h => h⟩ (fun _ _ h => h) (go_ok _ 100 _ _ ?_)
  simp only [go_sem, s36, k36, Nat.reduceBEq, Try.results36]
  refine ⟨fun h => .inl ⟨List.length_eq_zero_iff.1 (ha h), rfl⟩, fun h b => ?_⟩
  refine (stp_app (c := 0) (x := vB a cap xs) (gx := rowsV encB xs) rfl rfl rfl rfl rfl (onesF_rows fun x => ⟨rfl, by simp [encB, ones, one, Value.oneCell']⟩) (by omega) fun nl' b' off' cap' => ?_).safe trivial
  refine ⟨trivial, ?_⟩
  rw [Nat.zero_add, appF_zero]
  refine go_ok _ 100 _ _ ?_
  simp only [go_sem, Nat.reduceBEq, Try.results36]
  exact .inr ⟨0, nl', b', 5, off', cap', rfl, rfl⟩

def Ent.core (e : Ent) : Int × Int × Int × List UInt8 := (e.ix, e.tm, e.kd, e.d.xs)
def Same (es es' : List Ent) : Prop := es'.map Ent.core = es.map Ent.core
theorem Same.len {es es' : List Ent} (h : Same es es') : es'.length = es.length := by
  have := congrArg List.length h
  simpa using this

theorem updE {es : List Ent} {i : Nat} (hi : i < es.length) (d : By) : updF (rowsV encE es) i 3 [vB d.a d.cap d.xs] = rowsV encE (es.set i { es.getD i default with d := d }) := by
  funext i' j'
  unfold updF rowsV
  by_cases h : i' = i
  · subst h
    have e1 : (es.set i' { es.getD i' default with d := d }).getD i' default = { es.getD i' default with d := d } := by simp [List.getD_eq_getElem?_getD, hi]
    rw [e1]
    rcases j' with _ | _ | _ | _ | j' <;> simp [encE, Nat.ble, Nat.blt]
  · have e1 : (es.set i { es.getD i default with d := d }).getD i' default = es.getD i' default := by simp [List.getD_eq_getElem?_getD, List.getElem?_set, Ne.symm h]
    have e2 : (i' == i) = false := by simpa using h
    rw [e1, e2]
    rfl

theorem c37 (a : Option Addr) (cap : Nat) (es : List Ent) (hl : es.length ≤ 2 ^ 40) (hd : ∀ e ∈ es, e.d.xs.length ≤ 2 ^ 40) : Spec Try.prog E 37 [vE a cap es] [] (fun v hp => hp = [] ∧ ∃ a' cap' es', v = vE a' cap' es' ∧ Same es es') := by
  refine Spec.frz (Post := fun v hp => ∃ (b : Nat) (off cap : Nat) (es' : List Ent) (X : List Chunk), Same es es' ∧ v = .osl 0 false b off es'.length cap ∧ hp = .row false b 43 off 4 es'.length cap (rowsV encE es') :: X) ?_ ?_
  · refine spec_of (keep := k37) (args' := [vE a cap es]) Try.func37 rfl Try.ntmps37 s37_ok (by simp) ⟨rfl, fun _ h => h⟩ (fun _ _ h => h) (go_ok _ 100 _ _ ?_)
    simp only [go_sem, s37, k37, Nat.reduceBEq, Try.results37]
    refine (stp_mksl (ln := es.length) (cp := es.length) rfl rfl rfl rfl (by omega) (by omega) (by omega) (by omega) fun b => ?_).safe trivial
    refine ⟨trivial, go_ok _ 100 _ _ ?_⟩
    simp only [go_sem, Nat.reduceBEq, Int.toNat_natCast]
    refine Stp.safeE (stp_copy (xo := .t 8) (yo := .t 9) (e := 43) (sz := 4) (c := 0) (b := b) (off := 0) (n := es.length) (cap := es.length) (m := es.length) (T := 43) (f := zerF [.int .i64 0, .int .i64 0, .int .i64 0, .slice none 0 0]) (gx := rowsV encE es) (sx := vE a cap es) rfl rfl rfl rfl (by decide) rfl rfl rfl rfl rfl (Nat.le_refl _) (onesF_rows fun x => ⟨rfl, by simp [encE, ones, one, Value.oneCell']⟩) trivial ?_) rfl
    refine go_ok _ 100 _ _ ?_
    simp only [go_sem, Nat.reduceBEq, Nat.reduceAdd, Nat.zero_add]
    refine safe_loop (fun x : {x : Nat × List Ent // x.1 ≤ es.length ∧ Same es x.2 ∧ ∀ k, x.1 ≤ k → x.2.getD k default = es.getD k default} => ⟨[(3, .osl 0 false b 0 es.length es.length), (12, I es.length), (13, I x.1.1)], [.row false b 43 0 4 es.length es.length (rowsV encE x.1.2)]⟩)
      (fun x => es.length - x.1.1) ⟨(0, es), by omega, rfl, fun _ _ => rfl⟩ (Sub.heap (by simp [envSub, look]) ?_) ?_
    · intro ro H h
      refine hsat_set (hp := [.row false b 43 0 4 es.length es.length _]) 0 (fun H hh => row_congr (fun i j hi hj => ?_) hh) h
      have : Nat.blt i es.length = true := by rw [Nat.blt_eq]; exact hi
      simp only [ovF, this, cond_true]
    · rintro ⟨⟨i, es'⟩, hi, hsame, hrest⟩
      have hlen := hsame.len
      simp only at hi hsame hrest hlen
      refine go_ok _ 100 _ _ ?_
      simp only [go_sem, Nat.reduceBEq, Nat.reduceAdd, Nat.zero_add, Int.toNat_natCast, Try.results37]
      refine ⟨fun h => ?_, fun h => ?_⟩
      · have hlt : i < es.length := by simpa using h
        and_intros
        all_goals try (first | omega | trivial)
        have hei : es'.getD i default = es.getD i default := hrest i (Nat.le_refl _)
        have hmem : es.getD i default ∈ es := by
          rw [List.getD_eq_getElem?_getD, List.getElem?_eq_getElem hlt]
          exact List.getElem_mem _
        have hdl := hd _ hmem
        rw [← hei] at hdl
        refine (stp_call [] rfl rfl rfl ⟨_, Try.func36, rfl, rfl⟩ (c36 _ _ (es'.getD i default).d.xs (by omega)) rfl (fun _ h => h) rfl (fun _ _ h => h) ?_).safe trivial
        rintro v hp ⟨rfl, a2, cap2, rfl⟩
        refine ⟨trivial, go_ok _ 100 _ _ ?_⟩
        simp only [go_sem, Nat.reduceBEq, Nat.reduceAdd, Nat.zero_add, Int.toNat_natCast, updE (es := es') (i := i) (by omega) ⟨a2, cap2, (es'.getD i default).d.xs⟩]
        and_intros
        all_goals try (first | omega | trivial | (simp only [inI64]; omega))
        refine safe_lend ⟨(i + 1, es'.set i { es'.getD i default with d := ⟨a2, cap2, (es'.getD i default).d.xs⟩ }), hlt, ?_, fun k hk => ?_⟩ (by simp only; omega) (Sub.front (X := []) (by simp [envSub, look]) ?_)
        · unfold Same at hsame ⊢
          rw [← hsame, List.map_set]
          have : Ent.core { es'.getD i default with d := ⟨a2, cap2, (es'.getD i default).d.xs⟩ } = (es'.map Ent.core)[i]'(by simp; omega) := by
            simp [Ent.core, List.getD_eq_getElem?_getD, List.getElem?_eq_getElem (show i < es'.length by omega)]
          rw [this, List.set_getElem_self]
        · simp only at hk
          rw [← hrest k (by omega)]
          simp [List.getD_eq_getElem?_getD, List.getElem?_set, show ¬ i = k by omega]
        · simp only [List.append_nil]
      · exact ⟨b, 0, es.length, es', [], hsame, by rw [hlen], by rw [hlen]⟩
  · rintro v hp ⟨b, off, cap', es', X, h1, rfl, rfl⟩
    exact .inr ⟨_, _, _, _, _, _, _, _, _, rfl, ⟨X, rfl⟩, rfl, some ⟨b, off, none⟩, cap', es', rfl, h1⟩

theorem ag32 : aggOf Try.prog 32 = some (some 3) := by kernel_rfl
theorem c35 (x y : Int) (a : Option Addr) (cap : Nat) (vs : List Int) (hl : vs.length * 8 ≤ 140737488355328) : Spec Try.prog E 35 [.agg [I x, I y, vI a cap vs]] [] (fun v hp => hp = [] ∧ ∃ a' cap', v = .agg [I x, I y, vI a' cap' vs]) := by
  refine Spec.leave (Post := fun v _ => ∃ a' cap', v = .agg [I x, I y, vI a' cap' vs]) ?_ (fun v hp ⟨a', cap', h⟩ => ⟨[], hp, rfl, rfl, a', cap', h⟩)
  refine spec_of (keep := k35) (args' := [.agg [I x, I y, vI a cap vs]]) Try.func35 rfl Try.ntmps35 s35_ok (by simp) ⟨rfl, fun _ h => h⟩ (fun _ _ h => h) (go_ok _ 100 _ _ ?_)
  simp only [go_sem, s35, k35, Nat.reduceBEq, Nat.reduceAdd, Nat.zero_add]
  intro b1 b2
  refine (stp_call [] rfl rfl rfl ⟨_, Try.func38, rfl, rfl⟩ (c38 a cap vs hl) rfl (fun _ h => h) rfl (fun _ _ h => h) ?_).safe trivial
  rintro v hp ⟨rfl, a', cap', rfl⟩
  refine ⟨trivial, go_ok _ 100 _ _ ?_⟩
  simp only [go_sem, Nat.reduceBEq, Nat.reduceAdd, Nat.zero_add, Try.results35]
  refine safe_retC (l := [.agg [I x, I y, vI a' cap' vs]]) (vc := True) ?_ trivial ⟨a', cap', rfl⟩ rfl rfl
  simp only [retC, Try.results35, go_sem, Nat.reduceBEq, ag32]

theorem c45 (b : Nat) (s : RS) (i most : Int) (hs : s.small) (hd : ∀ e ∈ s.es, e.d.xs.length ≤ 2 ^ 40) (h0 : -(2 ^ 61) ≤ i) (h1 : i ≤ 2 ^ 61) (h2 : 0 ≤ most) :
    Spec Try.prog E 45 [.ptr 0 b 0, I i, I most] [rC b s] (fun v hp => hp = [rC b s] ∧ ∃ a' cap' es', v = vE a' cap' es' ∧ Same ((s.es.drop (min (max (i - s.mIx - 1) 0) s.es.length).toNat).take most.toNat) es') := by
  refine spec_of (keep := k45) (args' := [.ptr 0 b 0, I i, I most]) Try.func45 rfl Try.ntmps45 s45_ok (by simp) ⟨rfl, fun _ h => h⟩ (fun _ _ h => h) (safe_cellview (c := 0) (kk := 4) rfl rfl fun hcap => go_ok _ 100 _ _ ?_)
  simp only [go_sem, s45, k45, Nat.reduceBEq, Nat.reduceAdd, Nat.zero_add]
  obtain ⟨m0, m1, m2⟩ := hs
  obtain ⟨p, hp⟩ : ∃ p : Nat, (p : Int) = min (max (i - s.mIx - 1) 0) s.es.length := ⟨(min (max (i - s.mIx - 1) 0) s.es.length).toNat, by omega⟩
  obtain ⟨q, hq⟩ : ∃ q : Nat, (q : Int) = min most ((s.es.length - p : Nat) : Int) := ⟨(min most ((s.es.length - p : Nat) : Int)).toNat, by omega⟩
  simp only [← hp, Int.toNat_natCast, ← hq, Int.toNat_zero, Nat.sub_zero, Nat.add_zero, inI64]
  and_intros
  all_goals try (first | omega | (intro h; cases h; done))
  have hsm : Same ((s.es.drop p).take q) ((s.es.drop p).take q) := rfl
  have hlen : ((s.es.drop p).take q).length = q := by simp; omega
  refine (stp_call [] rfl rfl rfl ⟨_, Try.func37, rfl, rfl⟩ (c37 (if ((s.lc - p : Nat) : Int) = 0 then if (s.lc : Int) = (p : Int) then s.la else s.la.map (fun x => x.add (p * 4)) else (if (s.lc : Int) = (p : Int) then s.la else s.la.map (fun x => x.add (p * 4))).map (fun x => x.add (0 * 4))) (s.lc - p) ((s.es.drop p).take q) (by omega) (fun e he => hd e ?_)) ?_ (fun _ h => ?_) rfl (fun _ _ h => h) ?_).safe trivial
  · exact List.mem_of_mem_drop (List.mem_of_mem_take he)
  · simp only [SV.dens, SV.den, hlen, List.nil_append, List.append_nil]
  · have hrow : ∀ i j, i < q → j < 4 → rowsV encE s.es (i + p) j = rowsV encE ((s.es.drop p).take q) i j := by
      intro i j hi _
      simp only [rowsV, List.getD_eq_getElem?_getD, List.getElem?_take, if_pos hi, List.getElem?_drop, Nat.add_comm p i]
    have h1 := oks_iff.1 h _ (List.mem_append_left _ (List.mem_append_right _ (List.mem_singleton.2 rfl)))
    have h2 := (Eqv.view hrow).2 _ h1
    rw [oks_iff]
    intro x hx
    rw [List.mem_singleton.1 hx]
    simp only [vE, hlen]
    exact h2
  · rintro v hp' ⟨rfl, a', cap', es', rfl, hsame⟩
    refine ⟨trivial, go_ok _ 100 _ _ ?_⟩
    simp only [go_sem, Nat.reduceBEq, Nat.reduceAdd, Nat.zero_add, Try.results45]
    refine ⟨a', cap', es', rfl, ?_⟩
    have : (s.es.drop p).take most.toNat = (s.es.drop p).take q := by
      rcases Nat.lt_or_ge most.toNat (s.es.length - p) with h | h
      · rw [show most.toNat = q by omega]
      · rw [List.take_of_length_le (by simp; omega), List.take_of_length_le (by simp; omega)]
    rw [this]
    exact hsame
end Go.SX
