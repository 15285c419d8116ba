/- Loops over functions whose order is open. -/
import Derived.Test.YthpnhfnilogflaaSxX
import Derived.Test.YthpnhfnilogflaaSxP
namespace Go.SX
section
variable {S : Setup} {k : List Frag} {st : St} {C : Ctx} {ro ro0 : RO} {H F : Hp} {a : Act} {w : World}

/-- an iterator's contract: rounds as 'step' lets, till 'dn' -/
def IterSpecG (P : Program) (E : Env) (gf : FuncId) (lb : List SV) (box : Chunk) {σ : Type} (n : σ) (step : σ → List SV → σ → Prop) (dn : σ → Prop) : Prop :=
  ∀ (l : Nat) (J : σ → HP) (Jx : HP), (∀ i v i', step i v i' → YSpec P E l v [.abs (J i)] (fun r h => (r = .val (.bool true) ∧ h = [.abs (J i')]) ∨ (r = .val (.bool false) ∧ h = [.abs Jx]))) →
    Spec P E gf (.fn (.yield l) [] [] :: lb) [box, .abs (J n)] (fun _ h => (∃ i, dn i ∧ h = [box, .abs (J i)]) ∨ h = [box, .abs Jx])

theorem safe_rangeG {κ ι σ : Type} {g : Operand} {gop : Opd} {ps : Array Tmp} {assign body : Code} {sa sb : SCode} {gf c : Nat} {lb : List SV} (n : σ) (step : σ → List SV → σ → Prop) (dn : σ → Prop) (HI : σ → List Chunk) (XH : ι → List Chunk) (stA : σ → List SV → κ → St) {ej : Exit} {cj : Code} (hj : Jump ej cj) {scj : SCode}
    (hrd : S.C.rd = none) (hg : copd g = some gop) (hgo : opv st.env gop = some (.fn (.func gf) [] lb)) (hbody : ∃ fn, S.C.P.funcs[gf]? = some fn ∧ fn.body.isSome = true ∧ (fn.name == "runtime.NumGoroutine") = false)
    (hsa : comp S.C.P S.C.N assign = some sa) (hsb : comp S.C.P S.C.N body = some sb) (hcj : comp S.C.P S.C.N cj = some scj) (hc : c < st.heap.length) (h0 : ∀ ro H, hsat ro (setC st.heap c .emp) H → hsat ro (HI n) H)
    (hps : ps.toList.Nodup ∧ ∀ p ∈ ps.toList, p < S.C.N) (hel : ∀ i v i', step i v i' → v.length = ps.size)
    (iter : IterSpecG S.C.P S.C.E gf lb (getC st.heap c) n step dn)
    (round : ∀ i v i', step i v i' → ∀ l, Safe (inRd S l) [.code sa, .bot fun ro0 F e a w => e = .normal ∧ ∃ x, Gam (inRd S l).C ro0 F (stA i v x) a w] ⟨penv ps.toList v ++ st.env, HI i⟩ ∧
      ∀ y, Safe (inRd S l) [.code sb, .bot fun ro0 F e _ w => (e = .normal ∧ MemIs S.C.E ro0 F (HI i') w) ∨ (e = ej ∧ ∃ x, MemIs S.C.E ro0 F (XH x) w)] (stA i v y))
    (done : ∀ d i, dn i → Safe (withD S (d :: S.C.D)) k ⟨st.env, HI i ++ [getC st.heap c, dfrC d]⟩)
    (jump : ∀ d x, Safe (withD S (d :: S.C.D)) (.code scj :: k) ⟨st.env, XH x ++ [getC st.heap c, dfrC d]⟩) :
    Safe S (.code (.oth (.rangeFunc g ps assign body)) :: k) st := by
  rintro ro0 F a w ⟨ro, H, hle, g0⟩ code hcode
  rw [comp_oth hcode, hrd]
  refine wpIn_rangeFunc fun fn _ => ?_
  obtain ⟨rec, hrec⟩ : ∃ rec : LoopState → Option Code → Loop, rec = fun st pe => { state := st, pending := pe, fn, tmps := a.tmps, params := ps, assign, body, defers := w.heap.size } := ⟨_, rfl⟩
  obtain ⟨d, hd⟩ : ∃ d, d = w.heap.size := ⟨_, rfl⟩
  obtain ⟨l, hl⟩ : ∃ l, l = w.heap.size + 1 := ⟨_, rfl⟩
  obtain ⟨W1, hW1⟩ : ∃ W1, (w.alloc (.deferred (some []))).alloc (.loop (rec .ready none)) = W1 := ⟨_, rfl⟩
  have hsatW : Sat S.C.E ro ((l, .loop (rec .ready none)) :: (d, .deferred (some [])) :: (H ++ F)) W1 := by
    have s1 := g0.sat.alloc (.deferred (some []))
    have s2 := s1.alloc (.loop (rec .ready none))
    have e : w.heap.size + 1 = (w.alloc (.deferred (some []))).heap.size := by rw [World.size_alloc]
    rw [← hW1, hl, hd, e]
    exact s2
  obtain ⟨e1, e2⟩ := opv_ok g0 hg hgo
  obtain ⟨gfn, hfn1, hfn2, hfn3⟩ := hbody
  refine ⟨l, [{ target := .collected d, args := #[] }], W1, { target := .fn (.func gf) (SV.dens lb).toArray, args := #[.func (.yield l) #[] #[]] }, W1, gf, (SV.dens (.fn (.yield l) [] [] :: lb)).toArray, W1, ?_, ?_, fun _ _ => trivial, ?_, fun h => (by cases h), ?_⟩
  · rw [← hW1, hrec, hl, hd]
    exact run_enterLoop_outer _ _ _ _ _
  · simp only [resolve, rangeCall, Sem.run_bind, e1, SV.den, SV.dens, Deferred.ofValue, Sem.run_pure, Result.andThen_ok]
    simp [Act.eval]
  · have hn : ¬ (gfn.body.isNone = true) := by simp [Option.isNone_iff_eq_none, ← Option.isSome_iff_ne_none, hfn2]
    have hn2 : ¬ ((gfn.name == "runtime.NumGoroutine") = true) := by rw [hfn3]; simp
    simp only [invoke, callFunc, Sem.run_bind, run_program, Result.andThen_ok, hfn1, if_neg hn2, if_neg hn, Sem.run_pure]
    simp [SV.dens, SV.den]
  -- what the rounds carry
  let J : σ → HP := fun i => ⟨fun r K => ROle ro r ∧ ∃ K0, K = (l, Obj.loop (rec .ready none)) :: K0 ∧ hsat r (HI i) K0, fun r r' K hr ⟨h1, K0, h2, h3⟩ => ⟨h1.trans hr, K0, h2, hsat_mono hr h3⟩⟩
  let Jx : HP := ⟨fun r K => ROle ro r ∧ ∃ x K0, K = (l, Obj.loop (rec .done (some cj))) :: K0 ∧ hsat r (XH x) K0, fun r r' K hr ⟨h1, x, K0, h2, h3⟩ => ⟨h1.trans hr, x, K0, h2, hsat_mono hr h3⟩⟩
  have hY : ∀ i vs i', step i vs i' → YSpec S.C.P S.C.E l vs [.abs (J i)] (fun v h => (v = .val (.bool true) ∧ h = [.abs (J i')]) ∨ (v = .val (.bool false) ∧ h = [.abs Jx])) := by
    intro i vs i' hi ro1 F1 H1 w2 hh hoks hs
    obtain ⟨H1, _, rfl, ⟨hle1, K0, rfl, hK0⟩, rfl⟩ := hh
    have hs : Sat S.C.E ro1 ((l, Obj.loop (rec .ready none)) :: (K0 ++ F1)) w2 := by simpa using hs
    have hlw := (hs.own _ (List.mem_cons_self ..)).1
    obtain ⟨r1, r2⟩ := round i vs i' hi l
    have hlen : ps.toList.length = (SV.dens vs).length := by rw [dens_eq]; simp [hel _ _ _ hi]
    obtain ⟨q1, q2, q3⟩ := fold_params ps.toList (SV.dens vs) a.tmps hlen hps.1 (fun p hp => by rw [g0.size]; exact hps.2 p hp)
    have hfold : ((rec .ready none).params.zip (SV.dens vs).toArray).foldl (fun tmps (x : Nat × Value) => tmps.setIfInBounds x.1 x.2) (rec .ready none).tmps = (ps.toList.zip (SV.dens vs)).foldl (fun t (p : Nat × Value) => t.setIfInBounds p.1 p.2) a.tmps := by
      rw [hrec, ← Array.foldl_toList]
      simp
    refine ⟨fn, (ps.toList.zip (SV.dens vs)).foldl (fun t (p : Nat × Value) => t.setIfInBounds p.1 p.2) a.tmps, assign, body, ?_, roundIn_of_wpIn trivial ?_⟩
    · have hy := run_yield (P := S.C.P) (args := (SV.dens vs).toArray) hlw (by rw [hrec, dens_eq]; simp [hel _ _ _ hi])
      rw [hy]
      rw [hrec] at hfold ⊢
      rw [← hfold]
    have hgam : Gam (inRd S l).C ro1 ((l, Obj.loop (rec .ready none)) :: F1) ⟨penv ps.toList vs ++ st.env, HI i⟩ { tmps := (ps.toList.zip (SV.dens vs)).foldl (fun t (p : Nat × Value) => t.setIfInBounds p.1 p.2) a.tmps, defers := [] } w2 := by
      refine ⟨ro1, K0, ROle.refl _, rfl, ?_, hK0, hs.perm List.perm_middle.symm, fun t s ht => ?_⟩
      · simp only [q1]; exact g0.size
      · rcases look_penv ps.toList vs t s (by simp [hel _ _ _ hi]) ht with ⟨j, h2, h3⟩ | ⟨hin, h⟩
        · refine ⟨q2 j t _ h2 (by rw [dens_eq, List.getElem?_map, h3]; rfl), oks_iff.1 hoks _ (List.mem_of_getElem? h3)⟩
        · obtain ⟨x1, x2⟩ := g0.env t s h
          exact ⟨(q3 t hin).trans x1, SV.ok_mono hle1 s x2⟩
    refine wpIn_mono (r1 ro1 _ _ _ hgam assign hsa) fun e a1 w3 he => ?_
    simp only [contK] at he
    obtain ⟨rfl, y, hg3⟩ := he
    simp only [Exit.then]
    obtain ⟨hl3, hg4⟩ := hg3.turn (.loop (rec .busy none))
    refine ⟨_, run_beginRound hl3 (by rw [hrec]), ?_⟩
    have hbusy : ({ rec .ready none with state := LoopState.busy } : Loop) = rec .busy none := by rw [hrec]
    rw [hbusy]
    refine wpIn_mono (r2 y ro1 _ _ _ hg4 body hsb) fun e a2 w5 he => ?_
    simp only [contK] at he
    rcases he with ⟨rfl, ro2, K2, hle2, hK2, hs2⟩ | ⟨rfl, x, ro2, K2, hle2, hK2, hs2⟩
    · obtain ⟨hl5, hs6⟩ := Sat.turn (.loop (rec .ready none)) hs2
      simp only [roundPost]
      refine ⟨_, _, run_endRound none hl5, .val (.bool true), [.abs (J i')], ro2, (l, .loop (rec .ready none)) :: K2, by simp [SV.den], .inl ⟨rfl, rfl⟩, hle2, by simp only [SV.ok], ⟨_, [], by simp, ⟨hle1.trans hle2, K2, rfl, hK2⟩, rfl⟩, ?_⟩
      have : ({ rec .busy none with state := if (none : Option Code).isNone = true then LoopState.ready else LoopState.done, pending := none } : Loop) = rec .ready none := by rw [hrec]; rfl
      rw [this]
      exact hs6.perm (by simp)
    · obtain ⟨hl5, hs6⟩ := Sat.turn (.loop (rec .done (some cj))) hs2
      have fin : ∃ v w', (Instr.endRound l (some cj)).run S.C.P w5 = .ok v w' ∧ Fin S.C.E ro1 F1 (fun v h => (v = .val (.bool true) ∧ h = [.abs (J i')]) ∨ (v = .val (.bool false) ∧ h = [.abs Jx])) (.returned v) w' := by
        refine ⟨_, _, run_endRound (some cj) hl5, .val (.bool false), [.abs Jx], ro2, (l, .loop (rec .done (some cj))) :: K2, by simp [SV.den], .inr ⟨rfl, rfl⟩, hle2, by simp only [SV.ok], ⟨_, [], by simp, ⟨hle1.trans hle2, x, K2, rfl, hK2⟩, rfl⟩, ?_⟩
        have : ({ rec .busy none with state := if (some cj).isNone = true then LoopState.ready else LoopState.done, pending := some cj } : Loop) = rec .done (some cj) := by rw [hrec]; rfl
        rw [this]
        exact hs6.perm (by simp)
      cases hj <;> exact fin
  -- the iterator's call
  obtain ⟨Hb, H2, hperm, hbox, hput⟩ := hsat_at c g0.heap hc
  obtain ⟨H3, hp3, hs3⟩ := hput ro .emp [] (ROle.refl _) rfl
  have hs3 := h0 _ _ hs3
  have hp3 : H3.Perm H2 := by simpa using hp3
  have hs1 : Sat S.C.E ro ((Hb ++ ((l, Obj.loop (rec .ready none)) :: H3)) ++ ((d, .deferred (some [])) :: F)) W1 := by
    refine hsatW.perm ?_
    have hH : (H ++ F).Perm ((Hb ++ H3) ++ F) := (hperm.trans (List.Perm.append_left Hb hp3.symm)).append_right F
    refine (List.Perm.cons _ (List.Perm.cons _ hH)).trans ?_
    refine (List.Perm.cons _ (List.perm_middle.symm)).trans ?_
    exact (List.perm_middle (l₁ := Hb) (l₂ := H3)).symm.append_right _
  have hspec := iter l J Jx hY ro ((d, .deferred (some [])) :: F) _ W1 ⟨Hb, (l, Obj.loop (rec .ready none)) :: H3, rfl, hbox, _, [], by simp, ⟨ROle.refl _, H3, rfl, hs3⟩, rfl⟩ (by simp only [SV.oks, SV.ok, true_and]; simp only [SV.ok] at e2; exact e2.2) hs1
  refine CallsIn.mono (n := 0) (show CallsIn (fw none) 0 S.C.P gf _ W1 _ from callsIn_fw hspec) fun e w5 hfin => ?_
  obtain ⟨v, heap', ro', H', rfl, hpost, hle', hvok, hh', hs'⟩ := hfin
  simp only [rangePost]
  have hdef : (marks [d] ++ a.defers) = marks (d :: S.C.D) := by rw [g0.defs]; rfl
  rcases hpost with ⟨i, hdi, rfl⟩ | rfl
  · obtain ⟨B1, _, rfl, hb1, _, _, rfl, ⟨hle5, K0, rfl, hK0⟩, rfl⟩ := hh'
    obtain ⟨hl5, hs6⟩ := Sat.turn (X := B1) (Y := K0 ++ ((d, .deferred (some [])) :: F)) (.loop { rec .ready none with state := .exhausted }) (by simpa using hs')
    refine ⟨none, w5.putObj l (.loop { rec .ready none with state := .exhausted }), by rw [run_endLoop hl5 (by rw [hrec]; simp), hrec], ?_⟩
    simp only
    have := done d i hdi ro0 F { a with defers := marks [d] ++ a.defers } (w5.putObj l (.loop { rec .ready none with state := .exhausted })) ⟨ro', K0 ++ (B1 ++ [(d, .deferred (some []))]), hle.trans hle', hdef, g0.size, ?_, ?_, fun t s ht => ?_⟩
    · rw [contK_D] at this
      exact this
    · exact hsat_append.2 ⟨K0, _, rfl, hK0, B1, [(d, .deferred (some []))], rfl, hb1, _, [], by simp, rfl, rfl⟩
    · refine Sat.drop (H := [(l, .loop { rec .ready none with state := .exhausted })]) (hs6.perm ?_)
      refine List.perm_middle.trans (List.Perm.cons _ ?_)
      have := (List.perm_append_comm (l₁ := B1) (l₂ := K0)).append_right ((d, Obj.deferred (some [])) :: F)
      simpa using this
    · obtain ⟨x1, x2⟩ := g0.env t s ht
      exact ⟨x1, SV.ok_mono hle' s x2⟩
  · obtain ⟨B1, _, rfl, hb1, _, _, rfl, ⟨hle5, x, K0, rfl, hK0⟩, rfl⟩ := hh'
    obtain ⟨hl5, hs6⟩ := Sat.turn (X := B1) (Y := K0 ++ ((d, .deferred (some [])) :: F)) (.loop { rec .done (some cj) with state := .exhausted }) (by simpa using hs')
    refine ⟨some cj, w5.putObj l (.loop { rec .done (some cj) with state := .exhausted }), by rw [run_endLoop hl5 (by rw [hrec]; simp), hrec], ?_⟩
    simp only
    have := jump d x ro0 F { a with defers := marks [d] ++ a.defers } (w5.putObj l (.loop { rec .done (some cj) with state := .exhausted })) ⟨ro', K0 ++ (B1 ++ [(d, .deferred (some []))]), hle.trans hle', hdef, g0.size, ?_, ?_, fun t s ht => ?_⟩
    · have h2 := this cj hcj
      rw [contK_D] at h2
      have e : fw (withD S (d :: S.C.D)).C.rd = fw none := by show fw S.C.rd = _; rw [hrd]
      rw [e] at h2
      exact h2
    · exact hsat_append.2 ⟨K0, _, rfl, hK0, B1, [(d, .deferred (some []))], rfl, hb1, _, [], by simp, rfl, rfl⟩
    · refine Sat.drop (H := [(l, .loop { rec .done (some cj) with state := .exhausted })]) (hs6.perm ?_)
      refine List.perm_middle.trans (List.Perm.cons _ ?_)
      have := (List.perm_append_comm (l₁ := B1) (l₂ := K0)).append_right ((d, Obj.deferred (some [])) :: F)
      simpa using this
    · obtain ⟨x1, x2⟩ := g0.env t s ht
      exact ⟨x1, SV.ok_mono hle' s x2⟩

theorem Gam.memSees {hp : List Chunk} (hg : Gam C ro0 F st a w) (h : Sees st.heap hp) : MemIs C.E ro0 F hp w := by
  obtain ⟨ro, H, hle, g⟩ := hg
  obtain ⟨H', X, h1, h2⟩ := h ro H g.heap
  refine ⟨ro, H', hle, h2, Sat.drop (H := X) (g.sat.perm ?_)⟩
  rw [← List.append_assoc]
  exact (h1.trans List.perm_append_comm).append_right F
theorem cells1_see {b : Nat} {T : TypeId} {s s' : SV} (h1 : s'.den = s.den) (h2 : ∀ ro, s.ok ro → s'.ok ro) (ro : RO) (H : Hp) (h : (Chunk.cells b T [s]).sat ro H) : (Chunk.cells b T [s']).sat ro H := by
  obtain ⟨e, h⟩ := h
  refine ⟨by rw [e]; simp [SV.dens, h1], ?_⟩
  simp only [SV.oks] at h ⊢
  exact ⟨h2 ro h.1, trivial⟩
end
end Go.SX
