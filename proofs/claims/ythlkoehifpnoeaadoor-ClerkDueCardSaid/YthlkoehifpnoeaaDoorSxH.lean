/- The rules of control and of the operations. -/
import Derived.Test.YthlkoehifpnoeaaDoorSxG
namespace Go.SX
section
variable {S : Setup} {k : List Frag} {st : St}

/-- what is at the end of the frames' list when an exit is taken -/
def exitK : Nat → List Frag → List Frag
  | _, [] => []
  | id, .blk id' :: k => bif id == id' then k else exitK id k
  | _, .bot J :: k => .bot J :: k
  | id, _ :: k => exitK id k
def hasBlk : Nat → List Frag → Bool
  | _, [] => false
  | id, .blk id' :: k => (id == id') || hasBlk id k
  | _, .bot _ :: _ => false
  | id, _ :: k => hasBlk id k
/-- a round's end below -/
def botK : List Frag → Option (RO → Hp → Exit → Act → World → Prop)
  | [] => none
  | .bot J :: _ => some J
  | _ :: k => botK k

theorem contK_exit {ro0 : RO} {F : Hp} {a : Act} {w : World} {id : Nat} : ∀ {k : List Frag}, hasBlk id k = true → contK S ro0 F (exitK id k) .normal a w → contK S ro0 F k (.exit id) a w
  | .blk id' :: k, hb, h => by
    simp only [exitK] at h
    simp only [contK]
    cases he : (id == id') with
    | true =>
      rw [he] at h
      rw [if_pos (by simpa using he)]
      exact h
    | false =>
      rw [he] at h
      rw [if_neg (by simpa using he)]
      simp only [hasBlk, he, Bool.false_or] at hb
      exact contK_exit hb h
  | .ops _ :: k, hb, h => by simp only [contK]; exact contK_exit (k := k) (by simpa [hasBlk] using hb) (by simpa [exitK] using h)
  | .code _ :: k, hb, h => by simp only [contK]; exact contK_exit (k := k) (by simpa [hasBlk] using hb) (by simpa [exitK] using h)
  | .lend _ :: k, hb, h => by simp only [contK]; exact contK_exit (k := k) (by simpa [hasBlk] using hb) (by simpa [exitK] using h)
  | .opn .. :: k, hb, h => by simp only [contK]; exact contK_exit (k := k) (by simpa [hasBlk] using hb) (by simpa [exitK] using h)
  | .bot _ :: k, hb, _ => by simp [hasBlk] at hb
  | [], hb, _ => by simp [hasBlk] at hb

theorem contK_bot {ro0 : RO} {F : Hp} {a : Act} {w : World} {e : Exit} {J : RO → Hp → Exit → Act → World → Prop} (he : e = .ret ∨ ∃ id, e = .exit id) : ∀ {k : List Frag}, botK k = some J → (∀ id, e = .exit id → hasBlk id k = false) → J ro0 F e a w → contK S ro0 F k e a w
  | .blk id' :: k, hb, hn, h => by
    rcases he with rfl | ⟨id, rfl⟩ <;> simp only [contK]
    · exact contK_bot (k := k) (.inl rfl) (by simpa [botK] using hb) (fun id h => by cases h) h
    · have := hn id rfl
      simp only [hasBlk, Bool.or_eq_false_iff] at this
      rw [if_neg (by simpa using this.1)]
      exact contK_bot (k := k) (.inr ⟨id, rfl⟩) (by simpa [botK] using hb) (fun id' h => by cases h; exact this.2) h
  | .ops _ :: k, hb, hn, h => by
    rcases he with rfl | ⟨id, rfl⟩ <;> simp only [contK]
    · exact contK_bot (k := k) (.inl rfl) (by simpa [botK] using hb) (fun id h => by cases h) h
    · exact contK_bot (k := k) (.inr ⟨id, rfl⟩) (by simpa [botK] using hb) (by simpa [hasBlk] using hn) h
  | .code _ :: k, hb, hn, h => by
    rcases he with rfl | ⟨id, rfl⟩ <;> simp only [contK]
    · exact contK_bot (k := k) (.inl rfl) (by simpa [botK] using hb) (fun id h => by cases h) h
    · exact contK_bot (k := k) (.inr ⟨id, rfl⟩) (by simpa [botK] using hb) (by simpa [hasBlk] using hn) h
  | .lend _ :: k, hb, hn, h => by
    rcases he with rfl | ⟨id, rfl⟩ <;> simp only [contK]
    · exact contK_bot (k := k) (.inl rfl) (by simpa [botK] using hb) (fun id h => by cases h) h
    · exact contK_bot (k := k) (.inr ⟨id, rfl⟩) (by simpa [botK] using hb) (by simpa [hasBlk] using hn) h
  | .opn .. :: k, hb, hn, h => by
    rcases he with rfl | ⟨id, rfl⟩ <;> simp only [contK]
    · exact contK_bot (k := k) (.inl rfl) (by simpa [botK] using hb) (fun id h => by cases h) h
    · exact contK_bot (k := k) (.inr ⟨id, rfl⟩) (by simpa [botK] using hb) (by simpa [hasBlk] using hn) h
  | .bot J' :: k, hb, _, h => by
    simp only [botK, Option.some.injEq] at hb
    subst hb
    simp only [contK]
    exact h
  | [], hb, _, _ => by simp [botK] at hb

theorem contK_ret {ro0 : RO} {F : Hp} {a : Act} {w : World} : ∀ {k : List Frag}, (botK k).isNone = true → contK S ro0 F [] .ret a w → contK S ro0 F k .ret a w
  | [], _, h => h
  | .blk _ :: k, hb, h => by simp only [contK]; exact contK_ret (k := k) (by simpa [botK] using hb) h
  | .ops _ :: k, hb, h => by simp only [contK]; exact contK_ret (k := k) (by simpa [botK] using hb) h
  | .code _ :: k, hb, h => by simp only [contK]; exact contK_ret (k := k) (by simpa [botK] using hb) h
  | .lend _ :: k, hb, h => by simp only [contK]; exact contK_ret (k := k) (by simpa [botK] using hb) h
  | .opn .. :: k, hb, h => by simp only [contK]; exact contK_ret (k := k) (by simpa [botK] using hb) h
  | .bot _ :: k, hb, _ => by simp [botK] at hb

theorem comp_skip {P : Program} {N : Nat} {code : Code} (h : comp P N code = some .skip) : code = .skip := by
  cases code <;> try simp only [comp, Option.map_eq_some_iff, reduceCtorEq, and_false, exists_false, Option.some.injEq] at h
  case skip => rfl
  all_goals (first | (split at h <;> simp at h; done) | (rename_i d; cases d <;> simp only [comp] at h <;> split at h <;> (try (simp at h; done)) <;> (simp only [Option.map_eq_some_iff] at h; obtain ⟨ls, _, h⟩ := h; unfold altC at h; split at h <;> simp at h)))

theorem comp_seq {P : Program} {N : Nat} {code : Code} {x y : SCode} (h : comp P N code = some (.seq x y)) : ∃ a b, code = .seq a b ∧ comp P N a = some x ∧ comp P N b = some y := by
  cases code <;> try simp only [comp, Option.map_eq_some_iff, reduceCtorEq, and_false, exists_false, Option.some.injEq] at h
  case seq a b =>
    split at h
    · rename_i h1 h2
      simp only [Option.some.injEq, SCode.seq.injEq] at h
      obtain ⟨rfl, rfl⟩ := h
      exact ⟨a, b, rfl, h1, h2⟩
    · cases h
  all_goals (first | (split at h <;> simp at h; done) | (rename_i d; cases d <;> simp only [comp] at h <;> split at h <;> (try (simp at h; done)) <;> (simp only [Option.map_eq_some_iff] at h; obtain ⟨ls, _, h⟩ := h; unfold altC at h; split at h <;> simp at h)))

theorem comp_cond {P : Program} {N : Nat} {code : Code} {c : Opd} {x y : SCode} (h : comp P N code = some (.cond c x y)) :
    ∃ c0 a b, code = .cond c0 a b ∧ copd c0 = some c ∧ comp P N a = some x ∧ comp P N b = some y := by
  cases code <;> try simp only [comp, Option.map_eq_some_iff, reduceCtorEq, and_false, exists_false, Option.some.injEq] at h
  case cond c0 a b =>
    split at h
    · rename_i h1 h2 h3
      simp only [Option.some.injEq, SCode.cond.injEq] at h
      obtain ⟨rfl, rfl, rfl⟩ := h
      exact ⟨c0, a, b, rfl, h1, h2, h3⟩
    · cases h
  all_goals (first | (split at h <;> simp at h; done) | (rename_i d; cases d <;> simp only [comp] at h <;> split at h <;> (try (simp at h; done)) <;> (simp only [Option.map_eq_some_iff] at h; obtain ⟨ls, _, h⟩ := h; unfold altC at h; split at h <;> simp at h)))

theorem comp_block {P : Program} {N : Nat} {code : Code} {id : Nat} {x : SCode} (h : comp P N code = some (.block id x)) : ∃ a, code = .block id a ∧ comp P N a = some x := by
  cases code <;> try simp only [comp, Option.map_eq_some_iff, reduceCtorEq, and_false, exists_false, Option.some.injEq, SCode.block.injEq] at h
  case block id' a =>
    obtain ⟨x', h1, rfl, rfl⟩ := h
    exact ⟨a, rfl, h1⟩
  all_goals (first | (split at h <;> simp at h; done) | (rename_i d; cases d <;> simp only [comp] at h <;> split at h <;> (try (simp at h; done)) <;> (simp only [Option.map_eq_some_iff] at h; obtain ⟨ls, _, h⟩ := h; unfold altC at h; split at h <;> simp at h)))

theorem comp_loop {P : Program} {N : Nat} {code : Code} {x : SCode} (h : comp P N code = some (.loop x)) : ∃ a, code = .loop a ∧ comp P N a = some x := by
  cases code <;> try simp only [comp, Option.map_eq_some_iff, reduceCtorEq, and_false, exists_false, Option.some.injEq, SCode.loop.injEq] at h
  case loop a =>
    obtain ⟨x', h1, rfl⟩ := h
    exact ⟨a, rfl, h1⟩
  all_goals (first | (split at h <;> simp at h; done) | (rename_i d; cases d <;> simp only [comp] at h <;> split at h <;> (try (simp at h; done)) <;> (simp only [Option.map_eq_some_iff] at h; obtain ⟨ls, _, h⟩ := h; unfold altC at h; split at h <;> simp at h)))

theorem comp_exit {P : Program} {N : Nat} {code : Code} {id : Nat} (h : comp P N code = some (.exit id)) : code = .exit id := by
  cases code <;> try simp only [comp, Option.map_eq_some_iff, reduceCtorEq, and_false, exists_false, Option.some.injEq, SCode.exit.injEq] at h
  case exit id' => rw [h]
  all_goals (first | (split at h <;> simp at h; done) | (rename_i d; cases d <;> simp only [comp] at h <;> split at h <;> (try (simp at h; done)) <;> (simp only [Option.map_eq_some_iff] at h; obtain ⟨ls, _, h⟩ := h; unfold altC at h; split at h <;> simp at h)))

theorem comp_ret {P : Program} {N : Nat} {code : Code} (h : comp P N code = some .ret) : code = .ret := by
  cases code <;> try simp only [comp, Option.map_eq_some_iff, reduceCtorEq, and_false, exists_false, Option.some.injEq] at h
  case ret => rfl
  all_goals (first | (split at h <;> simp at h; done) | (rename_i d; cases d <;> simp only [comp] at h <;> split at h <;> (try (simp at h; done)) <;> (simp only [Option.map_eq_some_iff] at h; obtain ⟨ls, _, h⟩ := h; unfold altC at h; split at h <;> simp at h)))

theorem safe_skip (h : Safe S k st) : Safe S (.code .skip :: k) st := by
  intro ro0 F a w hg code hc
  rw [comp_skip hc]
  exact wpIn_skip (h ro0 F a w hg)

theorem thenK {ro0 : RO} {F : Hp} {c : SCode} {code : Code} (hc : comp S.C.P S.C.N code = some c) (e : Exit) (a : Act) (w : World) (h : contK S ro0 F (.code c :: k) e a w) :
    Exit.then (fun a w => code.wpIn (fw S.C.rd) 0 S.C.P (contK S ro0 F k) a w) (contK S ro0 F k) e a w := by
  cases e <;> simp only [contK] at h <;> simp only [Exit.then]
  case normal => exact h code hc
  all_goals exact h

theorem safe_seq {x y : SCode} (h : Safe S (.code x :: .code y :: k) st) : Safe S (.code (.seq x y) :: k) st := by
  intro ro0 F a w hg code hc
  obtain ⟨x0, y0, rfl, hx, hy⟩ := comp_seq hc
  exact wpIn_seq (wpIn_mono (h ro0 F a w hg x0 hx) fun e a w he => thenK hy e a w he)

theorem safe_cond {c : Opd} {x y : SCode} {p : Bool} (hc : opv st.env c = some (.val (.bool p))) (ht : p = true → Safe S (.code x :: k) st) (hf : p = false → Safe S (.code y :: k) st) :
    Safe S (.code (.cond c x y) :: k) st := by
  intro ro0 F a w hg code hcode
  obtain ⟨c0, x0, y0, rfl, h1, hx, hy⟩ := comp_cond hcode
  obtain ⟨ro, H, hle, g⟩ := hg
  obtain ⟨h2, _⟩ := opv_ok g h1 hc
  exact wpIn_cond_split (t := p) h2 (fun h => ht h ro0 F a w ⟨ro, H, hle, g⟩ x0 hx) (fun h => hf h ro0 F a w ⟨ro, H, hle, g⟩ y0 hy)

theorem safe_block {id : Nat} {x : SCode} (h : Safe S (.code x :: .blk id :: k) st) : Safe S (.code (.block id x) :: k) st := by
  intro ro0 F a w hg code hcode
  obtain ⟨x0, rfl, hx⟩ := comp_block hcode
  refine wpIn_block (wpIn_mono (h ro0 F a w hg x0 hx) fun e a w he => ?_)
  cases e <;> simp only [contK] at he <;> simp only [Exit.inBlock] <;> exact he

theorem safe_blk {id : Nat} (h : Safe S k st) : Safe S (.blk id :: k) st := by
  intro ro0 F a w hg
  simp only [contK]
  exact h ro0 F a w hg

theorem safe_exit {id : Nat} (hb : hasBlk id k = true) (h : Safe S (exitK id k) st) : Safe S (.code (.exit id) :: k) st := by
  intro ro0 F a w hg code hcode
  rw [comp_exit hcode]
  exact wpIn_exit (contK_exit hb (h ro0 F a w hg))

/-- the slots of a function's results -/
def retV (env : List (Nat × SV)) : List ResultVar → Option (List SV)
  | [] => some []
  | .tmp t :: rs => match look env t, retV env rs with | some s, some l => some (s :: l) | _, _ => none
  | .cell _ _ :: _ => none
def retS : List SV → SV
  | [s] => s
  | l => .tup l

def resF (tmps : Array Value) (r : ResultVar) : Sem Value :=
  match r with
  | .tmp t => pure (tmps.getD t undef)
  | .cell a t => do loadVar t (← asAddr (tmps.getD a undef))

theorem retV_ok {C : Ctx} {ro : RO} {H F : Hp} {a : Act} {w : World} (g : G C ro H F st a w) : ∀ {rs : List ResultVar} {l : List SV}, retV st.env rs = some l →
    (rs.mapM (resF a.tmps)).run C.P w = Result.ok (SV.dens l) w ∧ SV.oks ro l
  | [], l, h => by
    simp only [retV, Option.some.injEq] at h
    subst h
    simp [SV.dens, SV.oks]
  | .cell _ _ :: _, l, h => by simp [retV] at h
  | .tmp t :: rs, l, h => by
    simp only [retV] at h
    split at h
    · rename_i s l' h1 h2
      injection h with h
      subst h
      obtain ⟨i1, i2⟩ := retV_ok g h2
      obtain ⟨e1, e2⟩ := g.env t s h1
      refine ⟨?_, by simp only [SV.oks]; exact ⟨e2, i2⟩⟩
      have e3 : a.tmps.getD t undef = s.den := by simp [e1]
      simp only [List.mapM_cons, Sem.run_bind, resF, Sem.run_pure, Result.andThen_ok, i1, SV.dens, e3]
    · cases h

theorem results_ok {C : Ctx} {ro : RO} {H F : Hp} {a : Act} {w : World} (g : G C ro H F st a w) {fn : Func} {l : List SV} (h : retV st.env fn.results.toList = some l) :
    (results fn a.tmps).run C.P w = .ok (retS l).den w ∧ (retS l).ok ro := by
  obtain ⟨h1, h2⟩ := retV_ok g h
  have e : results fn a.tmps = (do let vs ← fn.results.mapM (resF a.tmps); pure (if h : vs.size = 1 then vs[0] else .tuple vs) : Sem Value) := rfl
  have e2 : (fn.results.mapM (resF a.tmps)) = (do pure (← fn.results.toList.mapM (resF a.tmps)).toArray : Sem (Array Value)) := by
    rw [Array.mapM_eq_mapM_toList]; rfl
  rw [e, e2]
  refine ⟨?_, ?_⟩
  · simp only [Sem.run_bind, h1, Result.andThen_ok, Sem.run_pure]
    match l with
    | [] => simp [retS, SV.den, SV.dens]
    | [s] => simp [retS, SV.dens]
    | s :: t :: l => simp [retS, SV.den, SV.dens]
  · match l with
    | [] => simp only [retS, SV.ok, SV.oks]
    | [s] => simp only [SV.oks] at h2; exact h2.1
    | s :: t :: l => simp only [retS, SV.ok]; exact h2

theorem fin_of {ro0 : RO} {F : Hp} {a : Act} {w : World} (hg : Gam S.C ro0 F st a w) {l : List SV} (hr : retV st.env S.fn.results.toList = some l) (hp : S.Post (retS l) st.heap) (hD : S.C.D = []) :
    a.defers = [] ∧ ∃ v, (results S.fn a.tmps).run S.C.P w = .ok v w ∧ Fin S.C.E ro0 F S.Post (.returned v) w := by
  obtain ⟨ro, H, hle, g⟩ := hg
  obtain ⟨h1, h2⟩ := results_ok g hr
  exact ⟨by rw [g.defs, hD]; rfl, _, h1, _, _, ro, H, rfl, hp, hle, h2, g.heap, g.sat⟩

theorem leave_of {P : Program} {fn : Func} {R : Ending → World → Prop} {a : Act} {w : World} (h : a.defers = [] ∧ ∃ v, (results fn a.tmps).run P w = .ok v w ∧ R (.returned v) w) : LeavesInM Fence.wide 0 P fn a.tmps R a.defers .returning w := by
  rw [h.1]
  exact h.2
theorem safe_ret {l : List SV} (hr : retV st.env S.fn.results.toList = some l) (hp : S.Post (retS l) st.heap) (hD : S.C.D = []) (hk : (botK k).isNone = true) : Safe S (.code .ret :: k) st := by
  intro ro0 F a w hg code hcode
  rw [comp_ret hcode]
  exact wpIn_ret (contK_ret hk (by simp only [contK]; exact leave_of (fin_of hg hr hp hD)))

theorem safe_end {l : List SV} (hr : retV st.env S.fn.results.toList = some l) (hp : S.Post (retS l) st.heap) (hD : S.C.D = []) : Safe S [] st := by
  intro ro0 F a w hg
  simp only [contK]
  exact leave_of (fin_of hg hr hp hD)

/-- a loop by a ghost -/
theorem wp_loop_ghost {Fc : Fence} {n : Nat} {P : Program} {c : Code} {Q : Exit → Act → World → Prop} {a : Act} {w : World} {ι : Type} (I : ι → Act → World → Prop) (μ : ι → Nat) (i0 : ι) (h0 : I i0 a w)
    (round : ∀ i a w, I i a w → c.wpIn Fc n P (Exit.then (fun a' w' => ∃ i', μ i' < μ i ∧ I i' a' w') Q) a w) : (Code.loop c).wpIn Fc n P Q a w := by
  intro b k cs hro hb hr
  have key : ∀ j i a w, μ i = j → I i a w →
      ∃ e a' w', Q e a' w' ∧ ArrivesIn (Machine.fenced P Fc) P (lone (b.atR a (.code c :: .inLoop c :: k)) cs w) b k cs e a' w' := by
    intro j
    induction j using Nat.strongRecOn with
    | _ j ih =>
      intro i a w hn hI
      obtain ⟨e, a₁, w₁, hq, harr⟩ := round i a w hI b (.inLoop c :: k) cs hro hb hr
      cases e with
      | normal =>
        obtain ⟨i', hlt, hI₁⟩ := hq
        obtain ⟨e₂, a₂, w₂, hq₂, harr₂⟩ := ih (μ i') (hn ▸ hlt) i' a₁ w₁ rfl hI₁
        exact ⟨e₂, a₂, w₂, hq₂, .of_steps (StepsIn.trans harr (.one (fenced_calm hb hr rfl) stepR_inLoop)) harr₂⟩
      | exit id => exact ⟨_, a₁, w₁, hq, .pass (x := .inLoop c) rfl (fun _ _ => .inl (by simp)) harr⟩
      | goto l => exact ⟨_, a₁, w₁, hq, .pass (x := .inLoop c) rfl (fun _ _ => .inl (by simp)) harr⟩
      | ret => exact ⟨_, a₁, w₁, hq, .pass (x := .inLoop c) rfl (fun _ _ => .inl (by simp)) harr⟩
      | panic ch => exact ⟨_, a₁, w₁, hq, .pass (x := .inLoop c) rfl (fun _ _ => .inl (by simp)) harr⟩
      | outgrown => exact ⟨_, a₁, w₁, hq, .pass (x := .inLoop c) rfl (fun _ _ => .inl (by simp)) harr⟩
  obtain ⟨e, a', w', hq, harr⟩ := key _ i0 a w rfl h0
  exact ⟨e, a', w', hq, .of_steps (.one (fenced_calm hb hr rfl) stepR_loop) harr⟩

/-- less is known -/
def Sub (st st' : St) : Prop :=
  (∀ t s, look st'.env t = some s → ∃ s0, look st.env t = some s0 ∧ s0.den = s.den ∧ ∀ ro, s0.ok ro → s.ok ro) ∧
  ∀ ro H, hsat ro st.heap H → ∃ H' X, H.Perm (H' ++ X) ∧ hsat ro st'.heap H'

theorem Sub.gam {C : Ctx} {st st' : St} {ro0 : RO} {F : Hp} {a : Act} {w : World} (h : Sub st st') (hg : Gam C ro0 F st a w) : Gam C ro0 F st' a w := by
  obtain ⟨ro, H, hle, g⟩ := hg
  obtain ⟨H', X, hp, hs⟩ := h.2 ro H g.heap
  refine ⟨ro, H', hle, g.defs, g.size, hs, ?_, fun t s ht => ?_⟩
  · refine Sat.drop (H := X) (g.sat.perm ?_)
    refine (hp.append_right F).trans ?_
    rw [← List.append_assoc]
    exact List.Perm.append_right F List.perm_append_comm
  · obtain ⟨s0, h1, h2, h3⟩ := h.1 t s ht
    obtain ⟨h4, h5⟩ := g.env t s0 h1
    exact ⟨by rw [h4, h2], h3 ro h5⟩

theorem Safe.sub {st st' : St} (h : Sub st st') (hs : Safe S k st') : Safe S k st := fun ro0 F a w hg => hs ro0 F a w (h.gam hg)

def envSub (env : List (Nat × SV)) : List (Nat × SV) → Prop
  | [] => True
  | (t, s) :: r => look env t = some s ∧ envSub env r
theorem envSub_ok {env : List (Nat × SV)} : ∀ {env' : List (Nat × SV)}, envSub env env' → ∀ t s, look env' t = some s → look env t = some s
  | [], _, t, s, h => by simp [look] at h
  | (t', s') :: r, hs, t, s, h => by
    simp only [look] at h
    cases he : (t' == t) with
    | true =>
      rw [he, cond_true] at h
      injection h with h
      subst h
      have : t' = t := by simpa using he
      subst this
      exact hs.1
    | false =>
      rw [he, cond_false] at h
      exact envSub_ok hs.2 t s h

/-- less is known of the slots; of the memory a front is kept -/
theorem Sub.front {st st' : St} {X : List Chunk} (he : envSub st.env st'.env) (hh : st.heap = st'.heap ++ X) : Sub st st' := by
  refine ⟨fun t s ht => ⟨s, envSub_ok he t s ht, rfl, fun _ h => h⟩, fun ro H hs => ?_⟩
  rw [hh, hsat_append] at hs
  obtain ⟨H1, H2, rfl, h1, _⟩ := hs
  exact ⟨H1, H2, List.Perm.refl _, h1⟩

def lendJ {ι : Type} (C : Ctx) (inv : ι → St) (μ : ι → Nat) (i : ι) : RO → Hp → Act → World → Prop := fun ro0 F a w => ∃ i', μ i' < μ i ∧ Gam C ro0 F (inv i') a w

theorem safe_loop {ι : Type} (inv : ι → St) (μ : ι → Nat) (i0 : ι) {x : SCode} (h0 : Sub st (inv i0)) (round : ∀ i, Safe S (.code x :: .lend (lendJ S.C inv μ i) :: k) (inv i)) :
    Safe S (.code (.loop x) :: k) st := by
  intro ro0 F a w hg code hcode
  obtain ⟨x0, rfl, hx⟩ := comp_loop hcode
  refine wp_loop_ghost (fun i a w => Gam S.C ro0 F (inv i) a w) μ i0 (h0.gam hg) fun i a w hi => ?_
  refine wpIn_mono (round i ro0 F a w hi x0 hx) fun e a w he => ?_
  cases e <;> simp only [contK] at he <;> simp only [Exit.then] <;> exact he

theorem safe_lend {ι : Type} {inv : ι → St} {μ : ι → Nat} {i : ι} (i' : ι) (hlt : μ i' < μ i) (hs : Sub st (inv i')) : Safe S (.lend (lendJ S.C inv μ i) :: k) st := by
  intro ro0 F a w hg
  simp only [contK]
  exact ⟨i', hlt, hs.gam hg⟩

/-- the beginning of a function -/
def env0 : Nat → List SV → List (Nat × SV)
  | _, [] => []
  | n, s :: l => (n, s) :: env0 (n + 1) l
theorem env0_ok : ∀ (l : List SV) (n t : Nat) (s : SV), look (env0 n l) t = some s → n ≤ t ∧ l[t - n]? = some s
  | [], n, t, s, h => by simp [env0, look] at h
  | x :: l, n, t, s, h => by
    simp only [env0, look] at h
    cases he : (n == t) with
    | true =>
      rw [he, cond_true] at h
      injection h with h
      have : n = t := by simpa using he
      subst this
      subst h
      simp
    | false =>
      rw [he, cond_false] at h
      obtain ⟨h1, h2⟩ := env0_ok l (n + 1) t s h
      refine ⟨by omega, ?_⟩
      rw [show t - n = (t - (n + 1)) + 1 by omega]
      simpa using h2

theorem spec_of {P : Program} {E : Env} {f : FuncId} {fn : Func} {c : Code} {sc : SCode} {args args' : List SV} {heap heap' : List Chunk} {Post : SV → List Chunk → Prop} {n : Nat} (keep : List Nat) (hf : P.funcs[f]? = some fn) (hb : fn.body = some c) (hnt : fn.ntmps = n)
    (hc : comp P n (fn.body.getD .skip) = some sc) (hn : args'.length ≤ n) (ha : SV.dens args = SV.dens args' ∧ ∀ ro, SV.oks ro args → SV.oks ro args') (hh : ∀ ro H, hsat ro heap H → hsat ro heap' H)
    (h : Safe ⟨{ P := P, E := E, N := n }, fn, Post, keep⟩ [.code sc] ⟨env0 0 args', heap'⟩) : Spec P E f args heap Post := by
  intro ro F H w hh0 ha0 hs
  rw [hb] at hc
  rw [ha.1]
  have ha1 := ha.2 ro ha0
  have hh1 := hh ro H hh0
  clear ha0 hh0
  refine (callsIn_wide (n := 0)).1 (callsIn_of_wp_marks hf hb trivial ?_)
  have hsz : (SV.dens args').length = args'.length := by rw [dens_eq]; simp
  have := h ro F { tmps := (SV.dens args').toArray ++ Array.replicate (fn.ntmps - (SV.dens args').toArray.size) undef, defers := [] } w
    ⟨ro, H, ROle.refl ro, rfl, by simp [hsz, hnt]; omega, hh1, hs, fun t s ht => ?_⟩ c hc
  · exact this
  · obtain ⟨_, h2⟩ := env0_ok args' 0 t s ht
    simp only [Nat.sub_zero] at h2
    refine ⟨?_, oks_iff.1 ha1 _ (List.mem_of_getElem? h2)⟩
    have hlt : t < args'.length := (List.getElem?_eq_some_iff.1 h2).1
    rw [Array.getElem?_append_left (by simp [hsz]; exact hlt)]
    simp [dens_eq, h2]
end
end Go.SX
