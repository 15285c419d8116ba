/- Loops over functions. -/
import Derived.Test.YthlkoehifpnoeaaDoorSxO
import Derived.RangeFuncSeq
namespace Go.SX

/-- what a loop's round comes to, as its iterator sees it -/
def YSpec (P : Program) (E : Env) (l : Nat) (args : List SV) (heap : List Chunk) (Post : SV → List Chunk → Prop) : Prop :=
  ∀ ro F H w, hsat ro heap H → SV.oks ro args → Sat E ro (H ++ F) w → YieldAt (fw none) 0 P l (SV.dens args).toArray w (Fin E ro F Post)

def dfrC (d : Nat) : Chunk := .abs ⟨fun _ H => H = [(d, .deferred (some []))], fun _ _ _ _ h => h⟩

section
variable {S : Setup} {k : List Frag} {st : St} {C : Ctx} {ro ro0 : RO} {H F : Hp} {a : Act} {w : World}

theorem stp_yield {d : Option Nat} {f : Opd} {xs : List Opd} {ps : List SOp} {l : List (SOp × List SOp)} {lp : Nat} {ss : List SV} (is : List Nat)
    (hf : opv st.env f = some (.fn (.yield lp) [] [])) (hx : opvs st.env xs = some ss)
    {args : List SV} {heap : List Chunk} {Post : SV → List Chunk → Prop} (hspec : YSpec S.C.P S.C.E lp args heap Post)
    (hargs : SV.dens args = SV.dens ss) (hok : ∀ ro, SV.oks ro ss → SV.oks ro args) (hidx : callIdx is st.heap.length = true)
    (hheap : ∀ ro H, hsat ro (pick st.heap is) H → hsat ro heap H)
    (h : ∀ v heap', Post v heap' → match d with
      | some d => recheck S.C ⟨(d, v) :: st.env, place st.heap is heap'⟩ ps ∧ Safe S (.ops l :: k) ⟨(d, v) :: st.env, place st.heap is heap'⟩
      | none => recheck S.C ⟨st.env, place st.heap is heap'⟩ ps ∧ Safe S (.ops l :: k) ⟨st.env, place st.heap is heap'⟩) :
    Stp S k l ps st (.call d f xs) := by
  intro ro0 F a w o hg he
  obtain ⟨f0, xs0, ts, i1, i2, i3, i4, i5⟩ := ceff_inv he
  obtain ⟨ro, H, hle, g⟩ := hg
  obtain ⟨e1, e2⟩ := opv_ok g i3 hf
  obtain ⟨e3, e4⟩ := opvs_ok g i4 hx
  simp only [callIdx, Bool.and_eq_true, decide_eq_true_eq, List.all_eq_true] at hidx
  obtain ⟨H1, H2, hp, h1, h2⟩ := hsat_pick is st.heap H g.heap hidx.2
  have hsat1 : Sat S.C.E ro (H1 ++ (H2 ++ F)) w := g.sat.perm (by rw [← List.append_assoc]; exact hp.append_right F)
  obtain ⟨fn, tmps, assign, body, hy, hr⟩ := hspec ro (H2 ++ F) H1 w (hheap ro H1 h1) (hok ro e4) hsat1
  have hargsv : (xs0.map a.eval) = (SV.dens args).toArray := by
    apply Array.ext'
    simp only [Array.toList_map, e3, hargs]
  have hrun : (execOp a.eval o).run S.C.P w = .ok (.round lp fn tmps assign body) w := by
    obtain ⟨dst, op, ty, pos, aft, gd⟩ := o
    simp only at i1
    subst i1
    simp only [execOp, resolve, Sem.run_bind, e1, SV.den, SV.dens, Deferred.ofValue, Sem.run_pure, Result.andThen_ok, invoke, hargsv]
    simpa using hy
  rw [hrun]
  simp only [Oper.uponIn]
  refine ⟨fun h => (by cases h), RoundIn.mono (show RoundIn (fw S.C.rd) (0 - 1) S.C.P lp fn tmps assign body w _ from hr) fun e w' hfin => ?_⟩
  obtain ⟨v, heap', ro', H', rfl, hpost, hle', hvok, hh', hs'⟩ := hfin
  obtain ⟨k1, k2⟩ := setCs_emp is st.heap hidx.2
  obtain ⟨H3, hp3, hs3⟩ := hsat_place is (setCs st.heap is) heap' H' H2 hidx.1 (fun i hi => by rw [k2]; exact hidx.2 i hi) k1 (hsat_mono hle' h2) hh'
  rw [← place_eq is st.heap heap' hidx.1] at hs3
  have g' : G S.C ro' H3 F ⟨st.env, place st.heap is heap'⟩ a w' := by
    refine ⟨g.defs, g.size, hs3, hs'.perm ?_, fun t s ht => ?_⟩
    · rw [← List.append_assoc]
      exact hp3.symm.append_right F
    · obtain ⟨x1, x2⟩ := g.env t s ht
      exact ⟨x1, SV.ok_mono hle' s x2⟩
  have hh := h v heap' hpost
  simp only
  rw [i2]
  cases d with
  | none => exact ⟨_, ⟨ro', H3, hle.trans hle', g'⟩, hh.1, hh.2⟩
  | some d =>
    have hd : d < S.C.N := by simpa using i5
    exact ⟨_, ⟨ro', H3, hle.trans hle', g'.put hd hvok⟩, hh.1, hh.2⟩

def pureC (p : Prop) : Chunk := .abs ⟨fun _ H => H = [] ∧ p, fun _ _ _ _ h => h⟩
theorem hsat_pure {p : Prop} {hp : List Chunk} (hh : p) (h : hsat ro hp H) : hsat ro (hp ++ [pureC p]) H :=
  hsat_append.2 ⟨H, [], by simp, h, [], [], rfl, ⟨rfl, hh⟩, rfl⟩
theorem hsat_set {ro : RO} : ∀ {hp : List Chunk} {H : Hp} (c : Nat) {d : Chunk}, (∀ H, (getC hp c).sat ro H → d.sat ro H) → hsat ro hp H → hsat ro (setC hp c d) H
  | [], _, _, _, _, hs => hs
  | _ :: _, _, 0, _, h, ⟨H1, H2, he, h1, h2⟩ => ⟨H1, H2, he, h _ h1, h2⟩
  | _ :: _, _, _ + 1, _, h, ⟨H1, H2, he, h1, h2⟩ => ⟨H1, H2, he, h1, hsat_set _ h h2⟩
theorem safe_pure {p : Prop} (c : Nat) (hc : getC st.heap c = pureC p) (h : p → Safe S k st) : Safe S k st := by
  rintro ro0 F a w ⟨ro, H, hle, g⟩
  obtain ⟨Hb, H2, _, hbox, _⟩ := hsat_at c g.heap (getC_lt (by rw [hc]; simp [pureC]))
  rw [hc] at hbox
  exact h hbox.2 ro0 F a w ⟨ro, H, hle, g⟩

theorem Sat.turn {e : Env} {l : Nat} {o : Obj} (o' : Obj) {X Y : Hp} (h : Sat e ro (X ++ (l, o) :: Y) w) : w.heap[l]? = some o ∧ Sat e ro (X ++ (l, o') :: Y) (w.putObj l o') := by
  have h1 := (h.own (l, o) (by simp)).1
  have hlt : l < w.heap.size := (Array.getElem?_eq_some_iff.1 h1).1
  refine ⟨h1, ?_⟩
  have h2 : Sat e ro ((l, o) :: (X ++ Y)) w := h.perm List.perm_middle
  exact (h2.set (o' := o') (w' := w.putObj l o') rfl rfl rfl (World.putObj_heap_same hlt) (fun k hk => World.putObj_heap_other hk)).perm List.perm_middle.symm

theorem Gam.turn {l : Nat} {o : Obj} (o' : Obj) (h : Gam C ro0 ((l, o) :: F) st a w) : w.heap[l]? = some o ∧ Gam C ro0 ((l, o') :: F) st a (w.putObj l o') := by
  obtain ⟨ro, H, hle, g⟩ := h
  obtain ⟨h1, h2⟩ := Sat.turn o' g.sat
  exact ⟨h1, ro, H, hle, g.defs, g.size, g.heap, h2, g.env⟩

def withD (S : Setup) (D : List Nat) : Setup := { S with C := { S.C with D := D } }
def inRd (S : Setup) (l : Nat) : Setup := { S with C := { S.C with D := [], rd := some l } }
theorem contK_D (S : Setup) (D : List Nat) (ro0 : RO) (F : Hp) : ∀ (k : List Frag), contK (withD S D) ro0 F k = contK S ro0 F k
  | [] => by funext e a w; rfl
  | .ops l :: k => by
    funext e a w
    cases e <;> simp only [contK, contK_D S D ro0 F k] <;> rfl
  | .code c :: k => by
    funext e a w
    cases e <;> simp only [contK, contK_D S D ro0 F k] <;> rfl
  | .blk id :: k => by
    funext e a w
    cases e <;> simp only [contK, contK_D S D ro0 F k]
  | .lend J :: k => by
    funext e a w
    cases e <;> simp only [contK, contK_D S D ro0 F k]
  | .opn so ps l :: k => by
    funext e a w
    cases e <;> simp only [contK, contK_D S D ro0 F k] <;> rfl
  | .bot J :: k => by funext e a w; rfl

/-- how a round may be left early -/
inductive Jump : Exit → Code → Prop
  | ret : Jump .ret .ret
  | exit (id : Nat) : Jump (.exit id) (.exit id)

def MemIs (E : Env) (ro0 : RO) (F : Hp) (hp : List Chunk) (w : World) : Prop := ∃ ro H, ROle ro0 ro ∧ hsat ro hp H ∧ Sat E ro (H ++ F) w

def penv (ps : List Nat) (el : List SV) : List (Nat × SV) := ps.zip el

theorem comp_oth {P : Program} {N : Nat} {code : Code} {g : Operand} {ps : Array Tmp} {x y : Code} (h : comp P N code = some (.oth (.rangeFunc g ps x y))) : code = .rangeFunc g ps x y := by
  cases code <;> try simp only [comp, Option.map_eq_some_iff, reduceCtorEq, and_false, exists_false, Option.some.injEq, SCode.oth.injEq] at h
  all_goals (first | exact h | (split at h <;> simp at h; done) | (rename_i d; cases d <;> simp only [comp] at h <;> split at h <;> (try (simp at h; done)) <;> (simp only [Option.map_eq_some_iff] at h; obtain ⟨ls, _, h⟩ := h; unfold altC at h; split at h <;> simp at h)))

/-- an iterator's contract: 'n' rounds, the i-th from the end with 'el i' -/
def IterSpec (P : Program) (E : Env) (gf : FuncId) (lb : List SV) (box : Chunk) (n : Nat) (el : Nat → List SV) : Prop :=
  ∀ (l : Nat) (J : Nat → HP) (Jx : HP), (∀ i, i < n → YSpec P E l (el i) [.abs (J (i + 1))] (fun v h => (v = .val (.bool true) ∧ h = [.abs (J i)]) ∨ (v = .val (.bool false) ∧ h = [.abs Jx]))) →
    Spec P E gf (.fn (.yield l) [] [] :: lb) [box, .abs (J n)] (fun _ h => h = [box, .abs (J 0)] ∨ h = [box, .abs Jx])

theorem look_penv {env : List (Nat × SV)} : ∀ (ps : List Nat) (el : List SV) (t : Nat) (s : SV), ps.length = el.length → look (penv ps el ++ env) t = some s → (∃ j : Nat, ps[j]? = some t ∧ el[j]? = some s) ∨ (t ∉ ps ∧ look env t = some s)
  | [], _, t, s, _, h => .inr ⟨by simp, by simpa [penv] using h⟩
  | p :: ps, [], t, s, hl, h => by simp at hl
  | p :: ps, e :: el, t, s, hl, h => by
    simp only [penv, List.zip_cons_cons, List.cons_append, look] at h
    cases he : (p == t) with
    | true =>
      rw [he, cond_true] at h
      injection h with h
      have : p = t := by simpa using he
      subst this
      subst h
      exact .inl ⟨0, rfl, rfl⟩
    | false =>
      rw [he, cond_false] at h
      have hne : ¬ p = t := by simpa using he
      rcases look_penv ps el t s (by simpa using hl) h with ⟨j, h2, h3⟩ | ⟨h1, h2⟩
      · exact .inl ⟨j + 1, by simpa using h2, by simpa using h3⟩
      · exact .inr ⟨by simp only [List.mem_cons, not_or]; exact ⟨fun e => hne e.symm, h1⟩, h2⟩

theorem fold_params : ∀ (ps : List Nat) (vs : List Value) (t0 : Array Value), ps.length = vs.length → ps.Nodup → (∀ p ∈ ps, p < t0.size) →
    ((ps.zip vs).foldl (fun t (p : Nat × Value) => t.setIfInBounds p.1 p.2) t0).size = t0.size ∧
    (∀ (j p : Nat) (v : Value), ps[j]? = some p → vs[j]? = some v → ((ps.zip vs).foldl (fun t (p : Nat × Value) => t.setIfInBounds p.1 p.2) t0)[p]? = some v) ∧
    (∀ t, t ∉ ps → ((ps.zip vs).foldl (fun t (p : Nat × Value) => t.setIfInBounds p.1 p.2) t0)[t]? = t0[t]?)
  | [], [], t0, _, _, _ => ⟨rfl, by simp, fun _ _ => rfl⟩
  | [], _ :: _, _, h, _, _ => by simp at h
  | _ :: _, [], _, h, _, _ => by simp at h
  | p :: ps, v :: vs, t0, hl, hn, hlt => by
    obtain ⟨n1, n2⟩ := List.nodup_cons.1 hn
    obtain ⟨i1, i2, i3⟩ := fold_params ps vs (t0.setIfInBounds p v) (by simpa using hl) n2 (fun q hq => by simpa using hlt q (by simp [hq]))
    simp only [List.zip_cons_cons, List.foldl_cons]
    refine ⟨by rw [i1]; simp, fun j q u hq hu => ?_, fun t ht => ?_⟩
    · cases j with
      | zero =>
        simp only [List.getElem?_cons_zero, Option.some.injEq] at hq hu
        subst hq hu
        rw [i3 p n1]
        simp [hlt p (by simp)]
      | succ j => exact i2 j q u (by simpa using hq) (by simpa using hu)
    · simp only [List.mem_cons, not_or] at ht
      rw [i3 t ht.2, Array.getElem?_setIfInBounds_ne (Ne.symm ht.1)]

theorem safe_bot {J : RO → Hp → Exit → Act → World → Prop} (h : ∀ ro0 F a w, Gam S.C ro0 F st a w → J ro0 F .normal a w) : Safe S (.bot J :: k) st := h
theorem safe_ret_bot {J : RO → Hp → Exit → Act → World → Prop} (hb : botK k = some J) (h : ∀ ro0 F a w, Gam S.C ro0 F st a w → J ro0 F .ret a w) : Safe S (.code .ret :: k) st := by
  intro ro0 F a w hg code hcode
  rw [comp_ret hcode]
  exact wpIn_ret (contK_bot (.inl rfl) hb (fun id h => by cases h) (h ro0 F a w hg))
theorem Gam.memIs {hp X : List Chunk} (hg : Gam C ro0 F st a w) (h : ∀ ro H, hsat ro st.heap H → hsat ro (hp ++ X) H) : MemIs C.E ro0 F hp w := by
  obtain ⟨ro, H, hle, g⟩ := hg
  obtain ⟨H1, H2, rfl, h1, h2⟩ := hsat_append.1 (h ro H g.heap)
  refine ⟨ro, H1, hle, h1, Sat.drop (H := H2) (g.sat.perm ?_)⟩
  rw [← List.append_assoc]
  exact List.Perm.append_right F List.perm_append_comm

theorem safe_range {κ ι : Type} {g : Operand} {gop : Opd} {ps : Array Tmp} {assign body : Code} {sa sb : SCode} {gf c n : Nat} {lb : List SV} (HI : Nat → List Chunk) (XH : ι → List Chunk) (el : Nat → List SV) (stA : Nat → κ → St) {ej : Exit} {cj : Code} (hj : Jump ej cj) {scj : SCode}
    (hrd : S.C.rd = none) (hg : copd g = some gop) (hgo : opv st.env gop = some (.fn (.func gf) [] lb)) (hbody : ∃ fn, S.C.P.funcs[gf]? = some fn ∧ fn.body.isSome = true ∧ (fn.name == "runtime.NumGoroutine") = false)
    (hsa : comp S.C.P S.C.N assign = some sa) (hsb : comp S.C.P S.C.N body = some sb) (hcj : comp S.C.P S.C.N cj = some scj) (hc : c < st.heap.length) (h0 : ∀ ro H, hsat ro (setC st.heap c .emp) H → hsat ro (HI n) H)
    (hps : ps.toList.Nodup ∧ ∀ p ∈ ps.toList, p < S.C.N) (hel : ∀ i, (el i).length = ps.size)
    (iter : IterSpec S.C.P S.C.E gf lb (getC st.heap c) n el)
    (round : ∀ i, i < n → ∀ l, Safe (inRd S l) [.code sa, .bot fun ro0 F e a w => e = .normal ∧ ∃ x, Gam (inRd S l).C ro0 F (stA i x) a w] ⟨penv ps.toList (el i) ++ st.env, HI (i + 1)⟩ ∧
      ∀ y, Safe (inRd S l) [.code sb, .bot fun ro0 F e _ w => (e = .normal ∧ MemIs S.C.E ro0 F (HI i) w) ∨ (e = ej ∧ ∃ x, MemIs S.C.E ro0 F (XH x) w)] (stA i y))
    (done : ∀ d, Safe (withD S (d :: S.C.D)) k ⟨st.env, HI 0 ++ [getC st.heap c, dfrC d]⟩)
    (jump : ∀ d x, Safe (withD S (d :: S.C.D)) (.code scj :: k) ⟨st.env, XH x ++ [getC st.heap c, dfrC d]⟩) :
    Safe S (.code (.oth (.rangeFunc g ps assign body)) :: k) st := by
  rintro ro0 F a w ⟨ro, H, hle, g0⟩ code hcode
  rw [comp_oth hcode, hrd]
  refine wpIn_rangeFunc fun fn _ => ?_
  obtain ⟨rec, hrec⟩ : ∃ rec : LoopState → Option Code → Loop, rec = fun st pe => { state := st, pending := pe, fn, tmps := a.tmps, params := ps, assign, body, defers := w.heap.size } := ⟨_, rfl⟩
  obtain ⟨d, hd⟩ : ∃ d, d = w.heap.size := ⟨_, rfl⟩
  obtain ⟨l, hl⟩ : ∃ l, l = w.heap.size + 1 := ⟨_, rfl⟩
  obtain ⟨W1, hW1⟩ : ∃ W1, (w.alloc (.deferred (some []))).alloc (.loop (rec .ready none)) = W1 := ⟨_, rfl⟩
  have hsatW : Sat S.C.E ro ((l, .loop (rec .ready none)) :: (d, .deferred (some [])) :: (H ++ F)) W1 := by
    have s1 := g0.sat.alloc (.deferred (some []))
    have s2 := s1.alloc (.loop (rec .ready none))
    have e : w.heap.size + 1 = (w.alloc (.deferred (some []))).heap.size := by rw [World.size_alloc]
    rw [← hW1, hl, hd, e]
    exact s2
  obtain ⟨e1, e2⟩ := opv_ok g0 hg hgo
  obtain ⟨gfn, hfn1, hfn2, hfn3⟩ := hbody
  refine ⟨l, [{ target := .collected d, args := #[] }], W1, { target := .fn (.func gf) (SV.dens lb).toArray, args := #[.func (.yield l) #[] #[]] }, W1, gf, (SV.dens (.fn (.yield l) [] [] :: lb)).toArray, W1, ?_, ?_, fun _ _ => trivial, ?_, fun h => (by cases h), ?_⟩
  · rw [← hW1, hrec, hl, hd]
    exact run_enterLoop_outer _ _ _ _ _
  · simp only [resolve, rangeCall, Sem.run_bind, e1, SV.den, SV.dens, Deferred.ofValue, Sem.run_pure, Result.andThen_ok]
    simp [Act.eval]
  · have hn : ¬ (gfn.body.isNone = true) := by simp [Option.isNone_iff_eq_none, ← Option.isSome_iff_ne_none, hfn2]
    have hn2 : ¬ ((gfn.name == "runtime.NumGoroutine") = true) := by rw [hfn3]; simp
    simp only [invoke, callFunc, Sem.run_bind, run_program, Result.andThen_ok, hfn1, if_neg hn2, if_neg hn, Sem.run_pure]
    simp [SV.dens, SV.den]
  -- what the rounds carry
  let J : Nat → HP := fun i => ⟨fun r K => ROle ro r ∧ ∃ K0, K = (l, Obj.loop (rec .ready none)) :: K0 ∧ hsat r (HI i) K0, fun r r' K hr ⟨h1, K0, h2, h3⟩ => ⟨h1.trans hr, K0, h2, hsat_mono hr h3⟩⟩
  let Jx : HP := ⟨fun r K => ROle ro r ∧ ∃ x K0, K = (l, Obj.loop (rec .done (some cj))) :: K0 ∧ hsat r (XH x) K0, fun r r' K hr ⟨h1, x, K0, h2, h3⟩ => ⟨h1.trans hr, x, K0, h2, hsat_mono hr h3⟩⟩
  have hY : ∀ i, i < n → YSpec S.C.P S.C.E l (el i) [.abs (J (i + 1))] (fun v h => (v = .val (.bool true) ∧ h = [.abs (J i)]) ∨ (v = .val (.bool false) ∧ h = [.abs Jx])) := by
    intro i hi ro1 F1 H1 w2 hh hoks hs
    obtain ⟨H1, _, rfl, ⟨hle1, K0, rfl, hK0⟩, rfl⟩ := hh
    have hs : Sat S.C.E ro1 ((l, Obj.loop (rec .ready none)) :: (K0 ++ F1)) w2 := by simpa using hs
    have hlw := (hs.own _ (List.mem_cons_self ..)).1
    obtain ⟨r1, r2⟩ := round i hi l
    have hlen : ps.toList.length = (SV.dens (el i)).length := by rw [dens_eq]; simp [hel]
    obtain ⟨q1, q2, q3⟩ := fold_params ps.toList (SV.dens (el i)) a.tmps hlen hps.1 (fun p hp => by rw [g0.size]; exact hps.2 p hp)
    have hfold : ((rec .ready none).params.zip (SV.dens (el i)).toArray).foldl (fun tmps (x : Nat × Value) => tmps.setIfInBounds x.1 x.2) (rec .ready none).tmps = (ps.toList.zip (SV.dens (el i))).foldl (fun t (p : Nat × Value) => t.setIfInBounds p.1 p.2) a.tmps := by
      rw [hrec, ← Array.foldl_toList]
      simp
    refine ⟨fn, (ps.toList.zip (SV.dens (el i))).foldl (fun t (p : Nat × Value) => t.setIfInBounds p.1 p.2) a.tmps, assign, body, ?_, roundIn_of_wpIn trivial ?_⟩
    · have hy := run_yield (P := S.C.P) (args := (SV.dens (el i)).toArray) hlw (by rw [hrec, dens_eq]; simp [hel])
      rw [hy]
      rw [hrec] at hfold ⊢
      rw [← hfold]
    have hgam : Gam (inRd S l).C ro1 ((l, Obj.loop (rec .ready none)) :: F1) ⟨penv ps.toList (el i) ++ st.env, HI (i + 1)⟩ { tmps := (ps.toList.zip (SV.dens (el i))).foldl (fun t (p : Nat × Value) => t.setIfInBounds p.1 p.2) a.tmps, defers := [] } w2 := by
      refine ⟨ro1, K0, ROle.refl _, rfl, ?_, hK0, hs.perm List.perm_middle.symm, fun t s ht => ?_⟩
      · simp only [q1]; exact g0.size
      · rcases look_penv ps.toList (el i) t s (by simp [hel]) ht with ⟨j, h2, h3⟩ | ⟨hin, h⟩
        · refine ⟨q2 j t _ h2 (by rw [dens_eq, List.getElem?_map, h3]; rfl), oks_iff.1 hoks _ (List.mem_of_getElem? h3)⟩
        · obtain ⟨x1, x2⟩ := g0.env t s h
          exact ⟨(q3 t hin).trans x1, SV.ok_mono hle1 s x2⟩
    refine wpIn_mono (r1 ro1 _ _ _ hgam assign hsa) fun e a1 w3 he => ?_
    simp only [contK] at he
    obtain ⟨rfl, y, hg3⟩ := he
    simp only [Exit.then]
    obtain ⟨hl3, hg4⟩ := hg3.turn (.loop (rec .busy none))
    refine ⟨_, run_beginRound hl3 (by rw [hrec]), ?_⟩
    have hbusy : ({ rec .ready none with state := LoopState.busy } : Loop) = rec .busy none := by rw [hrec]
    rw [hbusy]
    refine wpIn_mono (r2 y ro1 _ _ _ hg4 body hsb) fun e a2 w5 he => ?_
    simp only [contK] at he
    rcases he with ⟨rfl, ro2, K2, hle2, hK2, hs2⟩ | ⟨rfl, x, ro2, K2, hle2, hK2, hs2⟩
    · obtain ⟨hl5, hs6⟩ := Sat.turn (.loop (rec .ready none)) hs2
      simp only [roundPost]
      refine ⟨_, _, run_endRound none hl5, .val (.bool true), [.abs (J i)], ro2, (l, .loop (rec .ready none)) :: K2, by simp [SV.den], .inl ⟨rfl, rfl⟩, hle2, by simp only [SV.ok], ⟨_, [], by simp, ⟨hle1.trans hle2, K2, rfl, hK2⟩, rfl⟩, ?_⟩
      have : ({ rec .busy none with state := if (none : Option Code).isNone = true then LoopState.ready else LoopState.done, pending := none } : Loop) = rec .ready none := by rw [hrec]; rfl
      rw [this]
      exact hs6.perm (by simp)
    · obtain ⟨hl5, hs6⟩ := Sat.turn (.loop (rec .done (some cj))) hs2
      have fin : ∃ v w', (Instr.endRound l (some cj)).run S.C.P w5 = .ok v w' ∧ Fin S.C.E ro1 F1 (fun v h => (v = .val (.bool true) ∧ h = [.abs (J i)]) ∨ (v = .val (.bool false) ∧ h = [.abs Jx])) (.returned v) w' := by
        refine ⟨_, _, run_endRound (some cj) hl5, .val (.bool false), [.abs Jx], ro2, (l, .loop (rec .done (some cj))) :: K2, by simp [SV.den], .inr ⟨rfl, rfl⟩, hle2, by simp only [SV.ok], ⟨_, [], by simp, ⟨hle1.trans hle2, x, K2, rfl, hK2⟩, rfl⟩, ?_⟩
        have : ({ rec .busy none with state := if (some cj).isNone = true then LoopState.ready else LoopState.done, pending := some cj } : Loop) = rec .done (some cj) := by rw [hrec]; rfl
        rw [this]
        exact hs6.perm (by simp)
      cases hj <;> exact fin
  -- the iterator's call
  obtain ⟨Hb, H2, hperm, hbox, hput⟩ := hsat_at c g0.heap hc
  obtain ⟨H3, hp3, hs3⟩ := hput ro .emp [] (ROle.refl _) rfl
  have hs3 := h0 _ _ hs3
  have hp3 : H3.Perm H2 := by simpa using hp3
  have hs1 : Sat S.C.E ro ((Hb ++ ((l, Obj.loop (rec .ready none)) :: H3)) ++ ((d, .deferred (some [])) :: F)) W1 := by
    refine hsatW.perm ?_
    have hH : (H ++ F).Perm ((Hb ++ H3) ++ F) := (hperm.trans (List.Perm.append_left Hb hp3.symm)).append_right F
    refine (List.Perm.cons _ (List.Perm.cons _ hH)).trans ?_
    refine (List.Perm.cons _ (List.perm_middle.symm)).trans ?_
    exact (List.perm_middle (l₁ := Hb) (l₂ := H3)).symm.append_right _
  have hspec := iter l J Jx hY ro ((d, .deferred (some [])) :: F) _ W1 ⟨Hb, (l, Obj.loop (rec .ready none)) :: H3, rfl, hbox, _, [], by simp, ⟨ROle.refl _, H3, rfl, hs3⟩, rfl⟩ (by simp only [SV.oks, SV.ok, true_and]; simp only [SV.ok] at e2; exact e2.2) hs1
  refine CallsIn.mono (n := 0) (show CallsIn (fw none) 0 S.C.P gf _ W1 _ from callsIn_fw hspec) fun e w5 hfin => ?_
  obtain ⟨v, heap', ro', H', rfl, hpost, hle', hvok, hh', hs'⟩ := hfin
  simp only [rangePost]
  have hdef : (marks [d] ++ a.defers) = marks (d :: S.C.D) := by rw [g0.defs]; rfl
  rcases hpost with rfl | rfl
  · obtain ⟨B1, _, rfl, hb1, _, _, rfl, ⟨hle5, K0, rfl, hK0⟩, rfl⟩ := hh'
    obtain ⟨hl5, hs6⟩ := Sat.turn (X := B1) (Y := K0 ++ ((d, .deferred (some [])) :: F)) (.loop { rec .ready none with state := .exhausted }) (by simpa using hs')
    refine ⟨none, w5.putObj l (.loop { rec .ready none with state := .exhausted }), by rw [run_endLoop hl5 (by rw [hrec]; simp), hrec], ?_⟩
    simp only
    have := done d ro0 F { a with defers := marks [d] ++ a.defers } (w5.putObj l (.loop { rec .ready none with state := .exhausted })) ⟨ro', K0 ++ (B1 ++ [(d, .deferred (some []))]), hle.trans hle', hdef, g0.size, ?_, ?_, fun t s ht => ?_⟩
    · rw [contK_D] at this
      exact this
    · exact hsat_append.2 ⟨K0, _, rfl, hK0, B1, [(d, .deferred (some []))], rfl, hb1, _, [], by simp, rfl, rfl⟩
    · refine Sat.drop (H := [(l, .loop { rec .ready none with state := .exhausted })]) (hs6.perm ?_)
      refine List.perm_middle.trans (List.Perm.cons _ ?_)
      have := (List.perm_append_comm (l₁ := B1) (l₂ := K0)).append_right ((d, Obj.deferred (some [])) :: F)
      simpa using this
    · obtain ⟨x1, x2⟩ := g0.env t s ht
      exact ⟨x1, SV.ok_mono hle' s x2⟩
  · obtain ⟨B1, _, rfl, hb1, _, _, rfl, ⟨hle5, x, K0, rfl, hK0⟩, rfl⟩ := hh'
    obtain ⟨hl5, hs6⟩ := Sat.turn (X := B1) (Y := K0 ++ ((d, .deferred (some [])) :: F)) (.loop { rec .done (some cj) with state := .exhausted }) (by simpa using hs')
    refine ⟨some cj, w5.putObj l (.loop { rec .done (some cj) with state := .exhausted }), by rw [run_endLoop hl5 (by rw [hrec]; simp), hrec], ?_⟩
    simp only
    have := jump d x ro0 F { a with defers := marks [d] ++ a.defers } (w5.putObj l (.loop { rec .done (some cj) with state := .exhausted })) ⟨ro', K0 ++ (B1 ++ [(d, .deferred (some []))]), hle.trans hle', hdef, g0.size, ?_, ?_, fun t s ht => ?_⟩
    · have h2 := this cj hcj
      rw [contK_D] at h2
      have e : fw (withD S (d :: S.C.D)).C.rd = fw none := by show fw S.C.rd = _; rw [hrd]
      rw [e] at h2
      exact h2
    · exact hsat_append.2 ⟨K0, _, rfl, hK0, B1, [(d, .deferred (some []))], rfl, hb1, _, [], by simp, rfl, rfl⟩
    · refine Sat.drop (H := [(l, .loop { rec .done (some cj) with state := .exhausted })]) (hs6.perm ?_)
      refine List.perm_middle.trans (List.Perm.cons _ ?_)
      have := (List.perm_append_comm (l₁ := B1) (l₂ := K0)).append_right ((d, Obj.deferred (some [])) :: F)
      simpa using this
    · obtain ⟨x1, x2⟩ := g0.env t s ht
      exact ⟨x1, SV.ok_mono hle' s x2⟩

/-- the results of a function, some of them in cells -/
def retC (P : Program) (st : St) : List ResultVar → Option (List SV × Prop)
  | [] => some ([], True)
  | .tmp t :: rs => match look st.env t, retC P st rs with | some s, some (l, vc) => some (s :: l, vc) | _, _ => none
  | .cell t T :: rs => match look st.env t, aggOf P T with
    | some (.ptr c b off), some n => match ldV st.heap (.ptr c b off) n, retC P st rs with
      | some (s, v1), some (l, vc) => some (s :: l, v1 ∧ vc)
      | _, _ => none
    | _, _ => none

theorem retC_ok (g : G C ro H F st a w) : ∀ {rs : List ResultVar} {l : List SV} {vc : Prop}, retC C.P st rs = some (l, vc) → vc →
    (rs.mapM (resF a.tmps)).run C.P w = Result.ok (SV.dens l) w ∧ SV.oks ro l
  | [], l, vc, h, _ => by
    simp only [retC, Option.some.injEq, Prod.mk.injEq] at h
    obtain ⟨rfl, _⟩ := h
    simp [SV.dens, SV.oks]
  | .tmp t :: rs, l, vc, h, hvc => by
    simp only [retC] at h
    split at h
    · rename_i s l' vc' h1 h2
      simp only [Option.some.injEq, Prod.mk.injEq] at h
      obtain ⟨rfl, rfl⟩ := h
      obtain ⟨i1, i2⟩ := retC_ok g h2 hvc
      obtain ⟨e1, e2⟩ := g.env t s h1
      refine ⟨?_, by simp only [SV.oks]; exact ⟨e2, i2⟩⟩
      have e3 : a.tmps.getD t undef = s.den := by simp [e1]
      simp only [List.mapM_cons, Sem.run_bind, resF, Sem.run_pure, Result.andThen_ok, i1, SV.dens, e3]
    · cases h
  | .cell t T :: rs, l, vc, h, hvc => by
    simp only [retC] at h
    split at h
    · rename_i c b off n h1 h2
      split at h
      · rename_i s v1 l' vc' h3 h4
        simp only [Option.some.injEq, Prod.mk.injEq] at h
        obtain ⟨rfl, rfl⟩ := h
        obtain ⟨i1, i2⟩ := retC_ok g h4 hvc.2
        obtain ⟨e1, e2⟩ := g.env t _ h1
        obtain ⟨l1, l2⟩ := ldV_sound g h2 e2 h3 hvc.1
        refine ⟨?_, by simp only [SV.oks]; exact ⟨l2, i2⟩⟩
        have e3 : a.tmps.getD t undef = .pointer (some ⟨b, off, none⟩) := by simp [e1, SV.den]
        have l3 : (loadVar T ⟨b, off, none⟩).run C.P w = .ok s.den w := by
          simpa [Instr.loadAt, Instr.sureAddr, SV.den] using l1
        have l4 : (asAddr (.pointer (some (⟨b, off, none⟩ : Addr)))).run C.P w = .ok ⟨b, off, none⟩ w := rfl
        simp only [List.mapM_cons, Sem.run_bind, resF, Sem.run_pure, Result.andThen_ok, i1, SV.dens, e3, l3, l4]
      · cases h
    · cases h

theorem resultsC_ok (g : G C ro H F st a w) {fn : Func} {l : List SV} {vc : Prop} (h : retC C.P st fn.results.toList = some (l, vc)) (hvc : vc) :
    (results fn a.tmps).run C.P w = .ok (retS l).den w ∧ (retS l).ok ro := by
  obtain ⟨h1, h2⟩ := retC_ok g h hvc
  have e : results fn a.tmps = (do let vs ← fn.results.mapM (resF a.tmps); pure (if h : vs.size = 1 then vs[0] else .tuple vs) : Sem Value) := rfl
  have e2 : (fn.results.mapM (resF a.tmps)) = (do pure (← fn.results.toList.mapM (resF a.tmps)).toArray : Sem (Array Value)) := by
    rw [Array.mapM_eq_mapM_toList]; rfl
  rw [e, e2]
  refine ⟨?_, ?_⟩
  · simp only [Sem.run_bind, h1, Result.andThen_ok, Sem.run_pure]
    match l with
    | [] => simp [retS, SV.den, SV.dens]
    | [s] => simp [retS, SV.dens]
    | s :: t :: l => simp [retS, SV.den, SV.dens]
  · match l with
    | [] => simp only [retS, SV.ok, SV.oks]
    | [s] => simp only [SV.oks] at h2; exact h2.1
    | s :: t :: l => simp only [retS, SV.ok]; exact h2

theorem safe_retC {l : List SV} {vc : Prop} (hr : retC S.C.P st S.fn.results.toList = some (l, vc)) (hvc : vc) (hp : S.Post (retS l) st.heap) (hD : S.C.D = []) (hk : (botK k).isNone = true) : Safe S (.code .ret :: k) st := by
  intro ro0 F a w hg code hcode
  rw [comp_ret hcode]
  refine wpIn_ret (contK_ret hk ?_)
  simp only [contK]
  obtain ⟨ro, H, hle, g⟩ := hg
  obtain ⟨h1, h2⟩ := resultsC_ok g hr hvc
  exact leave_of ⟨by rw [g.defs, hD]; rfl, _, h1, _, _, ro, H, rfl, hp, hle, h2, g.heap, g.sat⟩

/-- a return behind a loop over a function -/
theorem safe_retD {l : List SV} {vc : Prop} {c d : Nat} (hD : S.C.D = [d]) (hc : getC st.heap c = dfrC d) (hr : retC S.C.P ⟨st.env, setC st.heap c .emp⟩ S.fn.results.toList = some (l, vc)) (hvc : vc)
    (hp : S.Post (retS l) (setC st.heap c .emp)) (hk : (botK k).isNone = true) : Safe S (.code .ret :: k) st := by
  intro ro0 F a w hg code hcode
  rw [comp_ret hcode]
  refine wpIn_ret (contK_ret hk ?_)
  simp only [contK]
  obtain ⟨ro, H, hle, g⟩ := hg
  obtain ⟨Hb, H2, hperm, hbox, hput⟩ := hsat_at c g.heap (getC_lt (by rw [hc]; simp [dfrC]))
  rw [hc] at hbox
  have hbox : Hb = [(d, .deferred (some []))] := hbox
  subst hbox
  obtain ⟨H3, hp3, hs3⟩ := hput ro .emp [] (ROle.refl _) rfl
  have s1 : Sat S.C.E ro ([] ++ (d, .deferred (some [])) :: (H2 ++ F)) w := g.sat.perm (by simpa using hperm.append_right F)
  obtain ⟨h1, s2⟩ := Sat.turn (.deferred none) s1
  have s3 : Sat S.C.E ro (H3 ++ F) (w.putObj d (.deferred none)) := by
    have := Sat.drop (H := [(d, .deferred none)]) (by simpa using s2)
    exact this.perm (List.Perm.append_right F (by simpa using hp3.symm))
  have g' : G { S.C with D := [] } ro H3 F ⟨st.env, setC st.heap c .emp⟩ { a with defers := [] } (w.putObj d (.deferred none)) := ⟨rfl, g.size, hs3, s3, g.env⟩
  obtain ⟨q1, q2⟩ := resultsC_ok g' hr hvc
  rw [bodyPostM]
  have hd : a.defers = [{ target := .collected d, args := #[] }] := by rw [g.defs, hD]; rfl
  rw [hd]
  simp only [LeavesInM]
  exact ⟨by simp, .inl ⟨d, _, rfl, run_takeDeferred h1, _, q1, _, _, ro, H3, rfl, hp, hle, q2, hs3, s3⟩⟩
end
end Go.SX
