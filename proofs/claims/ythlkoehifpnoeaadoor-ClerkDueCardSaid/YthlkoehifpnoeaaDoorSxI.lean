/- The rules of the operations. -/
import Derived.Test.YthlkoehifpnoeaaDoorSxH
namespace Go.SX

def gval (env : List (Nat × SV)) (g : Nat) (want : Bool) : Option Bool :=
  match look env g with
  | some (.val (.bool p)) => some (p == want)
  | some (.cnd q (.val (.bool p))) => some (q && (p == want))
  | _ => none

def oslot (b : Bool) : Opd → List (Nat × Bool)
  | .t n => [(n, b)]
  | _ => []
def oslots (l : List Opd) : List (Nat × Bool) := l.flatMap (oslot true)
def ooslot : Option Opd → List (Nat × Bool)
  | some x => oslot true x
  | none => []
def rdSlots : SRd → List (Nat × Bool)
  | .mv x | .nchk x | .fadd x _ | .fld x _ _ | .load x _ | .un _ x | .ext x _ | .len _ x | .cap x | .conv _ x => oslot true x
  | .pick c x y => oslot true c ++ oslot false x ++ oslot false y
  | .bin _ _ x y | .mn x y | .mx x y | .idx x y _ | .sidx x y => oslot true x ++ oslot true y
  | .slc x lo hi mx _ => oslot true x ++ ooslot lo ++ ooslot hi ++ ooslot mx
  | .sslc x lo hi => oslot true x ++ ooslot lo ++ ooslot hi
  | .mkfn _ x y => oslots x ++ oslots y
  | .build _ ps => oslots (ps.map (·.2.2))

def stripE (env : List (Nat × SV)) : List (Nat × Bool) → Option (List (Nat × SV) × Bool)
  | [] => some ([], true)
  | (t, b) :: r =>
    match look env t, stripE env r with
    | some s, some (e, c) => match s, b with
      | .cnd q x, true => some ((t, x) :: e, q && c)
      | s, _ => some ((t, s) :: e, c)
    | _, _ => none

def rdvG (st : St) (gb : Bool) (r : SRd) : Option (SV × Prop) :=
  match stripE st.env (rdSlots r) with
  | some (e, c) => match rdv ⟨e, st.heap⟩ r with
    | some (s, vc) => some (s, gb = true → c = true ∧ vc)
    | none => some (.val (.bool false), gb = true → False)
  | none => none

def oper0 (d : Option Nat) (op : Op) (ty : TypeId) : Oper := { dst := d, op, type := ty, pos := "", after := #[], guard := none }

def recheck1 (C : Ctx) (st : St) : SOp → Prop
  | .rd d r => match rdv st r with | some (s, vc) => vc ∧ look st.env d = some s | none => False
  | .grd g w d r => match gval st.env g w with
    | some gb => match rdvG st gb r with | some (s, vc) => vc ∧ look st.env d = some (.cnd gb s) | none => False
    | none => False
  | .oth (some d) op ty => ∃ s, look st.env d = some s ∧ ∀ ro H F a w, G C ro H F st a w → (execOp a.eval (oper0 (some d) op ty)).run C.P w = .ok (.value s.den) w
  | .gs g w (.oth (some d) op ty) => match gval st.env g w with
    | some true => ∃ s, look st.env d = some s ∧ ∀ ro H F a w, G C ro H F st a w → (execOp a.eval (oper0 (some d) op ty)).run C.P w = .ok (.value s.den) w
    | some false => ∃ s, look st.env d = some (.cnd false s)
    | none => False
  | _ => False
def recheck (C : Ctx) (st : St) : List SOp → Prop
  | [] => True
  | p :: ps => recheck1 C st p ∧ recheck C st ps

section
variable {S : Setup} {k : List Frag} {st : St} {C : Ctx} {ro : RO} {H F : Hp} {a : Act} {w : World}

theorem strip_ok (g : G C ro H F st a w) : ∀ {ts : List (Nat × Bool)} {e : List (Nat × SV)} {c : Bool}, stripE st.env ts = some (e, c) → c = true → G C ro H F ⟨e, st.heap⟩ a w
  | [], e, c, h, _ => by
    simp only [stripE, Option.some.injEq, Prod.mk.injEq] at h
    obtain ⟨rfl, _⟩ := h
    exact ⟨g.defs, g.size, g.heap, g.sat, fun t s h => by simp [look] at h⟩
  | (t, b) :: r, e, c, h, hc => by
    simp only [stripE] at h
    split at h
    · rename_i s e' c' h1 h2
      obtain ⟨e1, e2⟩ := g.env t s h1
      have fin : ∀ (x : SV) (c0 : Bool), c0 = true → e = (t, x) :: e' → c' = true → a.tmps[t]? = some x.den → x.ok ro → G C ro H F ⟨e, st.heap⟩ a w := by
        intro x c0 _ he hc' hx1 hx2
        have g' := strip_ok g h2 hc'
        refine ⟨g.defs, g.size, g.heap, g.sat, fun t' s' ht => ?_⟩
        rw [he] at ht
        simp only [look] at ht
        cases hte : (t == t') with
        | true =>
          rw [hte, cond_true] at ht
          injection ht with ht
          have : t = t' := by simpa using hte
          subst this
          subst ht
          exact ⟨hx1, hx2⟩
        | false =>
          rw [hte, cond_false] at ht
          exact g'.env t' s' ht
      split at h
      · rename_i q x
        simp only [Option.some.injEq, Prod.mk.injEq] at h
        obtain ⟨rfl, rfl⟩ := h
        simp only [Bool.and_eq_true] at hc
        obtain ⟨rfl, hc'⟩ := hc
        exact fin x true rfl rfl hc' (by simpa [SV.den] using e1) (by simpa [SV.ok] using e2)
      · simp only [Option.some.injEq, Prod.mk.injEq] at h
        obtain ⟨rfl, rfl⟩ := h
        exact fin s true rfl rfl hc e1 e2
    · cases h

theorem rdG_sound (g : G C ro H F st a w) {o : Oper} {r : SRd} (hc : crd C.P o.op = some r) {gb : Bool} {s : SV} {vc : Prop} (hv : rdvG st gb r = some (s, vc)) (hvc : vc) (hg : gb = true) :
    (execOp a.eval o).run C.P w = .ok (.value s.den) w ∧ s.ok ro := by
  unfold rdvG at hv
  split at hv
  · rename_i e c hs
    split at hv
    · rename_i s' vc' hr
      simp only [Option.some.injEq, Prod.mk.injEq] at hv
      obtain ⟨rfl, rfl⟩ := hv
      obtain ⟨h1, h2⟩ := hvc hg
      exact rd_sound (strip_ok g hs h1) hc hr h2
    · simp only [Option.some.injEq, Prod.mk.injEq] at hv
      obtain ⟨_, rfl⟩ := hv
      exact (hvc hg).elim
  · cases hv

theorem gval_ok (g : G C ro H F st a w) {ops : Array Oper} {j gs : Nat} {want gb : Bool} (hj : gslot ops j = some gs) (hv : gval st.env gs want = some gb) :
    (yielded ops a.tmps j == some want) = gb := by
  unfold gval at hv
  have hy : yielded ops a.tmps j = (match a.tmps[gs]? with | some (.bool b) => some b | _ => none) := by
    unfold yielded
    have : (ops[j]?).bind (·.dst) = some gs := hj
    rw [this]
    rfl
  rw [hy]
  split at hv
  · rename_i p hl
    injection hv with hv
    rw [(g.env _ _ hl).1]
    simp only [SV.den]
    rw [← hv]
    cases p <;> cases want <;> rfl
  · rename_i q p hl
    injection hv with hv
    rw [(g.env _ _ hl).1]
    rw [← hv]
    cases q <;> cases p <;> cases want <;> rfl
  · cases hv

theorem cop_rd {P : Program} {N : Nat} {ops : Array Oper} {b : Bool} {o : Oper} {d : Nat} {r : SRd} (h : cop P N ops b o = some (.rd d r)) : crd P o.op = some r ∧ o.dst = some d ∧ o.guard = none ∧ d < N := by
  unfold cop at h
  split at h
  · rename_i r' d' h1 h2 h3
    split at h
    · injection h with h
      injection h with e1 e2
      subst e1 e2
      exact ⟨h1, h2, h3, by assumption⟩
    · cases h
  · split at h
    · split at h <;> simp at h
    · cases h
  · split at h
    · split at h
      · split at h <;> simp at h
      · simp at h
    · cases h
  · split at h
    · split at h <;> simp at h
    · unfold ceff at h
      repeat' (first | (split at h) | (simp at h; done))
      all_goals simp at h

theorem cop_grd {P : Program} {N : Nat} {ops : Array Oper} {b : Bool} {o : Oper} {g d : Nat} {wn : Bool} {r : SRd} (h : cop P N ops b o = some (.grd g wn d r)) :
    crd P o.op = some r ∧ o.dst = some d ∧ (∃ j, o.guard = some (j, wn) ∧ gslot ops j = some g) ∧ d < N := by
  unfold cop at h
  split at h
  · split at h <;> simp at h
  · rename_i r' d' j w' h1 h2 h3
    split at h
    · rename_i g' hg
      split at h
      · injection h with h
        injection h with e1 e2 e3 e4
        subst e1 e2 e3 e4
        exact ⟨h1, h2, ⟨j, h3, hg⟩, by assumption⟩
      · cases h
    · cases h
  · split at h
    · split at h
      · split at h <;> simp at h
      · simp at h
    · cases h
  · split at h
    · split at h <;> simp at h
    · unfold ceff at h
      repeat' (first | (split at h) | (simp at h; done))
      all_goals simp at h

/-- what stands behind an operation -/
def Next (S : Setup) (k : List Frag) (l : List (SOp × List SOp)) (ps : List SOp) (ro0 : RO) (F : Hp) (a : Act) (w : World) : Prop :=
  ∃ st', Gam S.C ro0 F st' a w ∧ recheck S.C st' ps ∧ Safe S (.ops l :: k) st'

theorem exec_same {o o' : Oper} (h1 : o.op = o'.op) (h2 : o.type = o'.type) (f : Operand → Value) : execOp f o = execOp f o' := by
  obtain ⟨d, op, ty, p, af, g⟩ := o
  obtain ⟨d', op', ty', p', af', g'⟩ := o'
  simp only at h1 h2
  subst h1 h2
  cases op <;> rfl

theorem cop_oth {P : Program} {N : Nat} {ops : Array Oper} {o : Oper} {d : Option Nat} {op : Op} {ty : TypeId} (h : cop P N ops true o = some (.oth d op ty)) : o.op = op ∧ o.type = ty ∧ o.dst = d ∧ o.guard = none := by
  unfold cop at h
  split at h
  · split at h <;> simp at h
  · split at h
    · split at h <;> simp at h
    · cases h
  · split at h
    · split at h
      · split at h <;> simp at h
      · simp at h
    · cases h
  · rename_i h3 _
    simp only [if_true] at h
    split at h
    · injection h with h
      injection h with e1 e2 e3
      exact ⟨e2, e3, e1, h3⟩
    · cases h

theorem gs_of {P : Program} {N : Nat} {ops : Array Oper} {b : Bool} {o : Oper} {g : Nat} {wn : Bool} {so : SOp} (h : cop P N ops b o = some (.gs g wn so)) :
    (∃ j, o.guard = some (j, wn) ∧ gslot ops j = some g) ∧ ((b = false ∧ ceff P N o = some so) ∨ (b = true ∧ ∃ d, so = .oth d o.op o.type ∧ o.dst = d ∧ d.all (· < N) = true)) := by
  unfold cop at h
  split at h
  · split at h <;> simp at h
  · split at h
    · split at h <;> simp at h
    · cases h
  · rename_i j w' hg _
    split at h
    · rename_i g' h1
      split at h
      · rename_i hb
        split at h
        · rename_i hd
          injection h with h
          injection h with e1 e2 e3
          subst e1 e2 e3
          exact ⟨⟨j, hg, h1⟩, .inr ⟨hb, _, rfl, rfl, hd⟩⟩
        · cases h
      · rename_i hb
        simp only [Option.map_eq_some_iff] at h
        obtain ⟨so', h2, h⟩ := h
        injection h with e1 e2 e3
        subst e1 e2 e3
        exact ⟨⟨j, hg, h1⟩, .inl ⟨by simpa using hb, h2⟩⟩
    · cases h
  · split at h
    · split at h <;> simp at h
    · unfold ceff at h
      repeat' (first | (split at h) | (simp at h; done))
      all_goals simp at h

theorem recheck1_ok (g : G C ro H F st a w) {ops : Array Oper} {r : Nat} {p : SOp} (hc : (ops[r]?).bind (cop C.P C.N ops true) = some p) (h : recheck1 C st p) : Idem C.P ops r a w := by
  cases ho : ops[r]? with
  | none => simp [ho] at hc
  | some o =>
    simp only [ho, Option.bind_some] at hc
    refine ⟨o, ho, ?_⟩
    cases p
    case gs gs wn so =>
      cases so
      case oth d op ty =>
        cases d with
        | none => exact False.elim h
        | some d =>
          obtain ⟨⟨j, hgd, hj⟩, ⟨hb, _⟩ | ⟨_, d', he, hd', _⟩⟩ := gs_of hc
          · cases hb
          injection he with e1 e2 e3
          subst e1 e2 e3
          simp only [recheck1] at h
          split at h
          · rename_i hgv
            have hw : Region.wanted o (yielded ops a.tmps) = true := by
              unfold Region.wanted
              rw [hgd]
              exact gval_ok g hj hgv
            obtain ⟨s, h1, h2⟩ := h
            rw [if_pos hw]
            refine ⟨s.den, ?_, fun d' hd _ => ?_⟩
            · rw [exec_same (o := o) (o' := oper0 (some d) o.op o.type) rfl rfl]
              exact h2 _ _ _ _ _ g
            · rw [hd'] at hd
              injection hd with hd
              subst hd
              exact (g.env _ _ h1).1
          · rename_i hgv
            have hw : Region.wanted o (yielded ops a.tmps) = false := by
              unfold Region.wanted
              rw [hgd]
              exact gval_ok g hj hgv
            obtain ⟨s, h1⟩ := h
            rw [if_neg (by rw [hw]; decide)]
            intro d' hd _
            rw [hd'] at hd
            injection hd with hd
            subst hd
            simpa [SV.den] using (g.env _ _ h1).1
          · exact h.elim
      all_goals exact False.elim h
    all_goals simp only [recheck1] at h
    case rd d r' =>
      obtain ⟨c1, c2, c3, c4⟩ := cop_rd hc
      split at h
      · rename_i s vc hv
        obtain ⟨h1, h2⟩ := rd_sound g c1 hv h.1
        rw [if_pos (by simp [Region.wanted, c3])]
        refine ⟨_, h1, fun d' hd _ => ?_⟩
        rw [c2] at hd
        injection hd with hd
        subst hd
        exact (g.env _ _ h.2).1
      · exact h.elim
    case grd gs wn d r' =>
      obtain ⟨c1, c2, ⟨j, c3, c5⟩, c4⟩ := cop_grd hc
      split at h
      · rename_i gb hgv
        split at h
        · rename_i s vc hv
          have hw : Region.wanted o (yielded ops a.tmps) = gb := by
            unfold Region.wanted
            rw [c3]
            exact gval_ok g c5 hgv
          have he := (g.env _ _ h.2).1
          rw [hw]
          split
          · rename_i hgb
            obtain ⟨h1, h2⟩ := rdG_sound g c1 hv h.1 hgb
            refine ⟨_, h1, fun d' hd _ => ?_⟩
            rw [c2] at hd
            injection hd with hd
            subst hd
            simpa [SV.den, hgb] using he
          · rename_i hgb
            intro d' hd _
            rw [c2] at hd
            injection hd with hd
            subst hd
            have : gb = false := by simpa using hgb
            simpa [SV.den, this] using he
        · exact h.elim
      · exact h.elim
    case oth d op ty =>
      obtain ⟨c1, c2, c3, c4⟩ := cop_oth hc
      cases d with
      | none => exact h.elim
      | some d =>
        obtain ⟨s, h1, h2⟩ := h
        rw [if_pos (by simp [Region.wanted, c4])]
        refine ⟨s.den, ?_, fun d' hd _ => ?_⟩
        · rw [exec_same (o' := oper0 (some d) op ty) c1 c2]
          exact h2 _ _ _ _ _ g
        · rw [c3] at hd
          injection hd with hd
          subst hd
          exact (g.env _ _ h1).1

theorem recheck_ok (g : G C ro H F st a w) {ops : Array Oper} : ∀ {rs : List Nat} {ps : List SOp}, cpend C.P C.N ops rs = some ps → recheck C st ps → ∀ r ∈ rs, Idem C.P ops r a w
  | [], _, _, _, r, hr => by simp at hr
  | x :: rs, ps, hc, h, r, hr => by
    simp only [cpend] at hc
    split at hc
    · rename_i p ps' h1 h2
      injection hc with hc
      subst hc
      obtain ⟨k1, k2⟩ := h
      rcases List.mem_cons.1 hr with rfl | hr
      · exact recheck1_ok g h1 k1
      · exact recheck_ok g h2 k2 r hr
    · cases hc

theorem ops_step {so : SOp} {ps : List SOp} {l : List (SOp × List SOp)} (Hs : ∀ ro0 F a w (o : Oper) (ops : Array Oper) (b : Bool), Gam S.C ro0 F st a w → cop S.C.P S.C.N ops b o = some so → (b = true → kindReads o.op = true) →
      if Region.wanted o (yielded ops a.tmps) then
        if b then ∃ v, (execOp a.eval o).run S.C.P w = .ok (.value v) w ∧ Next S k l ps ro0 F (a.put o.dst v) w
        else o.uponIn (fw S.C.rd) 0 S.C.P a (Next S k l ps ro0 F) (fun _ _ _ => False) ((execOp a.eval o).run S.C.P w)
      else Next S k l ps ro0 F (a.put o.dst undef) w) : Safe S (.ops ((so, ps) :: l) :: k) st := by
  intro ro0 F a w hg ops m pre rest hsel hc
  cases rest with
  | nil => simp [compOps] at hc
  | cons i rest =>
    simp only [compOps] at hc
    split at hc
    · cases hc
    · rename_i o ho
      split at hc
      · rename_i so' ps' l' h1 h2 h3
        simp only [Option.some.injEq, List.cons.injEq, Prod.mk.injEq] at hc
        obtain ⟨⟨rfl, rfl⟩, rfl⟩ := hc
        have hh := Hs ro0 F a w o ops (rd ops m i) hg h1 (fun hr => by simp only [rd, ho, Bool.and_eq_true] at hr; exact hr.1)
        have fin : ∀ a' w', Next S k l' ps' ro0 F a' w' → VR S.C.rd S.C.P ops m (contK S ro0 F k .normal) (pre ++ [i]) rest a' w' := by
          rintro a' w' ⟨st', hg', _, hs⟩
          exact hs ro0 F a' w' hg' ops m _ rest hsel h3
        simp only [VR, ho]
        split at hh
        · rename_i hw
          rw [if_pos hw]
          cases hrd : rd ops m i with
          | true =>
            rw [hrd] at hh
            simp only [if_true] at hh ⊢
            obtain ⟨v, hv1, hv2⟩ := hh
            exact ⟨v, hv1, fin _ _ hv2⟩
          | false =>
            rw [hrd] at hh h2
            simp only [Bool.false_eq_true, if_false] at hh h2 ⊢
            refine upon_swap rfl (fun ds v w' hn => ?_) hh
            refine ⟨fun r hr hrr hb => ?_, fin _ _ hn⟩
            obtain ⟨st', ⟨ro, H, _, g⟩, hre, _⟩ := hn
            exact recheck_ok g h2 hre r (List.mem_filter.2 ⟨hr, by simp [hrr, hb]⟩)
        · rename_i hw
          rw [if_neg hw]
          exact fin _ _ hh
      · cases hc

def plainS : SOp → Prop
  | .rd .. | .grd .. | .gs .. | .oth .. => False
  | _ => True

/-- An effect's step, whatever guards it. -/
def Stp (S : Setup) (k : List Frag) (l : List (SOp × List SOp)) (ps : List SOp) (st : St) (so : SOp) : Prop :=
  ∀ ro0 F a w (o : Oper), Gam S.C ro0 F st a w → ceff S.C.P S.C.N o = some so → o.uponIn (fw S.C.rd) 0 S.C.P a (Next S k l ps ro0 F) (fun _ _ _ => False) ((execOp a.eval o).run S.C.P w)

theorem ceff_of {P : Program} {N : Nat} {ops : Array Oper} {b : Bool} {o : Oper} {so : SOp} (h : cop P N ops b o = some so)
    (hk : plainS so) : b = false ∧ o.guard = none ∧ ceff P N o = some so := by
  unfold cop at h
  split at h
  · split at h
    · injection h with h; subst h; exact hk.elim
    · cases h
  · split at h
    · split at h
      · injection h with h; subst h; exact hk.elim
      · cases h
    · cases h
  · split at h
    · split at h
      · split at h
        · injection h with h; subst h; exact hk.elim
        · cases h
      · simp only [Option.map_eq_some_iff] at h
        obtain ⟨so', _, rfl⟩ := h
        exact hk.elim
    · cases h
  · rename_i hg _
    cases b with
    | true =>
      simp only [if_true] at h
      split at h
      · injection h with h; subst h; exact hk.elim
      · cases h
    | false => exact ⟨rfl, hg, by simpa using h⟩

theorem Stp.safe {so : SOp} {ps : List SOp} {l : List (SOp × List SOp)} (h : Stp S k l ps st so) (hk : plainS so) : Safe S (.ops ((so, ps) :: l) :: k) st := by
  refine ops_step fun ro0 F a w o ops b hg hc _ => ?_
  obtain ⟨rfl, hgd, he⟩ := ceff_of hc hk
  rw [if_pos (by simp [Region.wanted, hgd])]
  simp only [Bool.false_eq_true, if_false]
  exact h ro0 F a w o hg he

theorem Stp.safeOn {so : SOp} {ps : List SOp} {l : List (SOp × List SOp)} (h : Stp S k l ps st so) (hk : plainS so) : Safe S (.opn so ps l :: k) st := by
  intro ro0 F a w hg
  simp only [contK]
  intro ops m pre i o rest gs wn hsel ho hw hcop hc
  obtain ⟨_, ⟨hb, he⟩ | ⟨_, d, rfl, _⟩⟩ := gs_of hcop
  case inr => exact hk.elim
  have hh := h ro0 F a w o hg he
  simp only [compOps, ho] at hc
  split at hc
  · rename_i so' ps' l' h1 h2 h3
    simp only [Option.some.injEq, List.cons.injEq, Prod.mk.injEq] at hc
    obtain ⟨⟨_, rfl⟩, rfl⟩ := hc
    simp only [VR, ho, if_pos hw, hb, Bool.false_eq_true, if_false]
    rw [hb] at h2
    simp only [Bool.false_eq_true, if_false] at h2
    refine upon_swap rfl (fun ds v w' hn => ?_) hh
    obtain ⟨st', hg', hre, hs⟩ := hn
    refine ⟨fun r hr hrr hb => ?_, hs ro0 F _ _ hg' ops m _ rest hsel h3⟩
    obtain ⟨ro, H, _, g⟩ := hg'
    exact recheck_ok g h2 hre r (List.mem_filter.2 ⟨hr, by simp [hrr, hb]⟩)
  · cases hc

/-- what another operation comes to that only looks -/
def OthV (C : Ctx) (st : St) (op : Op) (ty : TypeId) (s : SV) : Prop := ∀ ro H F a w, G C ro H F st a w → (execOp a.eval (oper0 none op ty)).run C.P w = .ok (.value s.den) w ∧ s.ok ro

theorem oth_of {P : Program} {N : Nat} {ops : Array Oper} {b : Bool} {o : Oper} {d : Option Nat} {op : Op} {ty : TypeId} (h : cop P N ops b o = some (.oth d op ty)) : o.op = op ∧ o.type = ty ∧ o.dst = d ∧ o.guard = none ∧ d.all (· < N) = true := by
  unfold cop at h
  split at h
  · split at h <;> simp at h
  · split at h
    · split at h <;> simp at h
    · cases h
  · split at h
    · split at h
      · split at h <;> simp at h
      · simp at h
    · cases h
  · rename_i h3 _
    split at h
    · split at h
      · rename_i hd
        injection h with h
        injection h with e1 e2 e3
        exact ⟨e2, e3, e1, h3, e1 ▸ hd⟩
      · cases h
    · unfold ceff at h
      split at h
      all_goals (try (repeat' (first | (split at h) | (simp at h; done))))
      all_goals (first | (simp at h; done) | skip)
      all_goals (injection h with h; injection h with e1 e2 e3; subst e1 e2 e3; refine ⟨rfl, rfl, by first | rfl | assumption, h3, ?_⟩; first | assumption | (simpa using (by assumption)))

theorem safe_oth {d : Nat} {op : Op} {ty : TypeId} {ps : List SOp} {l : List (SOp × List SOp)} {s : SV} (hv : OthV S.C st op ty s) (hre : recheck S.C ⟨(d, s) :: st.env, st.heap⟩ ps)
    (h : Safe S (.ops l :: k) ⟨(d, s) :: st.env, st.heap⟩) : Safe S (.ops ((.oth (some d) op ty, ps) :: l) :: k) st := by
  refine ops_step fun ro0 F a w o ops b hg hc _ => ?_
  obtain ⟨ro, H, hle, g⟩ := hg
  obtain ⟨c1, c2, c3, c4, c5⟩ := oth_of hc
  obtain ⟨h1, h2⟩ := hv ro H F a w g
  rw [← exec_same (o := o) (o' := oper0 none op ty) c1 c2] at h1
  rw [if_pos (by simp [Region.wanted, c4]), c3]
  have hn : Next S k l ps ro0 F (a.put (some d) s.den) w := ⟨_, ⟨ro, H, hle, g.put (by simpa using c5) h2⟩, hre, h⟩
  cases b with
  | true => exact ⟨_, h1, hn⟩
  | false =>
    simp only [Bool.false_eq_true, if_false]
    rw [h1]
    simp only [Oper.uponIn, c3]
    exact hn

theorem safe_othOn {d : Nat} {op : Op} {ty : TypeId} {ps : List SOp} {l : List (SOp × List SOp)} {s : SV} (hv : OthV S.C st op ty s) (hd : d < S.C.N) (hre : recheck S.C ⟨(d, s) :: st.env, st.heap⟩ ps)
    (h : Safe S (.ops l :: k) ⟨(d, s) :: st.env, st.heap⟩) : Safe S (.opn (.oth (some d) op ty) ps l :: k) st := by
  intro ro0 F a w hg
  simp only [contK]
  intro ops m pre i o rest gs wn hsel ho hw hcop hc
  obtain ⟨ro, H, hle, g⟩ := hg
  obtain ⟨h1, h2⟩ := hv ro H F a w g
  have hinv : o.op = op ∧ o.type = ty ∧ o.dst = some d := by
    obtain ⟨_, ⟨_, he⟩ | ⟨_, d', he, hd', _⟩⟩ := gs_of hcop
    · unfold ceff at he
      split at he
      all_goals (try (repeat' (first | (split at he) | (simp at he; done))))
      all_goals (first | (simp at he; done) | skip)
      all_goals (injection he with he; injection he with e1 e2 e3; subst e2 e3; exact ⟨rfl, rfl, by first | exact e1 | (rw [← e1]; assumption)⟩)
    · injection he with e1 e2 e3
      exact ⟨e2.symm, e3.symm, by rw [hd', ← e1]⟩
  obtain ⟨c1, c2, c3⟩ := hinv
  rw [← exec_same (o := o) (o' := oper0 none op ty) c1 c2] at h1
  simp only [compOps, ho] at hc
  split at hc
  · rename_i so' ps' l' k1 k2 k3
    simp only [Option.some.injEq, List.cons.injEq, Prod.mk.injEq] at hc
    obtain ⟨⟨_, rfl⟩, rfl⟩ := hc
    have gp := g.put hd h2
    have hnext : VR S.C.rd S.C.P ops m (contK S ro0 F k .normal) (pre ++ [i]) rest (a.put (some d) s.den) w := h ro0 F _ _ ⟨ro, H, hle, gp⟩ ops m _ rest hsel k3
    simp only [VR, ho, if_pos hw]
    cases hb : rd ops m i with
    | true =>
      simp only [if_true]
      exact ⟨_, h1, by rw [c3]; exact hnext⟩
    | false =>
      rw [hb] at k2
      simp only [Bool.false_eq_true, if_false] at k2 ⊢
      rw [h1]
      simp only [Oper.uponIn, c3]
      exact ⟨fun r hr hrr hbb => recheck_ok gp k2 hre r (List.mem_filter.2 ⟨hr, by simp [hrr, hbb]⟩), hnext⟩
  · cases hc

def dstS : SOp → Option Nat
  | .rd d _ => some d
  | .grd _ _ d _ => some d
  | .box d .. => some d
  | .alloc d .. => some d
  | .store .. => none
  | .call d .. => d
  | .app d .. => some d
  | .bsl d .. => some d
  | .mksl d .. => some d
  | .oth d .. => d
  | .gs _ _ so => dstS so
def skipE (env : List (Nat × SV)) : Option Nat → List (Nat × SV)
  | none => env
  | some d => (d, .cnd false (.val (.bool false))) :: env

theorem safe_rd {d : Nat} {r : SRd} {ps : List SOp} {l : List (SOp × List SOp)} {s : SV} {vc : Prop} (hv : rdv st r = some (s, vc)) (hvc : vc) (hre : recheck S.C ⟨(d, s) :: st.env, st.heap⟩ ps)
    (h : Safe S (.ops l :: k) ⟨(d, s) :: st.env, st.heap⟩) : Safe S (.ops ((.rd d r, ps) :: l) :: k) st := by
  refine ops_step fun ro0 F a w o ops b hg hc _ => ?_
  obtain ⟨ro, H, hle, g⟩ := hg
  obtain ⟨c1, c2, c3, c4⟩ := cop_rd hc
  obtain ⟨h1, h2⟩ := rd_sound g c1 hv hvc
  rw [if_pos (by simp [Region.wanted, c3]), c2]
  have hn : Next S k l ps ro0 F (a.put (some d) s.den) w := ⟨_, ⟨ro, H, hle, g.put c4 h2⟩, hre, h⟩
  cases b with
  | true => exact ⟨_, h1, hn⟩
  | false =>
    simp only [Bool.false_eq_true, if_false]
    rw [h1]
    simp only [Oper.uponIn, c2]
    exact hn

theorem safe_grd {gs d : Nat} {wn : Bool} {r : SRd} {ps : List SOp} {l : List (SOp × List SOp)} {gb : Bool} {s : SV} {vc : Prop} (hgv : gval st.env gs wn = some gb) (hv : rdvG st gb r = some (s, vc)) (hvc : vc)
    (hre : recheck S.C ⟨(d, .cnd gb s) :: st.env, st.heap⟩ ps) (h : Safe S (.ops l :: k) ⟨(d, .cnd gb s) :: st.env, st.heap⟩) : Safe S (.ops ((.grd gs wn d r, ps) :: l) :: k) st := by
  refine ops_step fun ro0 F a w o ops b hg hc _ => ?_
  obtain ⟨ro, H, hle, g⟩ := hg
  obtain ⟨c1, c2, ⟨j, c3, c5⟩, c4⟩ := cop_grd hc
  have hw : Region.wanted o (yielded ops a.tmps) = gb := by
    unfold Region.wanted
    rw [c3]
    exact gval_ok g c5 hgv
  rw [hw]
  split
  · rename_i hgb
    obtain ⟨h1, h2⟩ := rdG_sound g c1 hv hvc hgb
    have hn : Next S k l ps ro0 F (a.put (some d) s.den) w := by
      refine ⟨_, ⟨ro, H, hle, ?_⟩, hre, h⟩
      have := g.put (s := .cnd gb s) c4 (by simp only [SV.ok]; exact fun _ => h2)
      simpa [SV.den, hgb] using this
    rw [c2]
    cases b with
    | true => exact ⟨_, h1, hn⟩
    | false =>
      simp only [Bool.false_eq_true, if_false]
      rw [h1]
      simp only [Oper.uponIn, c2]
      exact hn
  · rename_i hgb
    have hf : gb = false := by simpa using hgb
    refine ⟨_, ⟨ro, H, hle, ?_⟩, hre, h⟩
    have := g.put (s := .cnd gb s) c4 (by simp only [SV.ok]; intro h; rw [hf] at h; cases h)
    rw [c2]
    simpa [SV.den, hf] using this
end
end Go.SX
