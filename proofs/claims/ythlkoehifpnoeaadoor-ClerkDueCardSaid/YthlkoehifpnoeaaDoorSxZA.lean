/- Arrays behind a pointer, as own rows. -/
import Derived.Test.YthlkoehifpnoeaaDoorSxX
import Derived.Test.YthlkoehifpnoeaaDoorSxV
import Derived.Test.YthlkoehifpnoeaaDoorSxU
import Derived.Test.YthlkoehifpnoeaaDoorSxW
namespace Go.SX
variable {S : Setup} {k : List Frag} {C : Ctx} {st : St}

/-- own memory is frozen: the slots seen anew, by program -/
@[go_sem] def frzV (c : Nat) (v : SV) : SV → SV
  | .osl c' nl b off n cap => bif c' == c then v else .osl c' nl b off n cap
  | .cnd g (.osl c' nl b off n cap) => bif c' == c then .cnd g v else .cnd g (.osl c' nl b off n cap)
  | s => s
@[go_sem] def frzE (c : Nat) (v : SV) : List (Nat × SV) → List (Nat × SV)
  | [] => []
  | (t, s) :: r => (t, frzV c v s) :: frzE c v r
def frzOk1 (c : Nat) (nl : Bool) (b off n cap : Nat) : SV → Prop
  | .osl c' nl' b' off' n' cap' => (c' == c) = false ∨ (nl' = nl ∧ b' = b ∧ off' = off ∧ n' = n ∧ cap' = cap)
  | .cnd _ (.osl c' nl' b' off' n' cap') => (c' == c) = false ∨ (nl' = nl ∧ b' = b ∧ off' = off ∧ n' = n ∧ cap' = cap)
  | _ => True
def frzOk (c : Nat) (nl : Bool) (b off n cap : Nat) : List (Nat × SV) → Prop
  | [] => True
  | (_, s) :: r => frzOk1 c nl b off n cap s ∧ frzOk c nl b off n cap r
theorem frz_look {c : Nat} {v : SV} {nl : Bool} {b off n cap : Nat} : ∀ {env : List (Nat × SV)} {t : Nat} {s : SV}, frzOk c nl b off n cap env → look (frzE c v env) t = some s → ∃ s0, look env t = some s0 ∧ frzOk1 c nl b off n cap s0 ∧ s = frzV c v s0
  | [], t, s, _, h => by simp [frzE, look] at h
  | (t0, s0) :: r, t, s, ho, h => by
    simp only [frzE, look] at h ⊢
    cases hte : (t0 == t) with
    | true =>
      rw [hte, cond_true] at h
      injection h with h
      exact ⟨s0, rfl, ho.1, h.symm⟩
    | false =>
      rw [hte, cond_false] at h
      exact frz_look ho.2 h
/-- a row is frozen, wherever its values stand, and seen otherwise -/
theorem safe_frzA {c b off n cap sz : Nat} {nl : Bool} {T : TypeId} {f : Nat → Nat → SV} (f' : Nat → Nat → SV) (hc : getC st.heap c = .row nl b T off sz n cap f) (hf : ∀ i j, i < n → j < sz → f i j = f' i j) (he : frzOk c nl b off n cap st.env)
    (h : Safe S k ⟨frzE c (.view (if nl then none else some ⟨b, off, none⟩) n cap sz f') st.env, setC st.heap c .emp⟩) : Safe S k st := by
  rintro ro0 F a w ⟨ro, H, hle, g⟩
  obtain ⟨H1, H2, hp, hsat, hput⟩ := hsat_at c g.heap (getC_lt (by rw [hc]; simp))
  rw [hc] at hsat
  have hsat' := row_congr hf hsat
  have fin : ∀ ro', ROle ro ro' → (∀ p ∈ H1, ro' p.1 = some p.2) → Sat S.C.E ro' (H2 ++ F) w → contK S ro0 F k .normal a w := by
    intro ro' hle' hin hs
    obtain ⟨H3, hp3, hs3⟩ := hput ro' .emp [] hle' rfl
    refine h ro0 F a w ⟨ro', H3, hle.trans hle', g.defs, g.size, hs3, hs.perm (hp3.symm.append_right F), fun t s ht => ?_⟩
    obtain ⟨s0, e1, e2, rfl⟩ := frz_look he ht
    obtain ⟨e3, e4⟩ := g.env t s0 e1
    have hfz := frz_ok hsat' hle' hin
    have same : a.tmps[t]? = some s0.den ∧ s0.ok ro' := ⟨e3, SV.ok_mono hle' _ e4⟩
    cases s0 with
    | osl c' nl' b' off' n' cap' =>
      simp only [frzOk1] at e2
      simp only [frzV]
      cases hcc : c' == c with
      | false => exact same
      | true =>
        simp only [hcc, Bool.true_eq_false, false_or] at e2
        obtain ⟨rfl, rfl, rfl, rfl, rfl⟩ := e2
        exact ⟨e3, hfz⟩
    | cnd g' x =>
      cases x with
      | osl c' nl' b' off' n' cap' =>
        simp only [frzOk1] at e2
        simp only [frzV]
        cases hcc : c' == c with
        | false => exact same
        | true =>
          simp only [hcc, Bool.true_eq_false, false_or] at e2
          obtain ⟨rfl, rfl, rfl, rfl, rfl⟩ := e2
          refine ⟨e3, ?_⟩
          show (SV.cnd g' (.view (if nl' then none else some ⟨b', off', none⟩) n' cap' sz f')).ok ro'
          simp only [SV.ok]
          exact fun _ => by simpa only [frz, SV.ok] using hfz
      | _ => exact same
    | _ => exact same
  cases nl with
  | true =>
    have h2' := hsat'
    obtain ⟨rfl, _⟩ := h2'
    exact fin ro (ROle.refl _) (by simp) (g.sat.perm (by simpa using hp.append_right F))
  | false =>
    have h2' := hsat'
    obtain ⟨arr, fz, rfl, _⟩ := h2'
    obtain ⟨s1, s2, s3⟩ := Sat.freeze (g.sat.perm (H' := (b, .cells arr T fz) :: (H2 ++ F)) (by simpa using hp.append_right F))
    exact fin _ s2 (by simpa using s3) s1

theorem frzL_refl {c : Nat} {nl : Bool} {b off n cap sz : Nat} {f : Nat → Nat → SV} : ∀ (env : List (Nat × SV)), FrzL c nl b off n cap sz f env env
  | [] => trivial
  | (t, s) :: r => ⟨rfl, .inl rfl, frzL_refl r⟩
theorem setC_end : ∀ (hp : List Chunk) (c d : Chunk), setC (hp ++ [c]) hp.length d = hp ++ [d]
  | [], _, _ => rfl
  | x :: hp, c, d => by
    show x :: setC (hp ++ [c]) hp.length d = x :: (hp ++ [d])
    rw [setC_end hp c d]
/-- 'string([]byte{z})' -/
theorem safe_bslstr {d e d' : Nat} {x : Opd} {z : UInt8} {zv : Value} {ps1 ps2 : List SOp} {l : List (SOp × List SOp)} {src dst ty : TypeId} (hx : opv st.env x = some (.val (.int .u8 (z.toNat : Nat)))) (hs : S.C.P.underlying src = some (.slice e)) (he : S.C.P.underlying e = some (.int .u8)) (hd : S.C.P.underlying dst = some .string)
    (h1 : ∀ b, recheck S.C ⟨(d, .osl st.heap.length false b 0 1 1) :: st.env, st.heap ++ [.row false b e 0 1 1 1 (litF 1 [.val (.int .u8 (z.toNat : Nat))])]⟩ ps1)
    (h2 : ∀ b, recheck S.C ⟨(d', .val (.string ⟨[z].toArray⟩)) :: (d, .view (some ⟨b, 0, none⟩) 1 1 1 (rowsV encB [z])) :: st.env, st.heap ++ [.emp]⟩ ps2)
    (h : ∀ b, Safe S (.ops l :: k) ⟨(d', .val (.string ⟨[z].toArray⟩)) :: (d, .view (some ⟨b, 0, none⟩) 1 1 1 (rowsV encB [z])) :: st.env, st.heap ++ [.emp]⟩) :
    Safe S (.ops ((.bsl d e 1 1 [zv] [(0, (1, x))], ps1) :: (.oth (some d') (.convert src dst (.tmp d)) ty, ps2) :: l) :: k) st := by
  refine (stp_bsl (cs := [.val (.int .u8 (z.toNat : Nat))]) ?_ fun b => ⟨h1 b, ?_⟩).safe trivial
  · simp only [List.map_cons, List.map_nil, buildV, hx, cst1]
    rfl
  · refine safe_frzC (c := st.heap.length) (f' := rowsV encB [z]) (env' := (d, .view (some ⟨b, 0, none⟩) 1 1 1 (rowsV encB [z])) :: st.env) (f := litF 1 [.val (.int .u8 (z.toNat : Nat))]) (b := b) (off := 0) (n := 1) (cap := 1) (sz := 1) (nl := false) (T := e) ?_ (fun i j hi hj => ?_) ⟨rfl, .inr ⟨rfl, rfl⟩, frzL_refl _⟩ ?_
    · exact getC_app_len
    · obtain rfl : i = 0 := by omega
      obtain rfl : j = 0 := by omega
      rfl
    rw [setC_end]
    refine safe_oth (oth_str (e := e) (xs := [z]) (ad := some ⟨b, 0, none⟩) (n := 1) (cap := 1) (f := rowsV encB [z]) (xo := .t d) rfl hs he hd ?_ rfl (fun _ h => h) rfl (fun _ _ => rfl)) (h2 b) (h b)
    simp [opv, look]

theorem recheck_gsOn {d g : Nat} {wn : Bool} {op : Op} {ty : TypeId} {s : SV} (hg : gval st.env g wn = some true) (h : OthV C st op ty s) (hl : look st.env d = some s) : recheck1 C st (.gs g wn (.oth (some d) op ty)) := by
  simp only [recheck1, hg]
  exact ⟨s, hl, fun ro H F a w gg => by
    rw [exec_same (o := oper0 (some d) op ty) (o' := oper0 none op ty) rfl rfl]
    exact (h ro H F a w gg).1⟩
/-- a guard that is on, left out -/
theorem safe_peel {t : Nat} {x : SV} (hl : look st.env t = some (.cnd true x)) (h : Safe S k ⟨(t, x) :: st.env, st.heap⟩) : Safe S k st := by
  refine Safe.sub (st' := ⟨(t, x) :: st.env, st.heap⟩) ⟨fun t' s ht => ?_, fun ro H h => ⟨H, [], by simp, h⟩⟩ h
  simp only [look] at ht
  cases hc : t == t' with
  | true =>
    rw [hc] at ht
    simp only [cond_true, Option.some.injEq] at ht
    subst ht
    have : t = t' := by simpa using hc
    subst this
    exact ⟨_, hl, by simp [SV.den], fun ro h => by simp only [SV.ok] at h; exact h trivial⟩
  | false =>
    rw [hc] at ht
    simp only [cond_false] at ht
    exact ⟨s, ht, rfl, fun _ h => h⟩
/-- 'string([]byte{z})', guarded, the guard being on -/
theorem safe_bslstrOn {d e d' xt g : Nat} {wn : Bool} {z : UInt8} {zv : Value} {ps1 ps2 : List SOp} {l : List (SOp × List SOp)} {src dst ty : TypeId} (hx : look st.env xt = some (.cnd true (.val (.int .u8 (z.toNat : Nat))))) (hs : S.C.P.underlying src = some (.slice e)) (he : S.C.P.underlying e = some (.int .u8)) (hd : S.C.P.underlying dst = some .string)
    (hdN : d' < S.C.N) (hg : ∀ b, gval ((d, .view (some ⟨b, 0, none⟩) 1 1 1 (rowsV encB [z])) :: (xt, .val (.int .u8 (z.toNat : Nat))) :: st.env) g wn = some true)
    (h1 : ∀ b, recheck S.C ⟨(d, .osl st.heap.length false b 0 1 1) :: (xt, .val (.int .u8 (z.toNat : Nat))) :: st.env, st.heap ++ [.row false b e 0 1 1 1 (litF 1 [.val (.int .u8 (z.toNat : Nat))])]⟩ ps1)
    (h2 : ∀ b, recheck S.C ⟨(d', .val (.string ⟨[z].toArray⟩)) :: (d, .view (some ⟨b, 0, none⟩) 1 1 1 (rowsV encB [z])) :: (xt, .val (.int .u8 (z.toNat : Nat))) :: st.env, st.heap ++ [.emp]⟩ ps2)
    (h : ∀ b, Safe S (.ops l :: k) ⟨(d', .val (.string ⟨[z].toArray⟩)) :: (d, .view (some ⟨b, 0, none⟩) 1 1 1 (rowsV encB [z])) :: (xt, .val (.int .u8 (z.toNat : Nat))) :: st.env, st.heap ++ [.emp]⟩) :
    Safe S (.opn (.bsl d e 1 1 [zv] [(0, (1, .t xt))]) ps1 ((.gs g wn (.oth (some d') (.convert src dst (.tmp d)) ty), ps2) :: l) :: k) st := by
  refine safe_peel hx ?_
  refine Stp.safeOn (stp_bsl (cs := [.val (.int .u8 (z.toNat : Nat))]) ?_ fun b => ⟨h1 b, ?_⟩) trivial
  · simp only [List.map_cons, List.map_nil, buildV, opv, look, BEq.rfl, cond_true, cst1]
    rfl
  · refine safe_frzC (c := st.heap.length) (f' := rowsV encB [z]) (env' := (d, .view (some ⟨b, 0, none⟩) 1 1 1 (rowsV encB [z])) :: (xt, .val (.int .u8 (z.toNat : Nat))) :: st.env) (f := litF 1 [.val (.int .u8 (z.toNat : Nat))]) (b := b) (off := 0) (n := 1) (cap := 1) (sz := 1) (nl := false) (T := e) ?_ (fun i j hi hj => ?_) ⟨rfl, .inr ⟨rfl, rfl⟩, frzL_refl _⟩ ?_
    · exact getC_app_len
    · obtain rfl : i = 0 := by omega
      obtain rfl : j = 0 := by omega
      rfl
    rw [setC_end]
    refine safe_gs (hg b) (fun _ => ?_) (fun h => absurd h (by decide)) (decide_eq_true hdN)
    refine safe_othOn (oth_str (e := e) (xs := [z]) (ad := some ⟨b, 0, none⟩) (n := 1) (cap := 1) (f := rowsV encB [z]) (xo := .t d) rfl hs he hd ?_ rfl (fun _ h => h) rfl (fun _ _ => rfl)) hdN (h2 b) (h b)
    simp [opv, look]

/-- a block of cells, as a row of one-celled things -/
theorem cells_row {b : Nat} {T : TypeId} {cs : List SV} {f : Nat → Nat → SV} {n : Nat} (hn : cs.length = n) (h : ∀ i, i < n → cs.getD i default = f i 0) (ro : RO) (H : Hp) (hs : (Chunk.cells b T cs).sat ro H) : (Chunk.row false b T 0 1 n n f).sat ro H := by
  obtain ⟨rfl, hok⟩ := hs
  refine ⟨_, (0, 0), rfl, Fz.zero _, Nat.le_refl _, by simp [dens_eq, hn], fun i j hi hj => ?_⟩
  obtain rfl : j = 0 := by omega
  have hi' : i < cs.length := by omega
  have e : cs.getD i default = cs[i] := by simp [List.getD_eq_getElem?_getD, hi']
  rw [← h i hi, e]
  refine ⟨?_, oks_iff.1 hok _ (List.getElem_mem hi')⟩
  simp [dens_eq, hi']
/-- '&a[i]' of an array behind a pointer -/
theorem oth_arrIdx {t e ty : TypeId} {x i : Operand} {xo io : Opd} {c b n sz : Nat} {iv : Int} (hx : copd x = some xo) (hi : copd i = some io) (hu : C.P.underlying t = some (.array n e)) (hz : szOf C.P e = some sz)
    (ex : opv st.env xo = some (.ptr c b 0)) (ei : opv st.env io = some (.val (.int .i64 iv))) (h0 : 0 ≤ iv) (h1 : iv < n) : OthV C st (.indexAddr t x i) ty (.ep c b 0 sz iv.toNat 0) := by
  intro ro H F a w g
  obtain ⟨h2, _⟩ := opv_ok g hx ex
  obtain ⟨h3, _⟩ := opv_ok g hi ei
  refine ⟨lift_v ?_, by simp only [SV.ok]⟩
  rw [h2, h3]
  have : 0 ≤ iv ∧ iv < (n : Int) := ⟨h0, h1⟩
  simp [Instr.indexAt, SV.den, asIntOf, run_underlying hu, this, sizeOf_run hz, Instr.sureAddr, Addr.add]
  omega
end Go.SX
