/- Contracts of the raft laws: a log such as a node may have. -/
import Derived.Test.YtpbbpmhahkeekaaSxR27
namespace Go.SX
open Go.Proofs
set_option maxRecDepth 1000000
variable {E : Env}

theorem safe_cond_midp {S : Setup} {k : List Frag} {st : St} {c : Opd} {x y : SCode} {p : Bool} {κ : Type} (mid : κ → St) (hc : opv st.env c = some (.val (.bool p))) (hrest : ∀ q, Safe S k (mid q)) (ht : p = true → (∀ q, Safe S k (mid q)) → Safe S (.code x :: k) st)
    (hf : p = false → (∀ q, Safe S k (mid q)) → Safe S (.code y :: k) st) : Safe S (.code (.cond c x y) :: k) st := safe_cond hc (fun h => ht h hrest) (fun h => hf h hrest)

/-- a row more -/
theorem app_one {α : Type} [Inhabited α] {enc : α → List SV} {sz : Nat} {ys : List α} {y : α} : ∀ i j, i < ys.length + 1 → j < sz → appF (rowsV enc ys) ys.length (litF sz (enc y)) i j = rowsV enc (ys ++ [y]) i j := by
  intro i j hi hj
  rw [← appF_rows]
  unfold appF
  cases h : Nat.blt i ys.length with
  | true => simp only [cond_true]
  | false =>
    simp only [cond_false]
    have : ys.length ≤ i := by
      rcases Nat.lt_or_ge i ys.length with h' | h'
      · rw [← Nat.blt_eq, h] at h'
        cases h'
      · exact h'
    rw [show i - ys.length = 0 by omega]
    simp only [litF, rowsV, Nat.zero_mul, Nat.zero_add, List.getD_cons_zero]

theorem okD_one (b : UInt8) : okD [b] := ⟨by simp, fun c => by
  have : chunk8 [b] c = [] := by simp [chunk8]
  rw [this]
  decide⟩
theorem okD_enc : ∀ i : Nat, i < 12 → okD (encV [0, 1, 2, 3 + (i : Int)]) := by
  intro i hi
  have hl : (encV [0, 1, 2, 3 + (i : Int)]).length = 33 := by simp [encV, be8_len]
  refine ⟨by rw [hl]; decide, fun c => ?_⟩
  rcases Nat.lt_or_ge c 4 with h | h
  · have : ∀ i : Nat, i < 12 → ∀ c : Nat, c < 4 → beN (chunk8 (encV [0, 1, 2, 3 + (i : Int)]) c) < 2 ^ 63 := by decide +kernel
    exact this i hi c h
  · have : chunk8 (encV [0, 1, 2, 3 + (i : Int)]) c = [] := by
      unfold chunk8
      rw [List.drop_eq_nil_of_le (by rw [hl]; omega)]
      rfl
    rw [this]
    decide

/-- how a made log is -/
structure Md (t0 t : Int) (es : List Ent) : Prop where
  ix : ∀ k, k < es.length → (es.getD k default).ix = 1 + k
  lo : ∀ k, k < es.length → prevT t0 es k ≤ (es.getD k default).tm
  last : prevT t0 es es.length = t
  hi : t ≤ t0 + es.length
  ge : t0 ≤ t
  up : ∀ k, k < es.length → (es.getD k default).tm ≤ t
  d : ∀ e ∈ es, okD e.d.xs ∧ e.d.xs.length ≤ 1000

theorem prevT_app {t0 : Int} {es : List Ent} {e : Ent} {k : Nat} (hk : k ≤ es.length) : prevT t0 (es ++ [e]) k = prevT t0 es k := by
  unfold prevT
  split
  · rfl
  · simp [List.getD_eq_getElem?_getD, List.getElem?_append_left (show k - 1 < es.length by omega)]
theorem Md.step {t0 t : Int} {es : List Ent} (h : Md t0 t es) {e : Ent} {t' : Int} (h1 : t ≤ t') (h2 : t' ≤ t + 1) (hix : e.ix = 1 + es.length) (htm : e.tm = t') (hd : okD e.d.xs ∧ e.d.xs.length ≤ 1000) : Md t0 t' (es ++ [e]) := by
  have hge := h.ge
  have hhi := h.hi
  have get1 : ∀ k, k < es.length → (es ++ [e]).getD k default = es.getD k default := fun k hk => by simp [List.getD_eq_getElem?_getD, List.getElem?_append_left hk]
  have get2 : (es ++ [e]).getD es.length default = e := by simp [List.getD_eq_getElem?_getD]
  refine ⟨fun k hk => ?_, fun k hk => ?_, ?_, by simp; omega, by omega, fun k hk => ?_, fun x hx => ?_⟩
  · simp only [List.length_append, List.length_singleton] at hk
    rcases Nat.lt_or_ge k es.length with h' | h'
    · rw [get1 k h']; exact h.ix k h'
    · obtain rfl : k = es.length := by omega
      rw [get2]; exact hix
  · simp only [List.length_append, List.length_singleton] at hk
    rw [prevT_app (by omega)]
    rcases Nat.lt_or_ge k es.length with h' | h'
    · rw [get1 k h']; exact h.lo k h'
    · obtain rfl : k = es.length := by omega
      rw [get2, h.last, htm]; exact h1
  · unfold prevT
    rw [if_neg (by simp)]
    simp only [List.length_append, List.length_singleton, Nat.add_sub_cancel]
    rw [get2, htm]
  · simp only [List.length_append, List.length_singleton] at hk
    rcases Nat.lt_or_ge k es.length with h' | h'
    · rw [get1 k h']; exact Int.le_trans (h.up k h') h1
    · obtain rfl : k = es.length := by omega
      rw [get2, htm]; exact Int.le_refl _
  · rcases List.mem_append.1 hx with hx | hx
    · exact h.d x hx
    · rw [List.mem_singleton.1 hx]; exact hd

structure G20 (t0 : Int) (n : Nat) where
  es : List Ent
  t : Int
  nl : Bool
  b : Nat
  off : Nat
  cp : Nat
  hi : es.length ≤ n
  h12 : es.length ≤ 12
  md : Md t0 t es

theorem c20 (a : Option Addr) (cap : Nat) (ts : List Int) (t0 : Int) (h0 : 0 ≤ t0 ∧ t0 ≤ 2 ^ 40) : Spec Try.prog E 20 [vI a cap ts, I 0, I t0] [] (fun v hp => ∃ es t nl b off cp, Md t0 t es ∧ es.length ≤ 12 ∧ v = .osl 0 nl b off es.length cp ∧ hp = [.row nl b 43 off 4 es.length cp (rowsV encE es)]) := by
  refine Spec.leave (Post := fun v hp => ∃ es t nl b off cp X, Md t0 t es ∧ es.length ≤ 12 ∧ v = .osl 0 nl b off es.length cp ∧ hp = .row nl b 43 off 4 es.length cp (rowsV encE es) :: X) ?_ (fun v hp ⟨es, t, nl, b, off, cp, X, h1, h2, h3, h4⟩ => ⟨[_], X, h4, es, t, nl, b, off, cp, h1, h2, h3, rfl⟩)
  refine spec_of (keep := k20) (args' := [vI a cap ts, I 0, I t0]) Try.func20 rfl Try.ntmps20 s20_ok (by simp) ⟨rfl, fun _ h => h⟩ (fun _ _ h => h) (go_ok _ 100 _ _ ?_)
  simp only [go_sem, s20, k20, Nat.reduceBEq, Nat.reduceAdd, Nat.zero_add]
  refine safe_nilrow 0 43 0 4 (rowsV encE []) (env' := [(0, vI a cap ts), (1, I 0), (2, I t0), (6, nilS), (7, .osl 0 true 0 0 0 0), (8, I 0)]) ⟨rfl, .inl rfl, rfl, .inl rfl, rfl, .inl rfl, rfl, .inl rfl, rfl, .inr ⟨⟨1, _, rfl⟩, rfl⟩, rfl, .inl rfl, trivial⟩ ?_
  refine safe_loop (ι := G20 t0 ts.length) (fun g => ⟨[(0, vI a cap ts), (1, I 0), (2, I g.t), (7, .osl 0 g.nl g.b g.off g.es.length g.cp), (8, I g.es.length)], [.row g.nl g.b 43 g.off 4 g.es.length g.cp (rowsV encE g.es)]⟩) (fun g => ts.length - g.es.length)
    ⟨[], t0, true, 0, 0, 0, Nat.zero_le _, by decide, ⟨fun k hk => absurd hk (by simp), fun k hk => absurd hk (by simp), rfl, by simp, Int.le_refl _, fun k hk => absurd hk (by simp), by simp⟩⟩ (Sub.front (X := []) ⟨rfl, rfl, rfl, rfl, rfl, trivial⟩ rfl) ?_
  rintro ⟨es, t, nl, b, off, cp, hi, h12, md⟩
  refine go_ok _ 100 _ _ ?_
  simp only [go_sem, Nat.reduceBEq, Nat.reduceAdd, Nat.zero_add, Try.results20, Int.toNat_natCast]
  refine ⟨fun h => ?_, fun h => ⟨es, t, nl, b, off, cp, [], md, h12, rfl, rfl⟩⟩
  have hlt : es.length < ts.length ∧ es.length < 12 := by simp at h; omega
  refine ⟨by omega, by decide, ?_⟩
  generalize ts.getD es.length 0 = x
  have hge := md.ge
  have hhi := md.hi
  have hm3 : 0 ≤ x % 3 ∧ x % 3 < 3 := by omega
  have hq : 0 ≤ (x % 3).tdiv 2 ∧ (x % 3).tdiv 2 ≤ 1 := by
    rw [Int.tdiv_eq_ediv_of_nonneg hm3.1]
    omega
  refine (stp_call [] rfl rfl rfl ⟨_, Try.func21, rfl, rfl⟩ (c21 x 3 (by decide) (by decide)) rfl (fun _ h => h) rfl (fun _ _ h => h) ?_).safe trivial
  rintro v hp ⟨rfl, rfl⟩
  generalize hqq : (x % 3).tdiv 2 = q at hq
  refine ⟨by simp only [go_sem, Nat.reduceBEq, Nat.reduceAdd, Nat.zero_add], go_ok _ 14 _ _ ?_⟩
  simp only [go_sem, hqq, Nat.reduceBEq, Nat.reduceAdd, Nat.zero_add]
  refine ⟨by simp only [inI64]; omega, by simp only [inI64]; omega, ?_⟩
  refine ⟨by simp only [inI64]; omega, by simp only [inI64]; omega, fun b1 => ?_⟩
  refine safe_frz2 (hp := [_]) (f' := rowsV encB [by8 es.length]) (fun i j hi hj => ?_) ?_
  · obtain rfl : i = 0 := by omega
    obtain rfl : j = 0 := by omega
    simp only [litF, rowsV, encB, List.getD_cons_zero, Nat.zero_mul, Nat.zero_add, by8_val]
  refine go_ok _ 14 _ _ ?_
  simp only [go_sem, frz, Nat.reduceBEq, Nat.reduceAdd, Nat.zero_add, if_false, Int.toNat_natCast]
  intro b9
  refine ⟨⟨by omega, by omega⟩, by decide, by decide, ?_⟩
  refine safe_cond_midp (κ := {p : Int × By // okD p.2.xs ∧ p.2.xs.length ≤ 1000}) (fun p => ⟨[(0, vI a cap ts), (1, I 0), (2, I (t + q)), (7, .osl 0 nl b off es.length cp), (8, I es.length), (9, .ptr 1 b9 0)],
    [.row nl b 43 off 4 es.length cp (rowsV encE es), .cells b9 43 [I (0 + 1 + es.length), I (t + q), I p.1.1, p.1.2.sv]]⟩) rfl ?_ ?_ ?_
  · rintro ⟨⟨kd, d⟩, hd⟩
    simp only at hd
    refine go_ok _ 100 _ _ ?_
    simp only [go_sem, Nat.reduceBEq, Nat.reduceAdd, Nat.zero_add]
    intro b2
    refine (stp_app2 (c := 0) (x := .osl 2 false b2 0 1 1) (N := es.length + 1) (f2 := rowsV encE (es ++ [⟨0 + 1 + es.length, t + q, kd, d⟩])) (gx := litF 4 (encE ⟨0 + 1 + es.length, t + q, kd, d⟩)) rfl rfl rfl rfl ⟨rfl, rfl, rfl, rfl, by decide⟩ (fun i j hi hj => ?_) (by omega) rfl
      (fun i' j' hi' hj' => app_one i' j' hi' hj') fun nl' b' off' cap' => ?_).safe trivial
    · obtain rfl : i = 0 := by omega
      rcases j with _ | _ | _ | _ | j <;> first | omega | simp [litF, encE, one, Value.oneCell']
    refine ⟨trivial, go_ok _ 100 _ _ ?_⟩
    simp only [go_sem, Nat.reduceBEq, Nat.reduceAdd, Nat.zero_add]
    refine ⟨by simp only [inI64]; omega, ?_⟩
    have hl1 : (es ++ [(⟨0 + 1 + es.length, t + q, kd, d⟩ : Ent)]).length = es.length + 1 := by simp
    refine safe_lend (⟨es ++ [⟨0 + 1 + es.length, t + q, kd, d⟩], t + q, nl', b', off', cap', by rw [hl1]; omega, by rw [hl1]; omega, md.step (by omega) (by omega) (by show (0 : Int) + 1 + es.length = _; omega) rfl hd⟩ : G20 t0 ts.length) (by simp only [hl1]; omega)
      (Sub.front (X := [.cells b9 43 [I (0 + 1 + es.length), I (t + q), I kd, d.sv], .row false b2 43 0 4 1 1 (litF 4 [I (0 + 1 + es.length), I (t + q), I kd, d.sv])]) ⟨rfl, rfl, rfl, ?_, ?_, trivial⟩ ?_)
    · simp only [look, go_sem, Nat.reduceBEq, hl1]
    · simp only [look, go_sem, Nat.reduceBEq, hl1]
      congr 2
    · simp only [hl1]
      rfl
  · intro h2 hrest
    refine go_ok _ 4 _ _ ?_
    simp only [go_sem, Nat.reduceBEq, Nat.reduceAdd, Nat.zero_add]
    refine ⟨by simp only [inI64]; omega, fun b2 => ?_⟩
    refine safe_frz2 (hp := [_, _]) (f' := rowsV encI [0, 1, 2, 3 + (es.length : Int)]) (fun i j hi hj => ?_) ?_
    · obtain rfl : j = 0 := by omega
      rcases i with _ | _ | _ | _ | i <;> first | omega | rfl
    refine go_ok _ 100 _ _ ?_
    simp only [go_sem, frz, Nat.reduceBEq, Nat.reduceAdd, Nat.zero_add, if_false]
    refine (stp_call [] (args := [vI (some ⟨b2, 0, none⟩) 4 [0, 1, 2, 3 + (es.length : Int)]]) rfl rfl rfl ⟨_, Try.func49, rfl, rfl⟩ (c49 (some ⟨b2, 0, none⟩) 4 [0, 1, 2, 3 + (es.length : Int)] (by simp)) rfl (fun _ h => h) rfl (fun _ _ h => h) ?_).safe trivial
    rintro v hp ⟨rfl, a3, cap3, rfl⟩
    refine ⟨trivial, go_ok _ 5 _ _ ?_⟩
    simp only [go_sem, Nat.reduceBEq, Nat.reduceAdd, Nat.zero_add]
    exact hrest ⟨(2, ⟨a3, cap3, encV [0, 1, 2, 3 + (es.length : Int)]⟩), okD_enc es.length hlt.2, by simp [encV, be8_len]⟩
  · intro h2 hrest
    refine go_ok _ 1 _ _ ?_
    simp only [go_sem, Nat.reduceBEq, Nat.reduceAdd, Nat.zero_add]
    refine Safe.sub ?_ (hrest ⟨(0, ⟨some ⟨b1, 0, none⟩, 1, [by8 es.length]⟩), okD_one _, by simp⟩)
    exact Sub.front (X := []) ⟨rfl, rfl, rfl, rfl, rfl, rfl, trivial⟩ rfl
end Go.SX
