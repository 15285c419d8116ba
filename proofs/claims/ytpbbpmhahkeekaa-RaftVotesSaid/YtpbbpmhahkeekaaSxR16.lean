/- Contracts of the raft package: what came (Ready). -/
import Derived.Test.YtpbbpmhahkeekaaSxR15
namespace Go.SX
open Go.Proofs
set_option maxRecDepth 1000000
variable {E : Env}

theorem safe_alts_mid {S : Setup} {k : List Frag} {st : St} {ls : List (List (SOp × List SOp))} {ι : Type} (mid : ι → St) (hrest : ∀ x, Safe S k (mid x)) (h : ∀ l ∈ ls, (∀ x, Safe S k (mid x)) → Safe S (.ops l :: k) st) :
    Safe S (.code (.alts ls) :: k) st := safe_alts fun l hl => h l hl hrest

theorem safe_cond_mid {S : Setup} {k : List Frag} {st : St} {c : Opd} {x y : SCode} {p : Bool} (mid : St) (hc : opv st.env c = some (.val (.bool p))) (hrest : Safe S k mid) (ht : p = true → Safe S k mid → Safe S (.code x :: k) st) (hf : p = false → Safe S k mid → Safe S (.code y :: k) st) :
    Safe S (.code (.cond c x y) :: k) st := safe_cond hc (fun h => ht h hrest) (fun h => hf h hrest)

noncomputable def g30 (i : Nat) : Field := (Try.prog.fieldsOf 30)[i]!
theorem fs30 : (Try.prog.fieldsOf 30).toList = [g30 0, g30 1, g30 2] := by kernel_rfl
theorem hd30 {st : St} {C : Ctx} (hP : C.P = Try.prog) {x y : Operand} {xo yo : Opd} {x1 x2 x3 y1 y2 y3 : Int} {ty t' : TypeId} (h1 : copd x = some xo) (h2 : copd y = some yo)
    (e1 : opv st.env xo = some (.agg [I x1, I x2, I x3])) (e2 : opv st.env yo = some (.agg [I y1, I y2, I y3])) :
    OthV C st (.binOp .neq 30 x y t') ty (Bl (!(x1 == y1 && (x2 == y2 && x3 == y3)))) := by
  refine oth_neq3 (f1 := g30 0) (f2 := g30 1) (f3 := g30 2) h1 h2 ?_ ?_ ?_ ?_ ⟨?_, ?_, ?_, ?_⟩ ⟨?_, ?_, ?_, ?_⟩ ⟨?_, ?_, ?_, ?_⟩ e1 e2 <;> (try rw [hP])
  all_goals first | exact fs30 | kernel_rfl | exact of_decide_eq_true (by kernel_rfl)

def RS.hasHard (s : RS) : Bool := !(s.hT == s.tT && (s.hV == s.tV && s.hC == s.tC))
def RS.readied (s : RS) : RS := { s with fresh := 0, tT := s.hT, tV := s.hV, tC := s.hC, applied := s.hC, msgs := nilS, reads := nilS, snap := false }

theorem ag40 : aggOf Try.prog 40 = some (some 13) := by kernel_rfl
theorem c16 (b : Nat) (s : RS) (hs : s.small) (hd : s.fitsD) (hf : 0 ≤ s.fresh ∧ s.fresh ≤ 2 ^ 61) (ha : 0 ≤ s.applied ∧ s.applied ≤ s.hC ∧ s.hC ≤ 2 ^ 60) (hsn : s.snap = false)
    {ma : Option Addr} {mn mc msz : Nat} {mf : Nat → Nat → SV} (hm : s.msgs = .view ma mn mc msz mf) {ra : Option Addr} {rn rc rsz : Nat} {rf : Nat → Nat → SV} (hr : s.reads = .view ra rn rc rsz rf) :
    Spec Try.prog E 16 [.ptr 0 b 0] [rC b s] (fun v hp => ∃ ea ec es ca cc cs X, Same (if s.fresh = 0 then [] else s.es.drop (min (max (s.fresh - s.mIx - 1) 0) s.es.length).toNat) es ∧
      Same ((s.es.drop (min (max (s.applied + 1 - s.mIx - 1) 0) s.es.length).toNat).take (s.hC - s.applied).toNat) cs ∧
      v = .agg [Bl s.hasHard, I (bif s.hasHard then s.hT else 0), I (bif s.hasHard then s.hV else 0), I (bif s.hasHard then s.hC else 0), Bl false, I 0, I 0, nilS, nilS, vE ea ec es, s.msgs, vE ca cc cs, s.reads] ∧ hp = rC b s.readied :: X) := by
  refine spec_of (keep := k16) (args' := [.ptr 0 b 0]) Try.func16 rfl Try.ntmps16 s16_ok (by simp) ⟨rfl, fun _ h => h⟩ (fun _ _ h => h) (go_ok _ 100 _ _ ?_)
  simp only [go_sem, s16, k16, Nat.reduceBEq, Nat.reduceAdd, Nat.zero_add, Try.results16]
  intro b2
  have cm : cellsOf s.msgs = some [s.msgs] := by rw [hm]; rfl
  have cr : cellsOf s.reads = some [s.reads] := by rw [hr]; rfl
  unfold cellsOf at cm cr
  refine safe_alts_mid (ι := Nat × Option Addr × Nat × {es : List Ent // Same (if s.fresh = 0 then [] else s.es.drop (min (max (s.fresh - s.mIx - 1) 0) s.es.length).toNat) es})
    (fun p => ⟨[(0, .ptr 0 b 0), (2, .ptr 1 b2 0), (3, .ptr 2 p.1 0)], [rC b { s with fresh := 0 }, .cells b2 40 [Bl false, I 0, I 0, I 0, Bl false, I 0, I 0, nilS, nilS, nilS, nilS, nilS, nilS],
      .cells p.1 40 [Bl false, I 0, I 0, I 0, Bl false, I 0, I 0, nilS, nilS, vE p.2.1 p.2.2.1 p.2.2.2.1, s.msgs, nilS, s.reads]]⟩) ?_ ?_
  · rintro ⟨b3, ea, ec, es, hsame⟩
    refine go_ok _ 100 _ _ ?_
    simp only [go_sem, Nat.reduceBEq, Nat.reduceAdd, Nat.zero_add]
    refine safe_oth (s := Bl s.hasHard) (hd30 rfl rfl rfl rfl rfl) trivial ?_
    refine go_ok _ 1 _ _ ?_
    simp only [go_sem, Nat.reduceBEq, Nat.reduceAdd, Nat.zero_add]
    refine safe_cond_mid (p := s.hasHard) ⟨[(0, .ptr 0 b 0), (2, .ptr 1 b2 0), (3, .ptr 2 b3 0)], [rC b { s with fresh := 0, tT := s.hT, tV := s.hV, tC := s.hC }, .cells b2 40 [Bl false, I 0, I 0, I 0, Bl false, I 0, I 0, nilS, nilS, nilS, nilS, nilS, nilS],
      .cells b3 40 [Bl s.hasHard, I (bif s.hasHard then s.hT else 0), I (bif s.hasHard then s.hV else 0), I (bif s.hasHard then s.hC else 0), Bl false, I 0, I 0, nilS, nilS, vE ea ec es, s.msgs, nilS, s.reads]]⟩ rfl ?_ ?_ ?_
    · refine go_ok _ 100 _ _ ?_
      simp only [go_sem, Nat.reduceBEq, Nat.reduceAdd, Nat.zero_add]
      refine ⟨fun h => absurd h (by simp [hsn]), fun _ => ⟨by simp only [inI64]; omega, by simp only [inI64]; omega, ?_⟩⟩
      refine (stp_call [0] rfl rfl rfl ⟨_, Try.func45, rfl, rfl⟩ (c45 b { s with fresh := 0, tT := s.hT, tV := s.hV, tC := s.hC } (s.applied + 1) (s.hC - s.applied) ⟨hs.m0, hs.m1, hs.len⟩ hd (by omega) (by omega) (by omega)) rfl (fun _ h => h) rfl (fun _ _ h => h) ?_).safe trivial
      rintro v hp ⟨rfl, ca, cc, cs, rfl, hsame2⟩
      refine ⟨trivial, go_ok _ 100 _ _ ?_⟩
      simp only [go_sem, nilS, Nat.reduceBEq, Nat.reduceAdd, Nat.zero_add, Try.results16]
      refine ⟨by simp only [hm, hr, and_self], ?_⟩
      refine safe_retC (l := [.agg [Bl s.hasHard, I (bif s.hasHard then s.hT else 0), I (bif s.hasHard then s.hV else 0), I (bif s.hasHard then s.hC else 0), Bl false, I 0, I 0, nilS, nilS, vE ea ec es, s.msgs, vE ca cc cs, s.reads]]) (vc := True) ?_ trivial ⟨ea, ec, es, ca, cc, cs, _, hsame, hsame2, rfl, rfl⟩ rfl rfl
      simp only [retC, Try.results16, go_sem, nilS, Nat.reduceBEq, ag40]
    · intro hh hrest
      refine go_ok _ 18 _ _ ?_
      simp only [go_sem, Nat.reduceBEq, Nat.reduceAdd, Nat.zero_add]
      refine Safe.sub (Sub.front (X := []) (by simp [envSub, look]) ?_) hrest
      simp only [rC, RS.cs, hh, cond_true, List.append_nil]
    · intro hh hrest
      refine go_ok _ 1 _ _ ?_
      simp only [go_sem, Nat.reduceBEq, Nat.reduceAdd, Nat.zero_add]
      have : s.tT = s.hT ∧ s.tV = s.hV ∧ s.tC = s.hC := by
        have h := hh
        simp only [RS.hasHard, Bool.not_eq_false', Bool.and_eq_true, beq_iff_eq] at h
        exact ⟨h.1.symm, h.2.1.symm, h.2.2.symm⟩
      refine Safe.sub (Sub.front (X := []) (by simp [envSub, look]) ?_) hrest
      simp only [rC, RS.cs, this.1, this.2.1, this.2.2, hh, cond_false, List.append_nil]
  · intro l hl hrest
    simp only [List.mem_cons, List.not_mem_nil, or_false] at hl
    rcases hl with rfl | rfl
    · refine go_ok _ 12 _ _ ?_
      simp only [go_sem, Nat.reduceBEq, Nat.reduceAdd, Nat.zero_add]
      refine (stp_call [0] rfl rfl rfl ⟨_, Try.func44, rfl, rfl⟩ (c44 b s hs hd hf.1 hf.2) rfl (fun _ h => h) rfl (fun _ _ h => h) ?_).safe trivial
      rintro v hp ⟨rfl, ea, ec, es, rfl, hsame⟩
      refine ⟨by simp only [go_sem, Nat.reduceBEq, Nat.reduceAdd, Nat.zero_add], go_ok _ 4 _ _ ?_⟩
      simp only [go_sem, cm, cr, Nat.reduceBEq, Nat.reduceAdd, Nat.zero_add]
      exact fun b3 => ⟨⟨by simp only [hm], by simp only [hr]⟩, hrest (b3, ea, ec, ⟨es, hsame⟩)⟩
    · refine go_ok _ 100 _ _ ?_
      simp only [go_sem, Nat.reduceBEq, Nat.reduceAdd, Nat.zero_add]
      intro b3
      refine (stp_call [0] rfl rfl rfl ⟨_, Try.func44, rfl, rfl⟩ (c44 b s hs hd hf.1 hf.2) rfl (fun _ h => h) rfl (fun _ _ h => h) ?_).safe trivial
      rintro v hp ⟨rfl, ea, ec, es, rfl, hsame⟩
      refine ⟨by simp only [go_sem, Nat.reduceBEq, Nat.reduceAdd, Nat.zero_add], go_ok _ 3 _ _ ?_⟩
      simp only [go_sem, cm, cr, Nat.reduceBEq, Nat.reduceAdd, Nat.zero_add]
      exact ⟨⟨by simp only [hm], by simp only [hr]⟩, hrest (b3, ea, ec, ⟨es, hsame⟩)⟩
end Go.SX
