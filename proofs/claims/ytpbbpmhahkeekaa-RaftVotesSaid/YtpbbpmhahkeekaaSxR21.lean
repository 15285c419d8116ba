/- The law of the lone voter: its walk. -/
import Derived.Test.YtpbbpmhahkeekaaSxR20
namespace Go.SX
open Go.Proofs
set_option maxRecDepth 1000000
variable {E : Env}

def encD (d : By) : List SV := [d.sv]
abbrev vD (a : Option Addr) (cap : Nat) (ds : List By) : SV := .view a ds.length cap 1 (rowsV encD ds)
@[simp, go_sem] theorem rowsD0 (ds : List By) (i : Nat) : rowsV encD ds i 0 = (ds.getD i ⟨none, 0, []⟩).sv := rfl

/-- what a call of Ready tells -/
structure OR where
  hh : Bool
  t : Int
  v : Int
  c : Int
  ea : Option Addr
  ec : Nat
  es : List Ent
  ca : Option Addr
  cc : Nat
  cs : List Ent
@[go_sem] def OR.cells (o : OR) : List SV := [Bl o.hh, I o.t, I o.v, I o.c, Bl false, I 0, I 0, nilS, nilS, vE o.ea o.ec o.es, nilS, vE o.ca o.cc o.cs, nilS]

theorem Same.kd' {es es' : List Ent} (h : Same es es') (i : Nat) : (es'.getD i default).kd = (es.getD i default).kd := congrArg (fun c => c.2.2.1) (h.core i)
theorem Same.ix' {es es' : List Ent} (h : Same es es') (i : Nat) : (es'.getD i default).ix = (es.getD i default).ix := congrArg (fun c => c.1) (h.core i)
theorem Same.xs' {es es' : List Ent} (h : Same es es') (i : Nat) : (es'.getD i default).d.xs = (es.getD i default).d.xs := congrArg (fun c => c.2.2.2) (h.core i)

/-- Ready of a node that leads alone -/
theorem c16L (b : Nat) (s : RS) (id : Int) (n m : Nat) (L : Lead s id n) (hm : m ≤ n) (hf : s.fresh = if m = n then 0 else (m : Int) + 1) (ha : s.applied = m) (hh : s.hasHard = !(decide (m = n))) :
    Spec Try.prog E 16 [.ptr 0 b 0] [rC b s] (fun v hp => ∃ o : OR, ∃ X, Same (s.es.drop m) o.es ∧ Same (s.es.drop m) o.cs ∧ v = .agg o.cells ∧ o.hh = (!(decide (m = n))) ∧ (m < n → o.t = 1 ∧ o.v = id ∧ o.c = n) ∧ hp = rC b s.readied :: X) := by
  have hle := L.le
  refine (c16 b s L.small L.dl ⟨by rw [hf]; split <;> omega, by rw [hf]; split <;> omega⟩ ⟨by rw [ha]; omega, by rw [ha, L.hC]; omega, by rw [L.hC]; omega⟩ L.snap L.msgs L.reads).post ?_
  rintro v hp ⟨ea, ec, es, ca, cc, cs, X, h1, h2, rfl, rfl⟩
  have e1 : (if s.fresh = 0 then [] else s.es.drop (min (max (s.fresh - s.mIx - 1) 0) s.es.length).toNat) = s.es.drop m := by
    by_cases hmn : m = n
    · have f0 : s.fresh = 0 := by rw [hf, if_pos hmn]
      rw [if_pos f0, List.drop_eq_nil_of_le (by rw [L.len]; omega)]
    · have f1 : s.fresh = (m : Int) + 1 := by rw [hf, if_neg hmn]
      rw [if_neg (by omega), f1, L.ix, L.len]
      congr 1
      omega
  have e2 : (s.es.drop (min (max (s.applied + 1 - s.mIx - 1) 0) s.es.length).toNat).take (s.hC - s.applied).toNat = s.es.drop m := by
    rw [ha, L.ix, L.len, L.hC, show (min (max ((m : Int) + 1 - 0 - 1) 0) (n : Int)).toNat = m by omega, List.take_of_length_le (by simp [L.len])]
  rw [e1] at h1
  rw [e2] at h2
  rw [L.msgs, L.reads, hh]
  refine ⟨⟨!(decide (m = n)), bif !(decide (m = n)) then s.hT else 0, bif !(decide (m = n)) then s.hV else 0, bif !(decide (m = n)) then s.hC else 0, ea, ec, es, ca, cc, cs⟩, X, h1, h2, rfl, rfl, fun hlt => ?_, rfl⟩
  have : decide (m = n) = false := by simp; omega
  simp only [this, Bool.not_false, cond_true, L.hT, L.hV, L.hC]
  exact ⟨trivial, trivial, trivial⟩

theorem c16R (b : Nat) (s : RS) (id : Int) (n m : Nat) (L : Lead s id n) (hm : m ≤ n) (hf : s.fresh = if m = n then 0 else (m : Int) + 1) (ha : s.applied = m) (hh : s.hasHard = !(decide (m = n))) :
    Spec Try.prog E 16 [.ptr 0 b 0] [rC b s] (fun v hp => (∃ o : OR, Same (s.es.drop m) o.es ∧ Same (s.es.drop m) o.cs ∧ v = .agg o.cells ∧ o.hh = (!(decide (m = n))) ∧ (m < n → o.t = 1 ∧ o.v = id ∧ o.c = n)) ∧ hp = [rC b s.readied]) :=
  (c16L b s id n m L hm hf ha hh).leave fun _ _ ⟨o, X, h1, h2, h3, h4, h5, h6⟩ => ⟨[_], X, h6, ⟨o, h1, h2, h3, h4, h5⟩, rfl⟩

theorem c17R (b : Nat) (s : RS) (a : Option Addr) (cap : Nat) (xs : List UInt8) (id : Int) (n : Nat) (L : Lead s id n) (hn : n < 100) (hxs : xs.length ≤ 65536) :
    Spec Try.prog E 17 [.ptr 0 b 0, vB a cap xs] [rC b s] (fun v hp => v = .tup [I ((n : Int) + 1), I 1, I 0] ∧ ∃ s', Lead s' id (n + 1) ∧ Same (s.es ++ [⟨(n : Int) + 1, 1, 0, ⟨a, cap, xs⟩⟩]) s'.es ∧ s'.applied = s.applied ∧
      s'.fresh = (if s.fresh = 0 ∨ (n : Int) + 1 < s.fresh then (n : Int) + 1 else s.fresh) ∧ s'.tC = s.tC ∧ hp = [rC b s']) := by
  refine (c17 b s a cap xs L.small L.lone L.dl (by rw [L.len]; omega) hxs L.role ⟨by rw [L.hC]; omega, by rw [L.hC, L.last]; omega⟩ (by rw [L.hC, L.last]; omega)).leave ?_
  rintro v hp ⟨rfl, la, lc, es', X, hsame, rfl⟩
  obtain ⟨h1, h2, h3, h4, h5⟩ := L.put (la := la) (lc := lc) hn (by omega) hsame
  rw [L.last, L.hT] at *
  exact ⟨[_], X, rfl, rfl, _, h1, by rw [h3]; exact hsame, h2, h4, h5, rfl⟩

theorem c16S (b : Nat) (s : RS) (hs : s.small) (hd : s.fitsD) (hf : 0 ≤ s.fresh ∧ s.fresh ≤ 2 ^ 61) (ha : 0 ≤ s.applied ∧ s.applied ≤ s.hC ∧ s.hC ≤ 2 ^ 60) (hsn : s.snap = false)
    {ma : Option Addr} {mn mc msz : Nat} {mf : Nat → Nat → SV} (hm : s.msgs = .view ma mn mc msz mf) {ra : Option Addr} {rn rc rsz : Nat} {rf : Nat → Nat → SV} (hr : s.reads = .view ra rn rc rsz rf) :
    Spec Try.prog E 16 [.ptr 0 b 0] [rC b s] (fun v hp => (∃ o : OR, v = .agg [Bl o.hh, I o.t, I o.v, I o.c, Bl false, I 0, I 0, nilS, nilS, vE o.ea o.ec o.es, .view ma mn mc msz mf, vE o.ca o.cc o.cs, .view ra rn rc rsz rf]) ∧ hp = [rC b s.readied]) := by
  refine (c16 b s hs hd hf ha hsn hm hr).leave ?_
  rintro v hp ⟨ea, ec, es, ca, cc, cs, X, h1, h2, rfl, rfl⟩
  rw [hm, hr]
  exact ⟨[_], X, rfl, ⟨⟨s.hasHard, bif s.hasHard then s.hT else 0, bif s.hasHard then s.hV else 0, bif s.hasHard then s.hC else 0, ea, ec, es, ca, cc, cs⟩, rfl⟩, rfl⟩
end Go.SX
