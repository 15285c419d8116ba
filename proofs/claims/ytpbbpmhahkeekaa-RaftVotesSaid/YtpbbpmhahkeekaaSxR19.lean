/- A single voter's states, from the first tick on: plain facts. -/
import Derived.Test.YtpbbpmhahkeekaaSxR18
namespace Go.SX
open Go.Proofs
set_option maxRecDepth 1000000

structure Lead (s : RS) (id : Int) (n : Nat) : Prop where
  hid : s.id = id
  role : s.role = 2
  ix : s.mIx = 0
  len : s.es.length = n
  hT : s.hT = 1
  hV : s.hV = id
  hC : s.hC = n
  kd : ∀ e ∈ s.es, e.kd ≠ 2
  dl : ∀ e ∈ s.es, e.d.xs.length ≤ 2 ^ 40
  fi : ∃ a cap, s.fi = vI a cap [id]
  tm : (s.es.getD (n - 1) default).tm = 1
  pos : 0 < n
  le : n ≤ 100
  reads : s.reads = nilS
  waits : s.waits = nilS
  msgs : s.msgs = nilS
  snap : s.snap = false
  round : s.round = 0

namespace Lead
variable {s : RS} {id : Int} {n : Nat}
theorem small (h : Lead s id n) : s.small := ⟨by rw [h.ix]; exact Int.le_refl _, by rw [h.ix]; decide, by rw [h.len]; have := h.le; omega⟩
theorem lone (h : Lead s id n) : s.lone s.id := ⟨h.ix, h.kd, by rw [h.hid]; exact h.fi⟩
theorem last (h : Lead s id n) : s.last = n := by simp [RS.last, h.ix, h.len]
theorem termC (h : Lead s id n) : s.term s.hC = s.hT := by
  have := h.pos
  rw [h.hC, h.hT]
  unfold RS.term
  rw [h.ix, h.len, if_pos (by omega)]
  rw [show ((n : Int) - 0 - 1).toNat = n - 1 by omega, h.tm]

theorem put (h : Lead s id n) (hn : n < 100) {a la : Option Addr} {cap lc : Nat} {xs : List UInt8} (hx : xs.length ≤ 2 ^ 40) {es' : List Ent} (hs : Same (s.es ++ [⟨s.last + 1, s.hT, 0, ⟨a, cap, xs⟩⟩]) es') :
    Lead (s.putS la lc es').looked id (n + 1) ∧ (s.putS la lc es').looked.applied = s.applied ∧ (s.putS la lc es').looked.es = es' ∧
      (s.putS la lc es').looked.fresh = (if s.fresh = 0 ∨ s.last + 1 < s.fresh then s.last + 1 else s.fresh) ∧ (s.putS la lc es').looked.tC = s.tC := by
  have hl := hs.len
  simp only [List.length_append, List.length_singleton, h.len] at hl
  have htm : (es'.getD n default).tm = 1 := by
    rw [hs.tm]
    simp [List.getD_eq_getElem?_getD, ← h.len, h.hT]
  have hlast : (s.putS la lc es').last = ((n + 1 : Nat) : Int) := by
    show s.mIx + (es'.length : Int) = _
    rw [h.ix, hl]
    omega
  have hterm : (s.putS la lc es').term (s.putS la lc es').last = s.hT := by
    rw [hlast]
    unfold RS.term
    rw [if_pos (by show 0 < _ - s.mIx ∧ _ - s.mIx ≤ (es'.length : Int); rw [h.ix, hl]; omega)]
    show (es'.getD _ default).tm = _
    rw [show ((((n + 1 : Nat) : Int) - (s.putS la lc es').mIx - 1).toNat) = n by show ((((n + 1 : Nat) : Int) - s.mIx - 1).toNat) = n; rw [h.ix]; omega, htm, h.hT]
  have hlook : (s.putS la lc es').looked = { s.putS la lc es' with hC := ((n + 1 : Nat) : Int) } := by
    unfold RS.looked
    rw [if_pos ⟨h.role, by rw [hlast]; show s.hC < _; rw [h.hC]; omega, hterm⟩, hlast]
  rw [hlook]
  refine ⟨⟨h.hid, h.role, h.ix, hl, h.hT, h.hV, rfl, hs.kd fun e he => ?_, hs.fits fun e he => ?_, h.fi, htm, by omega, by omega, h.reads, h.waits, h.msgs, h.snap, h.round⟩, rfl, rfl, rfl, rfl⟩
  · rcases List.mem_append.1 he with he | he
    · exact h.kd e he
    · rw [List.mem_singleton.1 he]; show (0 : Int) ≠ 2; decide
  · rcases List.mem_append.1 he with he | he
    · exact h.dl e he
    · rw [List.mem_singleton.1 he]; exact hx

theorem readied (h : Lead s id n) : Lead s.readied id n := ⟨h.hid, h.role, h.ix, h.len, h.hT, h.hV, h.hC, h.kd, h.dl, h.fi, h.tm, h.pos, h.le, rfl, h.waits, rfl, rfl, h.round⟩
end Lead

/-- ahead of the tenth tick -/
structure Tk (s : RS) (id : Int) (i : Nat) : Prop where
  hid : s.id = id
  role : s.role = 0
  ix : s.mIx = 0
  es : s.es = []
  hT : s.hT = 0
  hC : s.hC = 0
  tT : s.tT = 0
  fi : ∃ a cap, s.fi = vI a cap [id]
  ticks : s.ticks = i
  taken : s.taken = 0
  applied : s.applied = 0
  fresh : s.fresh = 0
  reads : s.reads = nilS
  msgs : s.msgs = nilS
  snap : s.snap = false

namespace Tk
variable {s : RS} {id : Int} {n : Nat}
theorem small (h : Tk s id n) : s.small := ⟨by rw [h.ix]; exact Int.le_refl _, by rw [h.ix]; decide, by rw [h.es]; decide⟩
theorem lone (h : Tk s id n) : s.lone s.id := ⟨h.ix, by simp [h.es], by rw [h.hid]; exact h.fi⟩
theorem tick (h : Tk s id n) (x : Int) : Tk (s.tick1 x) id (n + 1) := ⟨h.hid, h.role, h.ix, h.es, h.hT, h.hC, h.tT, h.fi, by show s.ticks + 1 = _; rw [h.ticks]; omega, h.taken, h.applied, h.fresh, h.reads, h.msgs, h.snap⟩
theorem new {id : Int} {a1 a2 a3 la : Option Addr} {c1 c2 c3 lc : Nat} : Tk (RS.new id 0 (-1) 0 0 a1 a2 a3 la c1 c2 c3 lc [id] []) id 0 := ⟨rfl, rfl, rfl, rfl, rfl, rfl, rfl, ⟨a3, c3, rfl⟩, rfl, rfl, rfl, rfl, rfl, rfl, rfl⟩

theorem elect (h : Tk s id n) {x : Int} {a : Option Addr} {cap bm : Nat} {la : Option Addr} {lc : Nat} {es' : List Ent} (hs : Same (s.es ++ [⟨s.last + 1, s.hT + 1, 1, ⟨none, 0, []⟩⟩]) es') :
    Lead (((s.tick1 x).stood a cap).led bm la lc es').looked id 1 ∧ (((s.tick1 x).stood a cap).led bm la lc es').looked.applied = 0 ∧ (((s.tick1 x).stood a cap).led bm la lc es').looked.es = es' ∧
      (((s.tick1 x).stood a cap).led bm la lc es').looked.fresh = 1 ∧ (((s.tick1 x).stood a cap).led bm la lc es').looked.tT = 0 := by
  have hl := hs.len
  rw [h.es] at hs hl
  have hla : s.last = 0 := by simp [RS.last, h.ix, h.es]
  have hl1 : es'.length = 1 := by simpa using hl
  have htm : (es'.getD 0 default).tm = 1 := by
    rw [hs.tm]
    simp [h.hT]
  have hlast : (((s.tick1 x).stood a cap).led bm la lc es').last = 1 := by
    show s.mIx + (es'.length : Int) = _
    rw [h.ix, hl1]
    rfl
  have hterm : (((s.tick1 x).stood a cap).led bm la lc es').term (((s.tick1 x).stood a cap).led bm la lc es').last = s.hT + 1 := by
    rw [hlast]
    unfold RS.term
    rw [if_pos (by show 0 < _ - s.mIx ∧ _ - s.mIx ≤ (es'.length : Int); rw [h.ix, hl1]; decide)]
    show (es'.getD _ default).tm = _
    rw [show ((1 - (((s.tick1 x).stood a cap).led bm la lc es').mIx - 1).toNat) = 0 by show ((1 - s.mIx - 1).toNat) = 0; rw [h.ix]; rfl, htm, h.hT]
    rfl
  have hlook : (((s.tick1 x).stood a cap).led bm la lc es').looked = { ((s.tick1 x).stood a cap).led bm la lc es' with hC := 1 } := by
    unfold RS.looked
    rw [if_pos ⟨rfl, by rw [hlast]; show s.hC < _; rw [h.hC]; decide, hterm⟩, hlast]
  have hfr : (((s.tick1 x).stood a cap).led bm la lc es').fresh = 1 := by
    show (if s.fresh = 0 ∨ s.last + 1 < s.fresh then s.last + 1 else s.fresh) = 1
    rw [if_pos (.inl h.fresh), hla]
    rfl
  rw [hlook]
  refine ⟨⟨h.hid, rfl, h.ix, hl1, by show s.hT + 1 = 1; rw [h.hT]; rfl, h.hid, rfl, hs.kd fun e he => ?_, hs.fits fun e he => ?_, h.fi, htm, by omega, by omega, h.reads, rfl, h.msgs, h.snap, rfl⟩, h.applied, rfl, hfr, h.tT⟩
  · rw [List.nil_append, List.mem_singleton] at he
    rw [he]; show (1 : Int) ≠ 2; decide
  · rw [List.nil_append, List.mem_singleton] at he
    rw [he]; simp
end Tk
end Go.SX
