/- Symbolic states: what is known of a frame's slots and of the memory that a function owns; memory that nobody writes any more (RO) is known to all. -/
import Derived.Test.YthlkoehifpnoeaaDoorSxA
import Derived.Laws.Cells
import Derived.Laws.CopyRow
import Derived.Laws.World
namespace Go.SX

abbrev RO := Nat → Option Obj
abbrev Hp := List (Nat × Obj)
def ROle (r r' : RO) : Prop := ∀ b o, r b = some o → r' b = some o
theorem ROle.refl (r : RO) : ROle r r := fun _ _ h => h
theorem ROle.trans {a b c : RO} (h : ROle a b) (k : ROle b c) : ROle a c := fun _ _ x => k _ _ (h _ _ x)

/-- A value, with a hint where its memory stands among the chunks ('c'), or with what the memory behind it holds for good. -/
inductive SV where
  | val (v : Value)
  | ptr (c b off : Nat)
  | osl (c : Nat) (nl : Bool) (b off n cap : Nat)
  | ep (c b off sz i j : Nat)
  | view (a : Option Addr) (n cap sz : Nat) (f : Nat → Nat → SV)
  | rp (a : Option Addr) (k m : Nat) (g : Nat → SV) (j : Nat)
  | agg (xs : List SV)
  | tup (xs : List SV)
  | fn (f : Fn) (first cap : List SV)
  | cnd (g : Bool) (x : SV)
  deriving Inhabited

mutual
def SV.den : SV → Value
  | .val v => v
  | .ptr _ b off => .pointer (some ⟨b, off, none⟩)
  | .osl _ nl b off n cap => .slice (if nl then none else some ⟨b, off, none⟩) n cap
  | .ep _ b off sz i j => .pointer (some ⟨b, off + i * sz + j, none⟩)
  | .view a n cap _ _ => .slice a n cap
  | .rp a k _ _ j => .pointer (a.map (·.add (k + j)))
  | .agg xs => .agg (SV.dens xs).toArray
  | .tup xs => .tuple (SV.dens xs).toArray
  | .fn f a b => .func f (SV.dens a).toArray (SV.dens b).toArray
  | .cnd g x => if g then x.den else undef
def SV.dens : List SV → List Value
  | [] => []
  | x :: xs => x.den :: SV.dens xs
end
theorem dens_eq (xs : List SV) : SV.dens xs = xs.map SV.den := by
  induction xs with
  | nil => rfl
  | cons x xs ih => simp [SV.dens, ih]

def roCell (ro : RO) (a : Addr) : Option Value :=
  match ro a.block with
  | some (.cells c _ _) => if a.spot.isSome then none else c[a.off]?
  | _ => none

mutual
def SV.ok (ro : RO) : SV → Prop
  | .val _ => True
  | .ptr .. => True
  | .osl .. => True
  | .ep .. => True
  | .view a n cap sz f => n ≤ cap ∧ ∀ i j, i < n → j < sz → (∃ ad, a = some ad ∧ roCell ro (ad.add (i * sz + j)) = some (f i j).den) ∧ (f i j).ok ro
  | .rp a k m g _ => ∃ ad, a = some ad ∧ ∀ j, j < m → roCell ro (ad.add (k + j)) = some (g j).den ∧ (g j).ok ro
  | .agg xs => SV.oks ro xs
  | .tup xs => SV.oks ro xs
  | .fn _ a b => SV.oks ro a ∧ SV.oks ro b
  | .cnd g x => g = true → x.ok ro
def SV.oks (ro : RO) : List SV → Prop
  | [] => True
  | x :: xs => x.ok ro ∧ SV.oks ro xs
end
theorem oks_iff {ro : RO} {xs : List SV} : SV.oks ro xs ↔ ∀ x ∈ xs, x.ok ro := by
  induction xs with
  | nil => simp [SV.oks]
  | cons x xs ih => simp [SV.oks, ih]

theorem roCell_mono {r r' : RO} (h : ROle r r') {a : Addr} {v : Value} (hc : roCell r a = some v) : roCell r' a = some v := by
  unfold roCell at hc ⊢
  split at hc
  · rename_i c t z he
    rw [h _ _ he]
    exact hc
  · cases hc

mutual
theorem SV.ok_mono {r r' : RO} (h : ROle r r') : ∀ s : SV, s.ok r → s.ok r'
  | .val _, _ => by simp only [SV.ok]
  | .ptr .., _ => by simp only [SV.ok]
  | .osl .., _ => by simp only [SV.ok]
  | .ep .., _ => by simp only [SV.ok]
  | .view a n cap sz f, hs => by
    simp only [SV.ok] at hs ⊢
    refine ⟨hs.1, fun i j hi hj => ?_⟩
    obtain ⟨⟨ad, h1, h2⟩, h3⟩ := hs.2 i j hi hj
    exact ⟨⟨ad, h1, roCell_mono h h2⟩, SV.ok_mono h (f i j) h3⟩
  | .rp a k m g j, hs => by
    simp only [SV.ok] at hs ⊢
    obtain ⟨ad, h1, h2⟩ := hs
    exact ⟨ad, h1, fun j hj => ⟨roCell_mono h (h2 j hj).1, SV.ok_mono h (g j) (h2 j hj).2⟩⟩
  | .agg xs, hs => by simp only [SV.ok] at hs ⊢; exact SV.oks_mono h xs hs
  | .tup xs, hs => by simp only [SV.ok] at hs ⊢; exact SV.oks_mono h xs hs
  | .fn _ a b, hs => by simp only [SV.ok] at hs ⊢; exact ⟨SV.oks_mono h a hs.1, SV.oks_mono h b hs.2⟩
  | .cnd g x, hs => by simp only [SV.ok] at hs ⊢; exact fun hg => SV.ok_mono h x (hs hg)
theorem SV.oks_mono {r r' : RO} (h : ROle r r') : ∀ xs : List SV, SV.oks r xs → SV.oks r' xs
  | [], _ => by simp only [SV.oks]
  | x :: xs, hs => by simp only [SV.oks] at hs ⊢; exact ⟨SV.ok_mono h x hs.1, SV.oks_mono h xs hs.2⟩
end

structure Env where
  os : Os
  tape : Nat → Question → Nat
  out : Array (Nat × ByteArray)

/-- World 'w': 'H' is owned (each block once, none of it RO), 'ro' holds. -/
structure Sat (e : Env) (ro : RO) (H : Hp) (w : World) : Prop where
  os : w.os = e.os
  tape : w.tape = e.tape
  out : w.output = e.out
  rom : ∀ b o, ro b = some o → w.heap[b]? = some o
  own : ∀ p ∈ H, w.heap[p.1]? = some p.2 ∧ ro p.1 = none
  nod : (H.map (·.1)).Nodup

theorem Sat.perm {e : Env} {ro : RO} {H H' : Hp} {w : World} (h : Sat e ro H w) (hp : H.Perm H') : Sat e ro H' w :=
  ⟨h.os, h.tape, h.out, h.rom, fun p hm => h.own p (hp.mem_iff.2 hm), (hp.map _).nodup_iff.1 h.nod⟩
theorem Sat.drop {e : Env} {ro : RO} {H H' : Hp} {w : World} (h : Sat e ro (H ++ H') w) : Sat e ro H' w :=
  ⟨h.os, h.tape, h.out, h.rom, fun p hm => h.own p (List.mem_append_right _ hm), by have := h.nod; rw [List.map_append] at this; exact (List.nodup_append.1 this).2.1⟩

theorem Sat.cell {e : Env} {ro : RO} {H : Hp} {w : World} (h : Sat e ro H w) {a : Addr} {v : Value} (hc : roCell ro a = some v) : w.cell? a = some v := by
  unfold roCell at hc
  split at hc
  · rename_i c t z he
    unfold World.cell?
    rw [h.rom _ _ he]
    exact hc
  · cases hc

/-- A predicate on owned memory that more RO leaves alone. -/
structure HP where
  φ : RO → Hp → Prop
  mono : ∀ r r' H, ROle r r' → φ r H → φ r' H

inductive Chunk where
  | emp
  | cells (b : Nat) (T : TypeId) (cs : List SV)
  | row (nl : Bool) (b : Nat) (T : TypeId) (off sz n cap : Nat) (f : Nat → Nat → SV)
  | abs (φ : HP)

instance : Inhabited Chunk := ⟨.emp⟩

/-- no cell of the row is frozen -/
def Fz (n : Nat) (fz : Nat × Nat) : Prop := fz.1 ≤ fz.2 ∧ ∀ o, o < n → (decide (fz.1 ≤ o) && decide (o < fz.2)) = false
theorem Fz.zero (n : Nat) : Fz n (0, 0) := ⟨Nat.le_refl _, fun o _ => by simp⟩

def Chunk.sat (ro : RO) : Chunk → Hp → Prop
  | .emp, H => H = []
  | .cells b T cs, H => H = [(b, .cells (SV.dens cs).toArray T (0, 0))] ∧ SV.oks ro cs
  | .row nl b T off sz n cap f, H =>
    if nl then H = [] ∧ n = 0 ∧ cap = 0
    else ∃ (arr : Array Value) (fz : Nat × Nat), H = [(b, .cells arr T fz)] ∧ Fz arr.size fz ∧ n ≤ cap ∧ off + cap * sz ≤ arr.size ∧ (∀ i j, i < n → j < sz → arr[off + i * sz + j]? = some (f i j).den ∧ (f i j).ok ro)
  | .abs φ, H => φ.φ ro H

theorem Chunk.sat_mono {r r' : RO} (h : ROle r r') {c : Chunk} {H : Hp} (hs : c.sat r H) : c.sat r' H := by
  cases c with
  | emp => exact hs
  | cells b T cs => exact ⟨hs.1, SV.oks_mono h _ hs.2⟩
  | row nl b T off sz n cap f =>
    cases nl with
    | true => exact hs
    | false =>
      obtain ⟨arr, fz, h1, h0, h2, h3, h4⟩ := hs
      exact ⟨arr, fz, h1, h0, h2, h3, fun i j hi hj => ⟨(h4 i j hi hj).1, SV.ok_mono h _ (h4 i j hi hj).2⟩⟩
  | abs φ => exact φ.mono _ _ _ h hs

def hsat (ro : RO) : List Chunk → Hp → Prop
  | [], H => H = []
  | c :: cs, H => ∃ H1 H2, H = H1 ++ H2 ∧ c.sat ro H1 ∧ hsat ro cs H2

theorem hsat_mono {r r' : RO} (h : ROle r r') : ∀ {cs : List Chunk} {H : Hp}, hsat r cs H → hsat r' cs H
  | [], _, hs => hs
  | _ :: _, _, ⟨H1, H2, he, h1, h2⟩ => ⟨H1, H2, he, Chunk.sat_mono h h1, hsat_mono h h2⟩

theorem hsat_append {ro : RO} : ∀ {cs ds : List Chunk} {H : Hp}, hsat ro (cs ++ ds) H ↔ ∃ H1 H2, H = H1 ++ H2 ∧ hsat ro cs H1 ∧ hsat ro ds H2
  | [], ds, H => ⟨fun h => ⟨[], H, rfl, rfl, h⟩, fun ⟨_, _, he, h1, h2⟩ => by subst h1; subst he; exact h2⟩
  | c :: cs, ds, H => by
    simp only [List.cons_append, hsat]
    constructor
    · rintro ⟨H1, H2, rfl, hc, h⟩
      obtain ⟨H3, H4, rfl, h3, h4⟩ := hsat_append.1 h
      exact ⟨H1 ++ H3, H4, by simp, ⟨H1, H3, rfl, hc, h3⟩, h4⟩
    · rintro ⟨H1, H2, rfl, ⟨H3, H4, rfl, hc, h3⟩, h2⟩
      exact ⟨H3, H4 ++ H2, by simp, hc, hsat_append.2 ⟨H4, H2, rfl, h3, h2⟩⟩

def getC : List Chunk → Nat → Chunk
  | [], _ => .emp
  | c :: _, 0 => c
  | _ :: cs, n + 1 => getC cs n
def setC : List Chunk → Nat → Chunk → List Chunk
  | [], _, _ => []
  | _ :: cs, 0, d => d :: cs
  | c :: cs, n + 1, d => c :: setC cs n d

/-- One chunk taken out, and another one laid in its place. -/
theorem hsat_at {ro : RO} : ∀ {cs : List Chunk} {H : Hp} (n : Nat), hsat ro cs H → n < cs.length →
    ∃ H1 H2, H.Perm (H1 ++ H2) ∧ (getC cs n).sat ro H1 ∧ ∀ (ro' : RO) (d : Chunk) (H' : Hp), ROle ro ro' → d.sat ro' H' → ∃ H'', H''.Perm (H' ++ H2) ∧ hsat ro' (setC cs n d) H''
  | [], _, _, _, h => by simp at h
  | c :: cs, H, 0, ⟨H1, H2, he, hc, h2⟩, _ =>
    ⟨H1, H2, he ▸ List.Perm.refl _, hc, fun ro' d H' hle hd => ⟨H' ++ H2, List.Perm.refl _, H', H2, rfl, hd, hsat_mono hle h2⟩⟩
  | c :: cs, H, n + 1, ⟨H1, H2, he, hc, h2⟩, hn => by
    obtain ⟨K1, K2, hp, hk, hput⟩ := hsat_at n h2 (by simpa using hn)
    refine ⟨K1, H1 ++ K2, ?_, hk, fun ro' d H' hle hd => ?_⟩
    · subst he
      refine (List.Perm.append_left H1 hp).trans ?_
      rw [← List.append_assoc, ← List.append_assoc]
      exact List.Perm.append_right K2 List.perm_append_comm
    · obtain ⟨H'', hp', hs'⟩ := hput ro' d H' hle hd
      refine ⟨H1 ++ H'', ?_, H1, H'', rfl, Chunk.sat_mono hle hc, hs'⟩
      refine (List.Perm.append_left H1 hp').trans ?_
      rw [← List.append_assoc, ← List.append_assoc]
      exact List.Perm.append_right K2 List.perm_append_comm

def look : List (Nat × SV) → Nat → Option SV
  | [], _ => none
  | (k, s) :: r, t => bif k == t then some s else look r t

structure St where
  env : List (Nat × SV)
  heap : List Chunk

structure Ctx where
  P : Program
  E : Env
  N : Nat
  /-- the marks of loops over functions that are done -/
  D : List Nat := []
  /-- of which such a loop's round -/
  rd : Option Nat := none

def marks (D : List Nat) : List Deferred := D.map fun d => { target := .collected d, args := #[] }

/-- What stands at the point: 'ro', 'H' shown. -/
structure G (C : Ctx) (ro : RO) (H F : Hp) (st : St) (a : Act) (w : World) : Prop where
  defs : a.defers = marks C.D
  size : a.tmps.size = C.N
  heap : hsat ro st.heap H
  sat : Sat C.E ro (H ++ F) w
  env : ∀ t s, look st.env t = some s → a.tmps[t]? = some s.den ∧ s.ok ro

def Gam (C : Ctx) (ro0 : RO) (F : Hp) (st : St) (a : Act) (w : World) : Prop := ∃ ro H, ROle ro0 ro ∧ G C ro H F st a w

section
variable {C : Ctx} {ro : RO} {H F : Hp} {st : St} {a : Act} {w : World}

theorem G.put (g : G C ro H F st a w) {d : Nat} {s : SV} (hd : d < C.N) (hs : s.ok ro) : G C ro H F { st with env := (d, s) :: st.env } (a.put (some d) s.den) w := by
  refine ⟨by rw [put_def]; exact g.defs, by rw [put_size]; exact g.size, g.heap, g.sat, fun t s' ht => ?_⟩
  simp only [look] at ht
  rw [put_get, g.size]
  by_cases hdt : d = t
  · subst hdt
    simp only [BEq.rfl, cond_true, Option.some.injEq] at ht
    subst ht
    simp [hd, hs]
  · have : (d == t) = false := by simpa using hdt
    simp only [this, cond_false] at ht
    rw [if_neg (by simp [hdt])]
    exact g.env t s' ht

/-- the memory of a chunk of cells -/
theorem G.cells (g : G C ro H F st a w) {c b : Nat} {T : TypeId} {cs : List SV} (hc : getC st.heap c = .cells b T cs) :
    w.heap[b]? = some (.cells (SV.dens cs).toArray T (0, 0)) ∧ SV.oks ro cs ∧ ro b = none := by
  have hlt : c < st.heap.length := by
    rcases Nat.lt_or_ge c st.heap.length with h | h
    · exact h
    · exfalso
      have : ∀ (l : List Chunk) n, l.length ≤ n → getC l n = .emp := by
        intro l
        induction l with
        | nil => intro n _; cases n <;> rfl
        | cons x l ih => intro n hn; cases n with
          | zero => simp at hn
          | succ n => exact ih n (by simpa using hn)
      rw [this _ _ h] at hc
      cases hc
  obtain ⟨H1, H2, hp, hsat, _⟩ := hsat_at c g.heap hlt
  rw [hc] at hsat
  obtain ⟨rfl, hok⟩ := hsat
  have hm : (b, Obj.cells (SV.dens cs).toArray T (0, 0)) ∈ H ++ F := List.mem_append_left _ (hp.mem_iff.2 (by simp))
  exact ⟨(g.sat.own _ hm).1, hok, (g.sat.own _ hm).2⟩

theorem G.row (g : G C ro H F st a w) {c b off sz n cap : Nat} {nl : Bool} {T : TypeId} {f : Nat → Nat → SV} (hc : getC st.heap c = .row nl b T off sz n cap f) (hn : 0 < n) :
    nl = false ∧ ∃ (arr : Array Value) (fz : Nat × Nat), w.heap[b]? = some (.cells arr T fz) ∧ Fz arr.size fz ∧ n ≤ cap ∧ off + cap * sz ≤ arr.size ∧ (∀ i j, i < n → j < sz → arr[off + i * sz + j]? = some (f i j).den ∧ (f i j).ok ro) ∧ ro b = none := by
  have hlt : c < st.heap.length := by
    rcases Nat.lt_or_ge c st.heap.length with h | h
    · exact h
    · exfalso
      have : ∀ (l : List Chunk) n, l.length ≤ n → getC l n = .emp := by
        intro l
        induction l with
        | nil => intro n _; cases n <;> rfl
        | cons x l ih => intro n hn; cases n with
          | zero => simp at hn
          | succ n => exact ih n (by simpa using hn)
      rw [this _ _ h] at hc
      cases hc
  obtain ⟨H1, H2, hp, hsat, _⟩ := hsat_at c g.heap hlt
  rw [hc] at hsat
  cases nl with
  | true =>
    simp only [Chunk.sat, if_true] at hsat
    omega
  | false =>
    obtain ⟨arr, fz, rfl, h0, h2, h3, h4⟩ := hsat
    have hm : (b, Obj.cells arr T fz) ∈ H ++ F := List.mem_append_left _ (hp.mem_iff.2 (by simp))
    exact ⟨rfl, arr, fz, (g.sat.own _ hm).1, h0, h2, h3, h4, (g.sat.own _ hm).2⟩

/-- a new block is owned -/
theorem Sat.alloc {e : Env} {ro : RO} {H : Hp} {w : World} (h : Sat e ro H w) (o : Obj) : Sat e ro ((w.heap.size, o) :: H) { w with heap := w.heap.push o } := by
  have hlt : ∀ b x, w.heap[b]? = some x → b < w.heap.size := fun b x hb => (Array.getElem?_eq_some_iff.1 hb).1
  refine ⟨h.os, h.tape, h.out, fun b x hb => ?_, fun p hp => ?_, ?_⟩
  · have := h.rom b x hb
    have hl := hlt b x this
    rw [Array.getElem?_push, if_neg (by omega)]
    exact this
  · rcases List.mem_cons.1 hp with rfl | hp
    · refine ⟨by simp, ?_⟩
      cases hr : ro w.heap.size with
      | none => rfl
      | some x =>
        have := hlt _ _ (h.rom _ _ hr)
        omega
    · have := h.own p hp
      have hl := hlt _ _ this.1
      refine ⟨?_, this.2⟩
      rw [Array.getElem?_push, if_neg (by omega)]
      exact this.1
  · rw [List.map_cons, List.nodup_cons]
    refine ⟨fun hm => ?_, h.nod⟩
    obtain ⟨p, hp, he⟩ := List.mem_map.1 hm
    have := hlt _ _ (h.own p hp).1
    simp only at he
    omega

/-- an owned block is written -/
theorem Sat.set {e : Env} {ro : RO} {H : Hp} {w w' : World} {b : Nat} {o o' : Obj} (h : Sat e ro ((b, o) :: H) w)
    (hos : w'.os = w.os) (ht : w'.tape = w.tape) (ho : w'.output = w.output) (hb : w'.heap[b]? = some o') (hrest : ∀ k, k ≠ b → w'.heap[k]? = w.heap[k]?) : Sat e ro ((b, o') :: H) w' := by
  have hn := h.own (b, o) (by simp)
  have hnod := h.nod
  rw [List.map_cons, List.nodup_cons] at hnod
  refine ⟨hos.trans h.os, ht.trans h.tape, ho.trans h.out, fun k x hk => ?_, fun p hp => ?_, ?_⟩
  · have hne : k ≠ b := fun he => by subst he; rw [hk] at hn; cases hn.2
    rw [hrest k hne]; exact h.rom k x hk
  · rcases List.mem_cons.1 hp with rfl | hp
    · exact ⟨hb, hn.2⟩
    · have hne : p.1 ≠ b := fun he => hnod.1 (List.mem_map.2 ⟨p, hp, he⟩)
      rw [hrest _ hne]
      exact h.own p (List.mem_cons_of_mem _ hp)
  · rw [List.map_cons, List.nodup_cons]
    exact hnod
end
end Go.SX
