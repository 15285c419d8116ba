/- Joined texts: DA DB DC DD DE DF DI DJ. -/
import Derived.Test.YthlkoehifpnoeaaDoorSxDG
import Derived.Test.YthlkoehifpnoeaaDoorSxDH
import Derived.Test.YthlkoehifpnoeaaDoorSxX
import Derived.Test.YthlkoehifpnoeaaDoorSxZA
/- The calendar, plainly: a day's date is one alone. -/
namespace Go.SX.Cal

def leap (y : Int) : Bool := (decide (y % 4 = 0) && decide (y % 100 ≠ 0)) || decide (y % 400 = 0)
def mdays (y : Int) (m : Nat) : Int :=
  if m = 2 then (if leap y then 29 else 28) else if m = 4 ∨ m = 6 ∨ m = 9 ∨ m = 11 then 30 else if m < 1 ∨ 12 < m then 0 else 31
/-- days from the first one of the year 1 to a year's first one -/
def ahead (y : Int) : Int := 365 * (y - 1) + (y - 1) / 4 - (y - 1) / 100 + (y - 1) / 400
/-- days of a year ahead of a month -/
def mstart (y : Int) : Nat → Int
  | 0 => 0
  | m + 1 => mstart y m + mdays y m
theorem mdays_pos {y : Int} {m : Nat} (h1 : 1 ≤ m) (h2 : m ≤ 12) : 28 ≤ mdays y m ∧ mdays y m ≤ 31 := by
  unfold mdays
  split
  · split <;> omega
  · split
    · omega
    · split
      · omega
      · omega
theorem mdays_nonneg (y : Int) (m : Nat) : 0 ≤ mdays y m := by
  unfold mdays
  split
  · split <;> omega
  · split
    · omega
    · split <;> omega
theorem year_len (y : Int) : ahead (y + 1) - ahead y = 365 + (if leap y then 1 else 0) := by
  have h4 : y / 4 = (y - 1) / 4 + (if y % 4 = 0 then 1 else 0) := by split <;> omega
  have h100 : y / 100 = (y - 1) / 100 + (if y % 100 = 0 then 1 else 0) := by split <;> omega
  have h400 : y / 400 = (y - 1) / 400 + (if y % 400 = 0 then 1 else 0) := by split <;> omega
  unfold ahead leap
  rw [show y + 1 - 1 = y by omega, h4, h100, h400]
  by_cases a : y % 4 = 0 <;> by_cases b : y % 100 = 0 <;> by_cases c : y % 400 = 0 <;> simp [a, b, c] <;> omega
theorem mstart13 (y : Int) : mstart y 13 = 365 + (if leap y then 1 else 0) := by
  simp only [mstart, mdays]
  cases leap y <;> simp
theorem mstart_le {y : Int} : ∀ {m k : Nat}, m ≤ k → mstart y m ≤ mstart y k
  | m, 0, h => by
    obtain rfl : m = 0 := by omega
    exact Int.le_refl _
  | m, k + 1, h => by
    by_cases e : m = k + 1
    · subst e; exact Int.le_refl _
    · have := mstart_le (y := y) (m := m) (k := k) (by omega)
      have := mdays_nonneg y k
      show mstart y m ≤ mstart y k + mdays y k
      omega
theorem mstart1 (y : Int) : mstart y 1 = 0 := by simp [mstart, mdays]
theorem ahead_le {y z : Int} (h : y ≤ z) : ahead y ≤ ahead z := by
  unfold ahead
  omega
/-- a day's date -/
structure IsDate (day : Int) (y : Int) (m : Nat) (d : Int) : Prop where
  m1 : 1 ≤ m
  m2 : m ≤ 12
  d1 : 1 ≤ d
  d2 : d ≤ mdays y m
  eq : ahead y + mstart y m + (d - 1) = day
theorem IsDate.year {day y : Int} {m : Nat} {d : Int} (h : IsDate day y m d) : ahead y ≤ day ∧ day < ahead (y + 1) := by
  obtain ⟨h1, h2, h3, h4, h5⟩ := h
  have a := mstart_le (y := y) (m := 1) (k := m) h1
  have b := mstart_le (y := y) (m := m + 1) (k := 13) (by omega)
  have c : mstart y (m + 1) = mstart y m + mdays y m := rfl
  have e := year_len y
  rw [mstart1] at a
  rw [mstart13] at b
  omega
theorem IsDate.unique {day y y' : Int} {m m' : Nat} {d d' : Int} (h : IsDate day y m d) (h' : IsDate day y' m' d') : y = y' ∧ m = m' ∧ d = d' := by
  have a := h.year
  have b := h'.year
  have hy : y = y' := by
    rcases Int.lt_trichotomy y y' with q | q | q
    · have := ahead_le (show y + 1 ≤ y' by omega); omega
    · exact q
    · have := ahead_le (show y' + 1 ≤ y by omega); omega
  subst hy
  have hm : m = m' := by
    rcases Nat.lt_trichotomy m m' with q | q | q
    · have e := mstart_le (y := y) (m := m + 1) (k := m') (by omega)
      have c : mstart y (m + 1) = mstart y m + mdays y m := rfl
      have := h.d2; have := h.eq; have := h'.d1; have := h'.eq
      omega
    · exact q
    · have e := mstart_le (y := y) (m := m' + 1) (k := m) (by omega)
      have c : mstart y (m' + 1) = mstart y m' + mdays y m' := rfl
      have := h'.d2; have := h'.eq; have := h.d1; have := h.eq
      omega
  subst hm
  refine ⟨rfl, rfl, ?_⟩
  have := h.eq; have := h'.eq
  omega
end Go.SX.Cal

/- Cron expressions, plainly: how a text is read. -/
namespace Go.SX.Cron

def blank (c : UInt8) : Bool := c == 32 || c == 9
/-- the pieces of a text, one begun -/
def fieldsA : List UInt8 → List UInt8 → List (List UInt8)
  | cur, [] => if cur = [] then [] else [cur]
  | cur, c :: r => if blank c then (if cur = [] then fieldsA [] r else cur :: fieldsA [] r) else fieldsA (cur ++ [c]) r
def digit (c : UInt8) : Bool := decide (48 ≤ c.toNat) && decide (c.toNat ≤ 57)
def val : List UInt8 → Int → Int
  | [], n => n
  | c :: r, n => val r (10 * n + ((c.toNat : Int) - 48))
/-- a number of one or two digits; -1: none -/
def num (s : List UInt8) : Int := if 1 ≤ s.length ∧ s.length ≤ 2 ∧ s.all digit = true then val s 0 else -1
/-- ahead of the first of a byte, and behind it -/
def cutA (b : UInt8) : List UInt8 → List UInt8 × Option (List UInt8)
  | [] => ([], none)
  | c :: r => if c = b then ([], some r) else (c :: (cutA b r).1, (cutA b r).2)
def splitA (b : UInt8) : List UInt8 → List (List UInt8)
  | [] => [[]]
  | c :: r => if c = b then [] :: splitA b r else match splitA b r with
    | [] => [[c]]
    | p :: ps => (c :: p) :: ps
/-- what a piece allows, from and to -/
def item (s : List UInt8) (lo hi : Int) : Option (Int × Int) :=
  let x := num (cutA 45 s).1
  let y := match (cutA 45 s).2 with | none => x | some t => num t
  if x < lo ∨ hi < y ∨ y < x then none else some (x, y)
/-- the numbers from one to another, as bits -/
def span (a b : Int) : Nat := (2 ^ (b + 1).toNat - 1) - (2 ^ a.toNat - 1)
def items (lo hi : Int) : List (List UInt8) → Nat → Option Nat
  | [], x => some x
  | p :: ps, x => match item p lo hi with | none => none | some (a, b) => items lo hi ps (x ||| span a b)
def field (s : List UInt8) (lo hi : Int) : Option Nat := if s = [42] then some (span lo hi) else items lo hi (splitA 44 s) 0

theorem splitA_cons (b : UInt8) (s : List UInt8) : ∃ p ps, splitA b s = p :: ps := by
  induction s with
  | nil => exact ⟨[], [], rfl⟩
  | cons c r ih =>
    obtain ⟨p, ps, h⟩ := ih
    unfold splitA
    split
    · exact ⟨_, _, rfl⟩
    · rw [h]; exact ⟨_, _, rfl⟩
theorem splitA_none {b : UInt8} : ∀ {s : List UInt8}, (∀ c ∈ s, c ≠ b) → splitA b s = [s]
  | [], _ => rfl
  | c :: r, h => by
    unfold splitA
    rw [if_neg (h c (by simp)), splitA_none fun x hx => h x (List.mem_cons_of_mem _ hx)]
theorem splitA_app {b : UInt8} {t : List UInt8} : ∀ {s : List UInt8}, (∀ c ∈ s, c ≠ b) → splitA b (s ++ b :: t) = s :: splitA b t
  | [], _ => by rw [List.nil_append]; conv => lhs; unfold splitA
                rw [if_pos rfl]
  | c :: r, h => by
    rw [List.cons_append]
    conv => lhs; unfold splitA
    rw [if_neg (h c (by simp)), splitA_app fun x hx => h x (List.mem_cons_of_mem _ hx)]
theorem cutA_none {b : UInt8} : ∀ {s : List UInt8}, (∀ c ∈ s, c ≠ b) → cutA b s = (s, none)
  | [], _ => rfl
  | c :: r, h => by
    unfold cutA
    rw [if_neg (h c (by simp)), cutA_none fun x hx => h x (List.mem_cons_of_mem _ hx)]
theorem cutA_app {b : UInt8} {t : List UInt8} : ∀ {s : List UInt8}, (∀ c ∈ s, c ≠ b) → cutA b (s ++ b :: t) = (s, some t)
  | [], _ => by rw [List.nil_append]; unfold cutA; rw [if_pos rfl]
  | c :: r, h => by
    rw [List.cons_append]
    unfold cutA
    rw [if_neg (h c (by simp)), cutA_app fun x hx => h x (List.mem_cons_of_mem _ hx)]
/-- how many digits a text begins with, two at most -/
def digs : List UInt8 → Nat
  | [] => 0
  | [c] => if digit c then 1 else 0
  | c :: d :: _ => if digit c then (if digit d then 2 else 1) else 0
theorem digs_le : ∀ s : List UInt8, digs s ≤ 2 ∧ digs s ≤ s.length
  | [] => by simp [digs]
  | [c] => by cases h : digit c <;> simp [digs, h]
  | c :: d :: r => by cases h : digit c <;> cases h2 : digit d <;> simp [digs, h, h2]
/-- the number that a text begins with; -1: none -/
def numG (s : List UInt8) : Int := if digs s = 0 then -1 else val (s.take (digs s)) 0
theorem digs_all : ∀ s : List UInt8, (s.take (digs s)).all digit = true
  | [] => rfl
  | [c] => by cases h : digit c <;> simp [digs, h]
  | c :: d :: r => by cases h : digit c <;> cases h2 : digit d <;> simp [digs, h, h2]
theorem num_take (s : List UInt8) : num (s.take (digs s)) = numG s := by
  have h := digs_le s
  unfold num numG
  rw [List.length_take, digs_all]
  by_cases e : digs s = 0
  · rw [if_pos e, if_neg (by omega)]
  · rw [if_neg e, if_pos ⟨by omega, by omega, rfl⟩]
theorem digit_ne {c b : UInt8} (h : digit c = true) (hb : b = 44 ∨ b = 45 ∨ b = 42) : c ≠ b := by
  unfold digit at h
  rw [Bool.and_eq_true, decide_eq_true_eq, decide_eq_true_eq] at h
  rintro rfl
  rcases hb with rfl | rfl | rfl <;> exact absurd h.1 (by decide)
/-- a number that is one takes all its digits -/
theorem digs_full : ∀ {s : List UInt8}, 1 ≤ s.length → s.length ≤ 2 → s.all digit = true → ∀ t : List UInt8, (∀ c, t.head? = some c → digit c = false) → digs (s ++ t) = s.length
  | [], h, _, _, _, _ => by simp at h
  | [a], _, _, ha, t, ht => by
    have ha' : digit a = true := by simpa using ha
    rcases t with _ | ⟨c, r⟩
    · simp [digs, ha']
    · have := ht c rfl
      simp [digs, ha', this]
  | [a, b], _, _, ha, t, ht => by
    have ha' : digit a = true ∧ digit b = true := by simpa using ha
    simp [digs, ha'.1, ha'.2]
  | _ :: _ :: _ :: _, _, h, _, _, _ => by simp at h
theorem split_shape (b : UInt8) : ∀ t : List UInt8, ∃ p, (∀ c ∈ p, c ≠ b) ∧ ((t = p ∧ splitA b t = [p]) ∨ ∃ t', t = p ++ b :: t' ∧ splitA b t = p :: splitA b t')
  | [] => ⟨[], by simp, .inl ⟨rfl, rfl⟩⟩
  | c :: r => by
    by_cases h : c = b
    · subst h
      exact ⟨[], by simp, .inr ⟨r, rfl, splitA_app (s := []) (by simp)⟩⟩
    · obtain ⟨p, h1, h2⟩ := split_shape b r
      have hp : ∀ x ∈ c :: p, x ≠ b := by
        intro x hx
        rcases List.mem_cons.1 hx with rfl | hx
        · exact h
        · exact h1 x hx
      refine ⟨c :: p, hp, ?_⟩
      rcases h2 with ⟨rfl, _⟩ | ⟨t', rfl, _⟩
      · exact .inl ⟨rfl, splitA_none hp⟩
      · exact .inr ⟨t', rfl, splitA_app hp⟩
theorem cut_shape (b : UInt8) : ∀ t : List UInt8, ∃ p, (∀ c ∈ p, c ≠ b) ∧ ((t = p ∧ cutA b t = (p, none)) ∨ ∃ t', t = p ++ b :: t' ∧ cutA b t = (p, some t'))
  | [] => ⟨[], by simp, .inl ⟨rfl, rfl⟩⟩
  | c :: r => by
    by_cases h : c = b
    · subst h
      exact ⟨[], by simp, .inr ⟨r, rfl, cutA_app (s := []) (by simp)⟩⟩
    · obtain ⟨p, h1, h2⟩ := cut_shape b r
      have hp : ∀ x ∈ c :: p, x ≠ b := by
        intro x hx
        rcases List.mem_cons.1 hx with rfl | hx
        · exact h
        · exact h1 x hx
      refine ⟨c :: p, hp, ?_⟩
      rcases h2 with ⟨rfl, _⟩ | ⟨t', rfl, _⟩
      · exact .inl ⟨rfl, cutA_none hp⟩
      · exact .inr ⟨t', rfl, cutA_app hp⟩
theorem digs_stop {c : UInt8} (hc : digit c = false) (w : List UInt8) : ∀ q : List UInt8, digs (q ++ c :: w) = digs q
  | [] => by cases w <;> simp [digs, hc]
  | [a] => by cases h : digit a <;> simp [digs, hc, h]
  | a :: b :: q => rfl
theorem numG_stop {c : UInt8} (hc : digit c = false) (w q : List UInt8) : numG (q ++ c :: w) = numG q := by
  unfold numG
  rw [digs_stop hc, List.take_append_of_le_length (digs_le q).2]
theorem drop_stop {c : UInt8} (hc : digit c = false) (w q : List UInt8) : (q ++ c :: w).drop (digs (q ++ c :: w)) = q.drop (digs q) ++ c :: w := by
  rw [digs_stop hc, List.drop_append_of_le_length (digs_le q).2]
theorem num_short {q : List UInt8} (h : digs q < q.length) : num q = -1 := by
  unfold num
  split
  · rename_i hh
    have := digs_full hh.1 hh.2.1 hh.2.2 [] (by simp)
    rw [List.append_nil] at this
    omega
  · rfl
theorem num_full {q : List UInt8} (h : digs q = q.length) : num q = numG q := by
  have := num_take q
  rwa [h, List.take_length] at this
theorem nd44 : digit 44 = false := by decide
theorem nd45 : digit 45 = false := by decide
/-- what the document reads at a place: two numbers, and how far -/
def refG (t : List UInt8) : Int × Int × Nat :=
  match t.drop (digs t) with
  | [] => (numG t, numG t, digs t)
  | c :: r => if c = 45 then (numG t, numG r, digs t + 1 + digs r) else (numG t, numG t, digs t)
/-- of a piece alone -/
theorem ref_piece {p : List UInt8} {lo hi : Int} (h0 : 0 ≤ lo) : ((refG p).2.2 = p.length ∧ item p lo hi = if (refG p).1 < lo ∨ hi < (refG p).2.1 ∨ (refG p).2.1 < (refG p).1 then none else some ((refG p).1, (refG p).2.1)) ∨ ((refG p).2.2 < p.length ∧ item p lo hi = none) := by
  obtain ⟨q, hq, ⟨rfl, hc⟩ | ⟨r, rfl, hc⟩⟩ := cut_shape 45 p
  · have hle := digs_le p
    have hg : refG p = (numG p, numG p, digs p) := by
      unfold refG
      split
      · rfl
      · rename_i c r he
        have hm : c ∈ p := List.mem_of_mem_drop (i := digs p) (by rw [he]; simp)
        rw [if_neg (hq c hm)]
    rw [hg]
    dsimp only
    by_cases he : digs p = p.length
    · refine .inl ⟨he, ?_⟩
      unfold item
      rw [hc]
      dsimp only
      rw [num_full he]
    · refine .inr ⟨by omega, ?_⟩
      unfold item
      rw [hc]
      dsimp only
      rw [num_short (by omega), if_pos (.inl (by omega))]
  · have hle := digs_le q
    have hds := drop_stop nd45 r q
    have hdg := digs_stop nd45 r q
    by_cases he : digs q = q.length
    · rw [he, List.drop_length, List.nil_append] at hds
      have hg : refG (q ++ 45 :: r) = (numG q, numG r, digs q + 1 + digs r) := by
        unfold refG
        rw [hds, hdg]
        dsimp only
        rw [if_pos rfl, numG_stop nd45]
      have hlr := digs_le r
      rw [hg]
      dsimp only
      unfold item
      rw [hc]
      dsimp only
      rw [num_full he, List.length_append, List.length_cons]
      by_cases he2 : digs r = r.length
      · exact .inl ⟨by omega, by rw [num_full he2]⟩
      · refine .inr ⟨by omega, ?_⟩
        rw [num_short (by omega)]
        by_cases hx : numG q < lo
        · rw [if_pos (.inl hx)]
        · rw [if_pos (.inr (.inr (by omega)))]
    · have hg : refG (q ++ 45 :: r) = (numG q, numG q, digs q) := by
        unfold refG
        rw [hds, hdg]
        split
        · rename_i h
          exact absurd h (by simp)
        · rename_i c w h
          have hm : c ∈ q := by
            rcases hd : q.drop (digs q) with _ | ⟨a, l⟩
            · have := congrArg List.length hd
              rw [List.length_drop] at this
              simp at this
              omega
            · rw [hd, List.cons_append, List.cons.injEq] at h
              rw [← h.1]
              exact List.mem_of_mem_drop (i := digs q) (by rw [hd]; simp)
          rw [if_neg (hq c hm), numG_stop nd45]
      rw [hg]
      dsimp only
      refine .inr ⟨by rw [List.length_append]; omega, ?_⟩
      unfold item
      rw [hc]
      dsimp only
      rw [num_short (by omega), if_pos (.inl (by omega))]
theorem refG_app (w : List UInt8) (p : List UInt8) : refG (p ++ 44 :: w) = refG p := by
  unfold refG
  rw [drop_stop nd44, digs_stop nd44, numG_stop nd44]
  rcases hd : p.drop (digs p) with _ | ⟨c, r⟩
  · rw [List.nil_append]
    dsimp only
    rw [if_neg (by decide)]
  · rw [List.cons_append]
    dsimp only
    rw [numG_stop nd44, digs_stop nd44]
/-- one round of the document's loop -/
theorem refStep {t : List UInt8} {lo hi : Int} (h0 : 0 ≤ lo) (x : Nat) :
    (((refG t).1 < lo ∨ hi < (refG t).2.1 ∨ (refG t).2.1 < (refG t).1) → items lo hi (splitA 44 t) x = none) ∧
    (¬ ((refG t).1 < lo ∨ hi < (refG t).2.1 ∨ (refG t).2.1 < (refG t).1) →
      (t.drop (refG t).2.2 = [] → items lo hi (splitA 44 t) x = some (x ||| span (refG t).1 (refG t).2.1)) ∧
      ∀ c r, t.drop (refG t).2.2 = c :: r → (c ≠ 44 → items lo hi (splitA 44 t) x = none) ∧ (c = 44 → items lo hi (splitA 44 t) x = items lo hi (splitA 44 r) (x ||| span (refG t).1 (refG t).2.1))) := by
  obtain ⟨p, hp, ⟨rfl, hs⟩ | ⟨w, rfl, hs⟩⟩ := split_shape 44 t
  · rw [hs]
    have hi' : items lo hi [t] x = (item t lo hi).map fun ab => x ||| span ab.1 ab.2 := by
      unfold items
      cases item t lo hi <;> rfl
    rw [hi']
    rcases ref_piece (p := t) (hi := hi) h0 with ⟨k1, k2⟩ | ⟨k1, k2⟩
    · refine ⟨fun h => by rw [k2, if_pos h]; rfl, fun h => ⟨fun _ => by rw [k2, if_neg h]; rfl, fun c r hd => ?_⟩⟩
      rw [k1, List.drop_length] at hd
      cases hd
    · refine ⟨fun _ => by rw [k2]; rfl, fun _ => ⟨fun hd => ?_, fun c r hd => ⟨fun _ => by rw [k2]; rfl, fun hc => ?_⟩⟩⟩
      · have := congrArg List.length hd
        rw [List.length_drop] at this
        simp at this
        omega
      · exact absurd hc (hp c (List.mem_of_mem_drop (i := (refG t).2.2) (by rw [hd]; simp)))
  · rw [hs, refG_app]
    have hi' : items lo hi (p :: splitA 44 w) x = match item p lo hi with | none => none | some (a, b) => items lo hi (splitA 44 w) (x ||| span a b) := rfl
    rw [hi']
    rcases ref_piece (p := p) (hi := hi) h0 with ⟨k1, k2⟩ | ⟨k1, k2⟩
    · have hd : (p ++ 44 :: w).drop (refG p).2.2 = 44 :: w := by rw [k1, List.drop_left]
      refine ⟨fun h => by rw [k2, if_pos h], fun h => ⟨fun h2 => ?_, fun c r h2 => ?_⟩⟩
      · rw [hd] at h2; cases h2
      · rw [hd, List.cons.injEq] at h2
        obtain ⟨rfl, rfl⟩ := h2
        exact ⟨fun h3 => absurd rfl h3, fun _ => by rw [k2, if_neg h]⟩
    · have hd : (p ++ 44 :: w).drop (refG p).2.2 = p.drop (refG p).2.2 ++ 44 :: w := List.drop_append_of_le_length (by omega)
      refine ⟨fun _ => by rw [k2], fun _ => ⟨fun h2 => ?_, fun c r h2 => ⟨fun _ => by rw [k2], fun hc => ?_⟩⟩⟩
      · rw [hd] at h2
        exact absurd h2 (by simp)
      · rcases h3 : p.drop (refG p).2.2 with _ | ⟨a, l⟩
        · have := congrArg List.length h3
          rw [List.length_drop] at this
          simp at this
          omega
        · rw [hd, h3, List.cons_append, List.cons.injEq] at h2
          have ha : a ∈ p := List.mem_of_mem_drop (i := (refG p).2.2) (by rw [h3]; simp)
          exact absurd (h2.1.trans hc) (hp a ha)
theorem digit_ascii {c : UInt8} (h : digit c = true) : c.toNat < 128 := by
  unfold digit at h
  rw [Bool.and_eq_true, decide_eq_true_eq, decide_eq_true_eq] at h
  omega
theorem num_ascii {s : List UInt8} (h : num s ≠ -1) : ∀ c ∈ s, c.toNat < 128 := by
  unfold num at h
  split at h
  · rename_i hh
    exact fun c hc => digit_ascii (List.all_eq_true.1 hh.2.2 c hc)
  · exact absurd rfl h
theorem val_nonneg : ∀ {s : List UInt8} {n : Int}, s.all digit = true → 0 ≤ n → 0 ≤ val s n
  | [], _, _, h => h
  | c :: r, n, h, hn => by
    rw [List.all_cons, Bool.and_eq_true] at h
    have h1 := h.1
    unfold digit at h1
    rw [Bool.and_eq_true, decide_eq_true_eq, decide_eq_true_eq] at h1
    show 0 ≤ val r (10 * n + ((c.toNat : Int) - 48))
    exact val_nonneg h.2 (by omega)
theorem item_ascii {p : List UInt8} {lo hi : Int} (h0 : 0 ≤ lo) (h : item p lo hi ≠ none) : ∀ c ∈ p, c.toNat < 128 := by
  unfold item at h
  obtain ⟨q, hq, ⟨rfl, hc⟩ | ⟨r, rfl, hc⟩⟩ := cut_shape 45 p
  · rw [hc] at h
    dsimp only at h
    refine num_ascii fun hn => h ?_
    rw [hn, if_pos (.inl (by omega))]
  · rw [hc] at h
    dsimp only at h
    have h1 : num q ≠ -1 := fun hn => h (by rw [hn, if_pos (.inl (by omega))])
    have h2 : num r ≠ -1 := fun hn => h (by
      rw [hn]
      by_cases hx : num q < lo
      · rw [if_pos (.inl hx)]
      · rw [if_pos (.inr (.inr (by omega)))])
    intro c hcm
    rcases List.mem_append.1 hcm with hm | hm
    · exact num_ascii h1 c hm
    · rcases List.mem_cons.1 hm with rfl | hm
      · decide
      · exact num_ascii h2 c hm
theorem items_ascii {lo hi : Int} (h0 : 0 ≤ lo) : ∀ {ps : List (List UInt8)} {x y : Nat}, items lo hi ps x = some y → ∀ p ∈ ps, ∀ c ∈ p, c.toNat < 128
  | [], _, _, _, p, hp => by cases hp
  | q :: ps, x, y, h, p, hp => by
    unfold items at h
    rcases hq : item q lo hi with _ | ⟨a, b⟩
    · rw [hq] at h; cases h
    · rw [hq] at h
      rcases List.mem_cons.1 hp with rfl | hp
      · exact item_ascii h0 (by rw [hq]; exact fun e => by cases e)
      · exact items_ascii h0 h p hp
theorem split_mem {b c : UInt8} : ∀ {t : List UInt8}, c ∈ t → c = b ∨ ∃ p ∈ splitA b t, c ∈ p
  | [], h => by cases h
  | d :: r, h => by
    by_cases hd : d = b
    · rcases List.mem_cons.1 h with rfl | h
      · exact .inl hd
      · rcases split_mem (b := b) h with e | ⟨p, h1, h2⟩
        · exact .inl e
        · refine .inr ⟨p, ?_, h2⟩
          unfold splitA
          rw [if_pos hd]
          exact List.mem_cons_of_mem _ h1
    · obtain ⟨p, ps, hs⟩ := splitA_cons b r
      have he : splitA b (d :: r) = (d :: p) :: ps := by
        conv => lhs; unfold splitA
        rw [if_neg hd, hs]
      rw [he]
      rcases List.mem_cons.1 h with rfl | h
      · exact .inr ⟨_, List.mem_cons_self .., List.mem_cons_self ..⟩
      · rcases split_mem (b := b) h with e | ⟨q, h1, h2⟩
        · exact .inl e
        · rw [hs] at h1
          rcases List.mem_cons.1 h1 with rfl | h1
          · exact .inr ⟨_, List.mem_cons_self .., List.mem_cons_of_mem _ h2⟩
          · exact .inr ⟨q, List.mem_cons_of_mem _ h1, h2⟩
/-- a field that is one is ASCII -/
theorem field_ascii {s : List UInt8} {lo hi : Int} (h0 : 0 ≤ lo) {y : Nat} (h : field s lo hi = some y) : ∀ c ∈ s, c.toNat < 128 := by
  unfold field at h
  split at h
  · rename_i e
    subst e
    intro c hc
    simp only [List.mem_singleton] at hc
    subst hc
    decide
  · intro c hc
    rcases split_mem (b := 44) hc with rfl | ⟨p, h1, h2⟩
    · decide
    · exact items_ascii h0 h p h1 c h2
end Go.SX.Cron

/- The minute that is due, plainly. -/
namespace Go.SX.Cron
open Cal

/-- an expression -/
structure Ex where
  mi : Nat
  ho : Nat
  da : Nat
  mo : Nat
  we : Nat
  ad : Bool
  aw : Bool
/-- may a date's day be? -/
def Ex.fits (e : Ex) (m : Nat) (d w : Nat) : Bool :=
  e.mo.testBit m && (if e.ad && e.aw then true else if e.ad then e.we.testBit w else if e.aw then e.da.testBit d else e.da.testBit d || e.we.testBit w)
def first : Int := -719162 * 1440
def last : Int := 2932896 * 1440 + 1439
def dayOf (m : Int) : Int := (m - first) / 1440
def restOf (m : Int) : Int := (m - first) % 1440
open Classical in
noncomputable def Ex.day (e : Ex) (day : Int) : Bool := decide (∃ y m d, IsDate day y m d ∧ e.fits m d.toNat ((day + 1) % 7).toNat = true)
open Classical in
theorem Ex.day_eq {e : Ex} {day y : Int} {m : Nat} {d : Int} (h : IsDate day y m d) : e.day day = e.fits m d.toNat ((day + 1) % 7).toNat := by
  unfold Ex.day
  rcases hf : e.fits m d.toNat ((day + 1) % 7).toNat with _ | _
  · refine decide_eq_false ?_
    rintro ⟨y', m', d', h', hf'⟩
    obtain ⟨rfl, rfl, rfl⟩ := h.unique h'
    rw [hf] at hf'
    cases hf'
  · exact decide_eq_true ⟨y, m, d, h, hf⟩
/-- may a minute of a day be? -/
def Ex.tod (e : Ex) (k : Int) : Bool := e.ho.testBit (k / 60).toNat && e.mi.testBit (k % 60).toNat
noncomputable def Ex.hit (e : Ex) (m : Int) : Bool := decide (first ≤ m) && (decide (m ≤ last) && (e.day (dayOf m) && e.tod (restOf m)))
/-- the first hit from a minute on, within so many -/
noncomputable def Ex.find (e : Ex) : Nat → Int → Option Int
  | 0, _ => none
  | n + 1, m => if e.hit m then some m else e.find n (m + 1)
theorem Ex.find_none {e : Ex} : ∀ {n : Nat} {m : Int}, (∀ k, m ≤ k → k < m + n → e.hit k = false) → e.find n m = none
  | 0, _, _ => rfl
  | n + 1, m, h => by
    unfold Ex.find
    rw [h m (Int.le_refl _) (by omega)]
    exact Ex.find_none fun k h1 h2 => h k (by omega) (by omega)
theorem Ex.find_some {e : Ex} : ∀ {n : Nat} {m x : Int}, m ≤ x → x < m + n → e.hit x = true → (∀ k, m ≤ k → k < x → e.hit k = false) → e.find n m = some x
  | 0, m, x, h1, h2, _, _ => absurd h2 (by omega)
  | n + 1, m, x, h1, h2, hx, h => by
    unfold Ex.find
    by_cases hm : m = x
    · subst hm
      rw [if_pos hx]
    · rw [h m (Int.le_refl _) (by omega)]
      exact Ex.find_some (by omega) (by omega) hx fun k h3 h4 => h k (by omega) h4
theorem Ex.find_spec {e : Ex} : ∀ {n : Nat} {m x : Int}, e.find n m = some x → m ≤ x ∧ x < m + n ∧ e.hit x = true ∧ ∀ k, m ≤ k → k < x → e.hit k = false
  | 0, _, _, h => by cases h
  | n + 1, m, x, h => by
    unfold Ex.find at h
    rcases hh : e.hit m with _ | _
    · rw [hh] at h
      obtain ⟨h1, h2, h3, h4⟩ := Ex.find_spec (n := n) h
      refine ⟨by omega, by omega, h3, fun k h5 h6 => ?_⟩
      by_cases hk : k = m
      · rw [hk]; exact hh
      · exact h4 k (by omega) h6
    · rw [hh] at h
      simp only [if_true, Option.some.injEq] at h
      subst h
      exact ⟨Int.le_refl _, by omega, hh, fun k h5 h6 => absurd h6 (by omega)⟩
theorem Ex.find_none_iff {e : Ex} : ∀ {n : Nat} {m : Int}, e.find n m = none → ∀ k, m ≤ k → k < m + n → e.hit k = false
  | 0, m, _, k, h1, h2 => absurd h2 (by omega)
  | n + 1, m, h, k, h1, h2 => by
    unfold Ex.find at h
    rcases hh : e.hit m with _ | _
    · rw [hh] at h
      by_cases hk : k = m
      · rw [hk]; exact hh
      · exact Ex.find_none_iff (n := n) h k (by omega) (by omega)
    · rw [hh] at h; cases h
theorem dayOf_mul (q r : Int) (h0 : 0 ≤ r) (h1 : r < 1440) : dayOf (1440 * q + r) = q + 719162 ∧ restOf (1440 * q + r) = r := by
  unfold dayOf restOf first
  omega
/-- a day that may not be has no hit -/
theorem Ex.hit_day {e : Ex} {q k : Int} (h : e.day (q + 719162) = false) (h0 : 1440 * q ≤ k) (h1 : k < 1440 * q + 1440) : e.hit k = false := by
  obtain ⟨r, rfl, h2, h3⟩ : ∃ r, k = 1440 * q + r ∧ 0 ≤ r ∧ r < 1440 := ⟨k - 1440 * q, by omega, by omega, by omega⟩
  unfold Ex.hit
  rw [(dayOf_mul q r h2 h3).1, h, Bool.false_and, Bool.and_false, Bool.and_false]
theorem Ex.hit_tod {e : Ex} {q r : Int} (h : e.tod r = false) (h2 : 0 ≤ r) (h3 : r < 1440) : e.hit (1440 * q + r) = false := by
  unfold Ex.hit
  rw [(dayOf_mul q r h2 h3).2, h, Bool.and_false, Bool.and_false, Bool.and_false]
theorem Ex.hit_both {e : Ex} {q r : Int} (h : e.day (q + 719162) = true) (ht : e.tod r = true) (h2 : 0 ≤ r) (h3 : r < 1440) (hf : -719162 ≤ q) (hl : q ≤ 2932896) : e.hit (1440 * q + r) = true := by
  unfold Ex.hit
  rw [(dayOf_mul q r h2 h3).1, (dayOf_mul q r h2 h3).2, h, ht]
  have a : decide (first ≤ 1440 * q + r) = true := decide_eq_true (by unfold first; omega)
  have b : decide (1440 * q + r ≤ last) = true := decide_eq_true (by unfold last; omega)
  rw [a, b]
  rfl
theorem Ex.hit_late {e : Ex} {k : Int} (h : last < k) : e.hit k = false := by
  unfold Ex.hit
  have b : decide (k ≤ last) = false := decide_eq_false (by omega)
  rw [b, Bool.false_and, Bool.and_false]
end Go.SX.Cron

/- Cron expressions, plainly: bits, fields, the whole. -/
namespace Go.SX.Cron

theorem span_nat (a b : Nat) (h : a ≤ b) : span (a : Int) (b : Int) = 2 ^ (b + 1) - 2 ^ a := by
  have h1 : 2 ^ a ≤ 2 ^ (b + 1) := Nat.pow_le_pow_right (by decide) (by omega)
  have h2 : 0 < 2 ^ a := Nat.pow_pos (by decide)
  unfold span
  rw [show ((b : Int) + 1).toNat = b + 1 by omega, show (a : Int).toNat = a by omega]
  omega
theorem span_pos {a b : Int} (h0 : 0 ≤ a) (h : a ≤ b) : span a b ≠ 0 := by
  obtain ⟨a, rfl⟩ : ∃ n : Nat, a = n := ⟨a.toNat, by omega⟩
  obtain ⟨b, rfl⟩ : ∃ n : Nat, b = n := ⟨b.toNat, by omega⟩
  rw [span_nat a b (by omega)]
  have h1 : 2 ^ a < 2 ^ (b + 1) := Nat.pow_lt_pow_right (by decide) (by omega)
  omega
theorem span_lt {a b : Int} {n : Nat} (h : b < n) : span a b < 2 ^ n := by
  unfold span
  have h1 : 2 ^ (b + 1).toNat ≤ 2 ^ n := Nat.pow_le_pow_right (by decide) (by omega)
  have h2 : 0 < 2 ^ (b + 1).toNat := Nat.pow_pos (by decide)
  omega
theorem or_pos {x y : Nat} (h : y ≠ 0) : x ||| y ≠ 0 := by
  intro h2
  have := Nat.right_le_or (n := x) (m := y)
  omega
theorem item_some {p : List UInt8} {lo hi a b : Int} (h : item p lo hi = some (a, b)) : lo ≤ a ∧ a ≤ b ∧ b ≤ hi := by
  unfold item at h
  rcases h2 : (cutA 45 p).2 with _ | t <;> rw [h2] at h <;> dsimp only at h
  · by_cases hc : num (cutA 45 p).1 < lo ∨ hi < num (cutA 45 p).1 ∨ num (cutA 45 p).1 < num (cutA 45 p).1
    · rw [if_pos hc] at h; cases h
    · rw [if_neg hc] at h
      simp only [Option.some.injEq, Prod.mk.injEq] at h
      omega
  · by_cases hc : num (cutA 45 p).1 < lo ∨ hi < num t ∨ num t < num (cutA 45 p).1
    · rw [if_pos hc] at h; cases h
    · rw [if_neg hc] at h
      simp only [Option.some.injEq, Prod.mk.injEq] at h
      omega
theorem items_pos {lo hi : Int} (h0 : 0 ≤ lo) {n : Nat} (hn : hi < n) : ∀ {ps : List (List UInt8)} {x y : Nat}, items lo hi ps x = some y → x < 2 ^ n → y < 2 ^ n ∧ (x ≠ 0 ∨ ps ≠ [] → y ≠ 0)
  | [], x, y, h, hx => by
    simp only [items, Option.some.injEq] at h
    subst h
    exact ⟨hx, fun h => h.elim id fun h => absurd rfl h⟩
  | p :: ps, x, y, h, hx => by
    unfold items at h
    rcases hp : item p lo hi with _ | ⟨a, b⟩
    · rw [hp] at h; cases h
    · rw [hp] at h
      obtain ⟨q1, q2, q3⟩ := item_some hp
      have hs := span_pos (show 0 ≤ a by omega) q2
      obtain ⟨k1, k2⟩ := items_pos h0 hn (ps := ps) h (Nat.or_lt_two_pow hx (span_lt (show b < n by omega)))
      exact ⟨k1, fun _ => k2 (.inl (or_pos hs))⟩
theorem field_pos {s : List UInt8} {lo hi : Int} (h0 : 0 ≤ lo) (h1 : lo ≤ hi) {n : Nat} (hn : hi < n) {y : Nat} (h : field s lo hi = some y) : y ≠ 0 ∧ y < 2 ^ n := by
  unfold field at h
  split at h
  · simp only [Option.some.injEq] at h
    subst h
    exact ⟨span_pos h0 h1, span_lt hn⟩
  · obtain ⟨p, ps, hs⟩ := splitA_cons 44 s
    obtain ⟨k1, k2⟩ := items_pos h0 hn h (Nat.pow_pos (by decide))
    exact ⟨k2 (.inr (by rw [hs]; exact fun e => by cases e)), k1⟩
theorem fieldsA_app : ∀ {a cur r : List UInt8}, (∀ c ∈ a, blank c = false) → fieldsA cur (a ++ r) = fieldsA (cur ++ a) r
  | [], cur, r, _ => by rw [List.append_nil]; rfl
  | c :: a, cur, r, h => by
    rw [List.cons_append]
    conv => lhs; unfold fieldsA
    rw [h c (by simp), if_neg (by decide), fieldsA_app fun x hx => h x (List.mem_cons_of_mem _ hx), List.append_assoc]
    rfl
/-- what is no blank stands in a piece -/
theorem fieldsA_mem {c : UInt8} (hc : blank c = false) : ∀ {cur s : List UInt8}, c ∈ cur ∨ c ∈ s → ∃ p ∈ fieldsA cur s, c ∈ p
  | cur, [], h => by
    rcases h with h | h
    · unfold fieldsA
      rw [if_neg (fun e => by rw [e] at h; cases h)]
      exact ⟨cur, List.mem_singleton.2 rfl, h⟩
    · cases h
  | cur, d :: r, h => by
    unfold fieldsA
    rcases hd : blank d with _ | _
    · rw [if_neg (by decide)]
      refine fieldsA_mem hc ?_
      rcases h with h | h
      · exact .inl (List.mem_append_left _ h)
      · rcases List.mem_cons.1 h with rfl | h
        · exact .inl (List.mem_append_right _ (List.mem_singleton.2 rfl))
        · exact .inr h
    · rw [if_pos rfl]
      by_cases hcur : cur = []
      · rw [if_pos hcur]
        refine fieldsA_mem hc (.inr ?_)
        rcases h with h | h
        · rw [hcur] at h; cases h
        · rcases List.mem_cons.1 h with rfl | h
          · rw [hc] at hd; cases hd
          · exact h
      · rw [if_neg hcur]
        rcases h with h | h
        · exact ⟨cur, List.mem_cons_self .., h⟩
        · rcases List.mem_cons.1 h with rfl | h
          · rw [hc] at hd; cases hd
          · obtain ⟨p, h1, h2⟩ := fieldsA_mem hc (cur := []) (s := r) (.inr h)
            exact ⟨p, List.mem_cons_of_mem _ h1, h2⟩
/-- an expression, read -/
def parse (s : List UInt8) : Option Ex :=
  if 100 < s.length then none else
  match fieldsA [] s with
  | [a, b, c, d, f] =>
    match field a 0 59, field b 0 23, field c 1 31, field d 1 12, field f 0 6 with
    | some x, some y, some z, some u, some v => some ⟨x, y, z, u, v, decide (c = [42]), decide (f = [42])⟩
    | _, _, _, _, _ => none
  | _ => none
theorem ascii_blank {c : UInt8} (h : ¬ c.toNat < 128) : blank c = false := by
  unfold blank
  rw [Bool.or_eq_false_iff]
  refine ⟨?_, ?_⟩ <;> rw [beq_eq_false_iff_ne] <;> rintro rfl <;> exact h (by decide)
/-- what is an expression is ASCII -/
theorem parse_ascii {s : List UInt8} {e : Ex} (h : parse s = some e) : ∀ c ∈ s, c.toNat < 128 := by
  intro c hc
  apply Decidable.byContradiction
  intro hn
  obtain ⟨p, hp, hcp⟩ := fieldsA_mem (ascii_blank hn) (cur := []) (.inr hc)
  unfold parse at h
  split at h
  · cases h
  · split at h
    · rename_i a b cc d f he
      rw [he] at hp
      split at h
      · rename_i x y z u v h1 h2 h3 h4 h5
        simp only [List.mem_cons, List.not_mem_nil, or_false] at hp
        rcases hp with rfl | rfl | rfl | rfl | rfl
        · exact hn (field_ascii (by decide) h1 c hcp)
        · exact hn (field_ascii (by decide) h2 c hcp)
        · exact hn (field_ascii (by decide) h3 c hcp)
        · exact hn (field_ascii (by decide) h4 c hcp)
        · exact hn (field_ascii (by decide) h5 c hcp)
      · cases h
    · cases h
end Go.SX.Cron

/- The first minute of a day that is allowed, plainly; the next one. -/
namespace Go.SX.Cron

/-- the lowest bit from a number on, of so many; -1: none -/
def lowF (b : Nat) : Nat → Nat → Int
  | 0, _ => -1
  | k + 1, n => if b.testBit n then n else lowF b k (n + 1)
theorem lowF_spec (b : Nat) : ∀ k n : Nat, (lowF b k n = -1 ∧ ∀ i, n ≤ i → i < n + k → b.testBit i = false) ∨ ∃ i : Nat, lowF b k n = i ∧ n ≤ i ∧ i < n + k ∧ b.testBit i = true ∧ ∀ j, n ≤ j → j < i → b.testBit j = false
  | 0, n => .inl ⟨rfl, fun i h1 h2 => absurd h2 (by omega)⟩
  | k + 1, n => by
    unfold lowF
    rcases hb : b.testBit n with _ | _
    · rw [if_neg (by decide)]
      rcases lowF_spec b k (n + 1) with ⟨h1, h2⟩ | ⟨i, h1, h2, h3, h4, h5⟩
      · refine .inl ⟨h1, fun i q1 q2 => ?_⟩
        by_cases e : i = n
        · rw [e]; exact hb
        · exact h2 i (by omega) (by omega)
      · refine .inr ⟨i, h1, by omega, by omega, h4, fun j q1 q2 => ?_⟩
        by_cases e : j = n
        · rw [e]; exact hb
        · exact h5 j (by omega) q2
    · rw [if_pos rfl]
      exact .inr ⟨n, rfl, Nat.le_refl _, by omega, hb, fun j q1 q2 => absurd q2 (by omega)⟩
/-- the lowest bit of a word, from a number on -/
def low (b n : Nat) : Int := lowF b (64 - n) n
theorem low_spec {b n : Nat} (hb : b < 2 ^ 64) : (low b n = -1 ∧ ∀ i, n ≤ i → b.testBit i = false) ∨ ∃ i : Nat, low b n = i ∧ n ≤ i ∧ i < 64 ∧ b.testBit i = true ∧ ∀ j, n ≤ j → j < i → b.testBit j = false := by
  have hbig : ∀ i, 64 ≤ i → b.testBit i = false := fun i hi => Nat.testBit_lt_two_pow (Nat.lt_of_lt_of_le hb (Nat.pow_le_pow_right (by decide) hi))
  rcases lowF_spec b (64 - n) n with ⟨h1, h2⟩ | ⟨i, h1, h2, h3, h4, h5⟩
  · refine .inl ⟨h1, fun i hi => ?_⟩
    by_cases q : i < 64
    · exact h2 i hi (by omega)
    · exact hbig i (by omega)
  · exact .inr ⟨i, h1, h2, by omega, h4, h5⟩
theorem bit_lt {b n i : Nat} (hb : b < 2 ^ n) (h : b.testBit i = true) : i < n := by
  apply Decidable.byContradiction
  intro hn
  rw [Nat.testBit_lt_two_pow (Nat.lt_of_lt_of_le hb (Nat.pow_le_pow_right (by decide) (by omega)))] at h
  cases h
/-- the first minute of a day, from one on -/
def Ex.early (e : Ex) (from_ : Nat) : Int :=
  let h := low e.ho (from_ / 60)
  if h = (from_ / 60 : Nat) then
    (let m := low e.mi (from_ % 60)
     if 0 ≤ m then 60 * h + m
     else
      let h := low e.ho (from_ / 60 + 1)
      if h < 0 ∨ low e.mi 0 < 0 then -1 else 60 * h + low e.mi 0)
  else if h < 0 ∨ low e.mi 0 < 0 then -1 else 60 * h + low e.mi 0
theorem Ex.tod_nat (e : Ex) (h m : Nat) (hm : m < 60) : e.tod (60 * (h : Int) + m) = (e.ho.testBit h && e.mi.testBit m) := by
  unfold Ex.tod
  rw [show ((60 * (h : Int) + m) / 60).toNat = h by omega, show ((60 * (h : Int) + m) % 60).toNat = m by omega]
theorem Ex.tod_h {e : Ex} {k : Nat} (h : e.ho.testBit (k / 60) = false) : e.tod (k : Int) = false := by
  unfold Ex.tod
  rw [show ((k : Int) / 60).toNat = k / 60 by omega, h, Bool.false_and]
theorem Ex.tod_m {e : Ex} {k : Nat} (h : e.mi.testBit (k % 60) = false) : e.tod (k : Int) = false := by
  unfold Ex.tod
  rw [show ((k : Int) % 60).toNat = k % 60 by omega, h, Bool.and_false]
/-- behind an hour: the lowest one that is allowed, and its lowest minute -/
theorem Ex.early_tail {e : Ex} {a f : Nat} (hh : e.ho < 2 ^ 24) (hm : e.mi < 2 ^ 60) (hf : f ≤ 60 * a) (hb : ∀ k : Nat, f ≤ k → k < 60 * a → e.tod (k : Int) = false) :
    ((if low e.ho a < 0 ∨ low e.mi 0 < 0 then -1 else 60 * low e.ho a + low e.mi 0) = -1 ∧ ∀ k : Nat, f ≤ k → e.tod (k : Int) = false) ∨
    ∃ r : Nat, (if low e.ho a < 0 ∨ low e.mi 0 < 0 then -1 else 60 * low e.ho a + low e.mi 0) = (r : Int) ∧ f ≤ r ∧ r < 1440 ∧ e.tod (r : Int) = true ∧ ∀ k : Nat, f ≤ k → k < r → e.tod (k : Int) = false := by
  rcases low_spec (n := a) (Nat.lt_of_lt_of_le hh (by decide)) with ⟨h1, h2⟩ | ⟨i, h1, h2, h3, h4, h5⟩
  · rw [h1, if_pos (.inl (by decide))]
    refine .inl ⟨rfl, fun k hk => ?_⟩
    by_cases q : k < 60 * a
    · exact hb k hk q
    · exact Ex.tod_h (h2 _ (by omega))
  · rcases low_spec (n := 0) (Nat.lt_of_lt_of_le hm (by decide)) with ⟨k1, k2⟩ | ⟨j, k1, k2, k3, k4, k5⟩
    · rw [k1, if_pos (.inr (by decide))]
      exact .inl ⟨rfl, fun k _ => Ex.tod_m (k2 _ (Nat.zero_le _))⟩
    · rw [h1, k1, if_neg (by omega)]
      have hi := bit_lt hh h4
      have hj := bit_lt hm k4
      refine .inr ⟨60 * i + j, by omega, by omega, by omega, ?_, fun k q1 q2 => ?_⟩
      · have := Ex.tod_nat e i j hj
        rw [h4, k4] at this
        rw [show ((60 * i + j : Nat) : Int) = 60 * (i : Int) + j by omega]
        exact this
      · by_cases q : k < 60 * a
        · exact hb k q1 q
        · by_cases q3 : k / 60 < i
          · exact Ex.tod_h (h5 _ (by omega) q3)
          · exact Ex.tod_m (k5 _ (Nat.zero_le _) (by omega))
theorem Ex.early_spec {e : Ex} {f : Nat} (hh : e.ho < 2 ^ 24) (hm : e.mi < 2 ^ 60) :
    (e.early f = -1 ∧ ∀ k : Nat, f ≤ k → e.tod (k : Int) = false) ∨ ∃ r : Nat, e.early f = (r : Int) ∧ f ≤ r ∧ (f < 1440 → r < 1440) ∧ e.tod (r : Int) = true ∧ ∀ k : Nat, f ≤ k → k < r → e.tod (k : Int) = false := by
  have fin : ∀ x : Int, ((x = -1 ∧ ∀ k : Nat, f ≤ k → e.tod (k : Int) = false) ∨ ∃ r : Nat, x = (r : Int) ∧ f ≤ r ∧ r < 1440 ∧ e.tod (r : Int) = true ∧ ∀ k : Nat, f ≤ k → k < r → e.tod (k : Int) = false) →
      ((x = -1 ∧ ∀ k : Nat, f ≤ k → e.tod (k : Int) = false) ∨ ∃ r : Nat, x = (r : Int) ∧ f ≤ r ∧ (f < 1440 → r < 1440) ∧ e.tod (r : Int) = true ∧ ∀ k : Nat, f ≤ k → k < r → e.tod (k : Int) = false) := by
    rintro x (h | ⟨r, a, b, c, d⟩)
    · exact .inl h
    · exact .inr ⟨r, a, b, fun _ => c, d⟩
  unfold Ex.early
  dsimp only
  rcases low_spec (n := f / 60) (Nat.lt_of_lt_of_le hh (by decide)) with ⟨h1, h2⟩ | ⟨i, h1, h2, h3, h4, h5⟩
  · rw [h1, if_neg (by omega), if_pos (.inl (by decide))]
    exact .inl ⟨rfl, fun k hk => Ex.tod_h (h2 _ (by omega))⟩
  · by_cases hi : i = f / 60
    · subst hi
      rw [h1, if_pos rfl]
      rcases low_spec (n := f % 60) (Nat.lt_of_lt_of_le hm (by decide)) with ⟨k1, k2⟩ | ⟨j, k1, k2, k3, k4, k5⟩
      · rw [k1, if_neg (by decide)]
        exact fin _ (Ex.early_tail (a := f / 60 + 1) hh hm (by omega) fun k q1 q2 => Ex.tod_m (k2 _ (by omega)))
      · rw [k1, if_pos (by omega)]
        have hj := bit_lt hm k4
        have hi24 := bit_lt hh h4
        refine .inr ⟨60 * (f / 60) + j, by omega, by omega, fun _ => by omega, ?_, fun k q1 q2 => ?_⟩
        · have := Ex.tod_nat e (f / 60) j hj
          rw [h4, k4] at this
          rw [show ((60 * (f / 60) + j : Nat) : Int) = 60 * ((f / 60 : Nat) : Int) + j by omega]
          exact this
        · exact Ex.tod_m (k5 _ (by omega) (by omega))
    · rw [if_neg (by rw [h1]; omega)]
      have ht := Ex.early_tail (e := e) (a := f / 60 + 1) (f := f) hh hm (by omega) fun k q1 q2 => Ex.tod_h (h5 _ (by omega) (by omega))
      have hlow : low e.ho (f / 60) = low e.ho (f / 60 + 1) := by
        unfold low
        rw [show 64 - f / 60 = (64 - (f / 60 + 1)) + 1 by omega]
        conv => lhs; unfold lowF
        rw [h5 (f / 60) (Nat.le_refl _) (by omega), if_neg (by decide)]
      rw [hlow]
      exact fin _ ht
end Go.SX.Cron

/- The next minute that is allowed, the one that is due, plainly. -/
namespace Go.SX.Cron

theorem Ex.find_skip {e : Ex} : ∀ {d n : Nat} {m : Int}, (∀ k, m ≤ k → k < m + d → e.hit k = false) → d ≤ n → e.find n m = e.find (n - d) (m + d)
  | 0, n, m, _, _ => by rw [Nat.sub_zero, show m + ((0 : Nat) : Int) = m by omega]
  | d + 1, n, m, h, hd => by
    obtain ⟨n', rfl⟩ : ∃ n', n = n' + 1 := ⟨n - 1, by omega⟩
    conv => lhs; unfold Ex.find
    rw [h m (Int.le_refl _) (by omega), if_neg (by decide), Ex.find_skip (d := d) (fun k h1 h2 => h k (by omega) (by omega)) (by omega)]
    rw [show n' + 1 - (d + 1) = n' - d by omega, show m + 1 + (d : Int) = m + ((d + 1 : Nat) : Int) by omega]
/-- what is searched within more is searched within less -/
theorem Ex.find_less {e : Ex} {n k : Nat} {m : Int} (h : k ≤ n) : (match e.find n m with | some x => if x < m + k then some x else none | none => none) = e.find k m := by
  rcases hf : e.find n m with _ | x
  · exact (Ex.find_none fun j h1 h2 => Ex.find_none_iff hf j h1 (by omega)).symm
  · obtain ⟨h1, h2, h3, h4⟩ := Ex.find_spec hf
    dsimp only
    split
    · rename_i hx
      exact (Ex.find_some h1 hx h3 h4).symm
    · rename_i hx
      exact (Ex.find_none fun j q1 q2 => h4 j q1 (by omega)).symm
/-- of a day, from a minute on: nothing, or the first -/
theorem Ex.day_step {e : Ex} {q : Int} {r : Nat} (hr : r < 1440) (hh : e.ho < 2 ^ 24) (hm : e.mi < 2 ^ 60) (hf : -719162 ≤ q) (hl : q ≤ 2932896) :
    ((e.day (q + 719162) = false ∨ e.early r = -1) → ∀ k, 1440 * q + r ≤ k → k < 1440 * q + 1440 → e.hit k = false) ∧
    (e.day (q + 719162) = true → ∀ x : Nat, e.early r = (x : Int) → r ≤ x ∧ x < 1440 ∧ e.hit (1440 * q + x) = true ∧ ∀ k, 1440 * q + r ≤ k → k < 1440 * q + x → e.hit k = false) := by
  refine ⟨fun h k h1 h2 => ?_, fun h x hx => ?_⟩
  · obtain ⟨j, rfl, h3, h4⟩ : ∃ j : Nat, k = 1440 * q + j ∧ r ≤ j ∧ j < 1440 := ⟨(k - 1440 * q).toNat, by omega, by omega, by omega⟩
    rcases h with h | h
    · exact Ex.hit_day h (by omega) (by omega)
    · rcases Ex.early_spec (e := e) (f := r) hh hm with ⟨_, k2⟩ | ⟨y, k1, _⟩
      · exact Ex.hit_tod (k2 j h3) (by omega) (by omega)
      · rw [k1] at h; omega
  · rcases Ex.early_spec (e := e) (f := r) hh hm with ⟨k1, _⟩ | ⟨y, k1, k2, k3, k4, k5⟩
    · rw [k1] at hx; omega
    · obtain rfl : y = x := by rw [k1] at hx; omega
      have hy := k3 hr
      refine ⟨k2, hy, Ex.hit_both h k4 (by omega) (by omega) hf hl, fun k h1 h2 => ?_⟩
      obtain ⟨j, rfl, h3, h4⟩ : ∃ j : Nat, k = 1440 * q + j ∧ r ≤ j ∧ j < y := ⟨(k - 1440 * q).toNat, by omega, by omega, by omega⟩
      exact Ex.hit_tod (k5 j h3 h4) (by omega) (by omega)
/-- a year's first day and a day's year, from one that is not behind it -/
theorem year_exists {day y : Int} {k : Nat} (h : day < Cal.ahead (y + k)) (h0 : Cal.ahead y ≤ day) : ∃ z, y ≤ z ∧ Cal.ahead z ≤ day ∧ day < Cal.ahead (z + 1) := by
  induction k with
  | zero => exact absurd h (by rw [show y + ((0 : Nat) : Int) = y by omega]; omega)
  | succ k ih =>
    by_cases q : day < Cal.ahead (y + k)
    · exact ih q
    · refine ⟨y + k, by omega, by omega, ?_⟩
      rw [show y + (k : Int) + 1 = y + ((k + 1 : Nat) : Int) by omega]
      exact h
/-- 366 years of the longest length do not outrun a year's days: where the search for a year begins -/
theorem start_ref {day : Int} (_h0 : 0 ≤ day) : Cal.ahead (day / 366 + 1) ≤ day := by
  unfold Cal.ahead
  omega
theorem start_prog {day : Int} (h0 : 0 ≤ day) : Cal.ahead (400 * (day / 146097) + day % 146097 / 366 + 1) ≤ day := by
  unfold Cal.ahead
  omega
end Go.SX.Cron

/- The calendar: the program's and the document's, as contracts. -/
namespace Go.SX
open Go.Proofs
set_option maxRecDepth 1000000
variable {E : Env}

theorem c52 (y : Int) (h0 : 0 ≤ y) : Spec Tryd.prog E 52 [I y] [] (fun v hp => v = Bl (Cal.leap y) ∧ hp = []) := by
  refine spec_of (keep := k52) (args' := [I y]) Tryd.func52 rfl Tryd.ntmps52 s52_ok (by simp) ⟨rfl, fun _ h => h⟩ (fun _ _ h => h) (go_ok _ 40 _ _ ?_)
  simp only [go_sem, s52, k52, Nat.reduceBEq, Tryd.results52]
  simp only [Int.tmod_eq_emod_of_nonneg h0]
  refine ⟨by decide, fun h => ⟨h, by decide⟩, fun h => ⟨h, by decide⟩, rfl⟩
theorem c45 (y : Int) (h0 : 0 ≤ y) : Spec Tryd.prog E 45 [I y] [] (fun v hp => v = Bl (Cal.leap y) ∧ hp = []) := by
  refine spec_of (keep := k45) (args' := [I y]) Tryd.func45 rfl Tryd.ntmps45 s45_ok (by simp) ⟨rfl, fun _ h => h⟩ (fun _ _ h => h) (go_ok _ 40 _ _ ?_)
  simp only [go_sem, s45, k45, Nat.reduceBEq, Tryd.results45]
  simp only [Int.tmod_eq_emod_of_nonneg h0]
  refine ⟨by decide, fun h => ⟨h, by decide⟩, fun h => ⟨h, by decide⟩, fun h => ⟨h, fun h2 => by rw [h, h2]; rfl⟩, ?_⟩
  unfold Cal.leap
  by_cases a : y % 4 = 0
  · simp [a]
  · have : ¬ y % 400 = 0 := by omega
    simp [a, this]
theorem c42 (y : Int) (h0 : 1 ≤ y) (h1 : y ≤ 2 ^ 40) : Spec Tryd.prog E 42 [I y] [] (fun v hp => v = I (Cal.ahead y) ∧ hp = []) := by
  refine spec_of (keep := k42) (args' := [I y]) Tryd.func42 rfl Tryd.ntmps42 s42_ok (by simp) ⟨rfl, fun _ h => h⟩ (fun _ _ h => h) (go_ok _ 40 _ _ ?_)
  simp only [go_sem, s42, k42, Nat.reduceBEq, Tryd.results42]
  have e : ∀ k : Int, (y - 1).tdiv k = (y - 1) / k := fun k => Int.tdiv_eq_ediv_of_nonneg (by omega)
  simp only [e, inI64]
  refine ⟨by omega, by omega, ⟨by decide, by omega⟩, by omega, ⟨by decide, by omega⟩, by omega, ⟨by decide, by omega⟩, by omega, rfl⟩
theorem c31 (y : Int) (h0 : 1 ≤ y) (h1 : y ≤ 2 ^ 40) : Spec Tryd.prog E 31 [I y] [] (fun v hp => v = I (Cal.ahead y) ∧ hp = []) := by
  refine spec_of (keep := k31) (args' := [I y]) Tryd.func31 rfl Tryd.ntmps31 s31_ok (by simp) ⟨rfl, fun _ h => h⟩ (fun _ _ h => h) (go_ok _ 40 _ _ ?_)
  simp only [go_sem, s31, k31, Nat.reduceBEq, Tryd.results31]
  have e : ∀ k : Int, (y - 1).tdiv k = (y - 1) / k := fun k => Int.tdiv_eq_ediv_of_nonneg (by omega)
  simp only [e, inI64]
  refine ⟨by omega, by omega, ⟨by decide, by omega⟩, by omega, ⟨by decide, by omega⟩, by omega, ⟨by decide, by omega⟩, by omega, rfl⟩
end Go.SX

/- Days of a month: the program's table, the document's. -/
namespace Go.SX
open Go.Proofs
set_option maxRecDepth 1000000
variable {E : Env}

/-- the days of the months -/
def daysT : Array Value := #[.int .i64 31, .int .i64 28, .int .i64 31, .int .i64 30, .int .i64 31, .int .i64 30, .int .i64 31, .int .i64 31, .int .i64 30, .int .i64 31, .int .i64 30, .int .i64 31]
theorem run_b87 (w : World) : (Instr.build 87 #[(0, .int .i64 31), (1, .int .i64 28), (2, .int .i64 31), (3, .int .i64 30), (4, .int .i64 31), (5, .int .i64 30), (6, .int .i64 31), (7, .int .i64 31), (8, .int .i64 30), (9, .int .i64 31), (10, .int .i64 30), (11, .int .i64 31)]).run Tryd.prog w = .ok (.agg daysT) w := by kernel_rfl
theorem run_i87 (w : World) (m : Nat) (h1 : 1 ≤ m) (h2 : m ≤ 12) : (Instr.index 87 (.agg daysT) (.int .i64 ((m : Int) - 1))).run Tryd.prog w = .ok (.int .i64 (Cal.mdays 1 m)) w := by
  have : m = 1 ∨ m = 2 ∨ m = 3 ∨ m = 4 ∨ m = 5 ∨ m = 6 ∨ m = 7 ∨ m = 8 ∨ m = 9 ∨ m = 10 ∨ m = 11 ∨ m = 12 := by omega
  rcases this with rfl | rfl | rfl | rfl | rfl | rfl | rfl | rfl | rfl | rfl | rfl | rfl <;> rfl
theorem mdays_other {y : Int} {m : Nat} (h : ¬ (m = 2 ∧ Cal.leap y = true)) : Cal.mdays 1 m = Cal.mdays y m := by
  unfold Cal.mdays
  by_cases h2 : m = 2
  · rw [if_pos h2, if_pos h2]
    have : Cal.leap y = false := by
      rcases hl : Cal.leap y with _ | _
      · rfl
      · exact absurd ⟨h2, hl⟩ h
    rw [this]
    rfl
  · rw [if_neg h2, if_neg h2]
theorem oth_b87 {C : Ctx} {st : St} (hC : C.P = Tryd.prog) : OthV C st (.build 87 #[(0, .const (.int .i64 31)), (1, .const (.int .i64 28)), (2, .const (.int .i64 31)), (3, .const (.int .i64 30)), (4, .const (.int .i64 31)), (5, .const (.int .i64 30)), (6, .const (.int .i64 31)), (7, .const (.int .i64 31)), (8, .const (.int .i64 30)), (9, .const (.int .i64 31)), (10, .const (.int .i64 30)), (11, .const (.int .i64 31))]) 87 (.val (.agg daysT)) := by
  intro ro H F a w g
  refine ⟨?_, by simp only [SV.ok]⟩
  have h := run_b87 w
  rw [← hC] at h
  simp only [execOp, oper0, SV.den, List.map_toArray, List.map_cons, List.map_nil, Act.eval, Sem.run_bind, h, Result.andThen, Sem.run_pure]
theorem oth_i87 {C : Ctx} {st : St} (hC : C.P = Tryd.prog) {x i : Nat} {m : Nat} (h1 : 1 ≤ m) (h2 : m ≤ 12) (hx : opv st.env (.t x) = some (.val (.agg daysT))) (hi : opv st.env (.t i) = some (I ((m : Int) - 1))) : OthV C st (.index 87 (.tmp x) (.tmp i)) 3 (I (Cal.mdays 1 m)) := by
  intro ro H F a w g
  refine ⟨?_, by simp only [SV.ok]⟩
  have h := run_i87 w m h1 h2
  rw [← hC] at h
  obtain ⟨e1, _⟩ := opv_ok (x := .tmp x) g rfl hx
  obtain ⟨e2, _⟩ := opv_ok (x := .tmp i) g rfl hi
  simp only [SV.den] at e1 e2
  simp only [execOp, oper0, SV.den, e1, e2, Sem.run_bind, h, Result.andThen, Sem.run_pure]
set_option maxHeartbeats 1000000 in
theorem c43 (y : Int) (m : Nat) (h0 : 0 ≤ y) (h1 : 1 ≤ m) (h2 : m ≤ 12) : Spec Tryd.prog E 43 [I y, I m] [] (fun v hp => v = I (Cal.mdays y m) ∧ hp = []) := by
  refine spec_of (keep := k43) (args' := [I y, I m]) Tryd.func43 rfl Tryd.ntmps43 s43_ok (by simp) ⟨rfl, fun _ h => h⟩ (fun _ _ h => h) (go_ok _ 20 _ _ ?_)
  have d1 : decide ((m : Int) < 1) = false := decide_eq_false (by omega)
  have d2 : decide (12 < (m : Int)) = false := decide_eq_false (by omega)
  simp only [go_sem, s43, k43, d1, d2, Nat.reduceBEq, Nat.zero_add, Tryd.results43]
  rcases d3 : decide ((m : Int) = 2) with _ | _
  · have hm2 : m ≠ 2 := fun e => of_decide_eq_false d3 (by omega)
    have hmd := mdays_other (y := y) (m := m) (fun e => hm2 e.1)
    refine go_ok _ 30 _ _ ?_
    simp only [go_sem, d3, List.cons_append, List.nil_append, Nat.reduceBEq, Tryd.results43]
    refine ⟨?_, rfl⟩
    refine safe_oth (oth_b87 rfl) trivial ?_
    refine go_ok _ 2 _ _ ?_
    simp only [go_sem, Nat.reduceBEq]
    refine ⟨by simp only [inI64]; omega, ?_⟩
    refine safe_oth (oth_i87 rfl h1 h2 rfl rfl) trivial ?_
    refine go_ok _ 20 _ _ ?_
    simp only [go_sem, Nat.reduceBEq, Tryd.results43]
    rw [hmd]
  · have hm2 : m = 2 := by have := of_decide_eq_true d3; omega
    refine go_ok _ 30 _ _ ?_
    simp only [go_sem, d3, List.cons_append, List.nil_append, Nat.reduceBEq, Tryd.results43]
    refine ⟨?_, fun h => absurd h (by decide), rfl⟩
    refine Stp.safeOn ?_ trivial
    refine stp_call [] (args := [I y]) rfl rfl rfl ⟨_, Tryd.func52, rfl, rfl⟩ (c52 y h0) rfl (fun _ h => unc_oks h) (by simp [callIdx]) (fun _ _ h => h) ?_
    rintro v hp ⟨rfl, rfl⟩
    rcases hl : Cal.leap y with _ | _
    · have hmd := mdays_other (y := y) (m := m) (fun e => by rw [hl] at e; exact absurd e.2 (by decide))
      refine ⟨trivial, go_ok _ 30 _ _ ?_⟩
      simp only [go_sem, List.cons_append, List.nil_append, Nat.reduceBEq, Tryd.results43]
      refine safe_oth (oth_b87 rfl) trivial ?_
      refine go_ok _ 2 _ _ ?_
      simp only [go_sem, Nat.reduceBEq]
      refine ⟨by simp only [inI64]; omega, ?_⟩
      refine safe_oth (oth_i87 rfl h1 h2 rfl rfl) trivial ?_
      refine go_ok _ 20 _ _ ?_
      simp only [go_sem, Nat.reduceBEq, Tryd.results43]
      rw [hmd]
    · refine ⟨trivial, go_ok _ 30 _ _ ?_⟩
      simp only [go_sem, List.cons_append, List.nil_append, Nat.reduceBEq, Tryd.results43]
      refine ⟨?_, fun h => absurd h (by decide)⟩
      have : Cal.mdays y m = 29 := by
        unfold Cal.mdays
        rw [if_pos hm2, hl]
        rfl
      rw [this]
set_option maxHeartbeats 4000000 in
theorem c32 (y : Int) (m : Nat) (h0 : 0 ≤ y) : Spec Tryd.prog E 32 [I y, I m] [] (fun v hp => v = I (Cal.mdays y m) ∧ hp = []) := by
  refine spec_of (keep := k32) (args' := [I y, I m]) Tryd.func32 rfl Tryd.ntmps32 s32_ok (by simp) ⟨rfl, fun _ h => h⟩ (fun _ _ h => h) (go_ok _ 60 _ _ ?_)
  have f30 : (m = 4 ∨ m = 6 ∨ m = 9 ∨ m = 11) → Cal.mdays y m = 30 := fun h => by
    unfold Cal.mdays
    rw [if_neg (by omega), if_pos h]
  rcases d4 : decide ((m : Int) = 4) with _ | _
  rotate_left
  · simp only [go_sem, s32, k32, d4, Nat.reduceBEq, Nat.zero_add, Tryd.results32]
    rw [f30 (.inl (by have := of_decide_eq_true d4; omega))]
    and_intros <;> first | rfl | (intro h; cases h; done)
  rcases d6 : decide ((m : Int) = 6) with _ | _
  rotate_left
  · simp only [go_sem, s32, k32, d4, d6, Nat.reduceBEq, Nat.zero_add, Tryd.results32]
    rw [f30 (.inr (.inl (by have := of_decide_eq_true d6; omega)))]
    and_intros <;> first | rfl | (intro h; cases h; done)
  rcases d9 : decide ((m : Int) = 9) with _ | _
  rotate_left
  · simp only [go_sem, s32, k32, d4, d6, d9, Nat.reduceBEq, Nat.zero_add, Tryd.results32]
    rw [f30 (.inr (.inr (.inl (by have := of_decide_eq_true d9; omega))))]
    and_intros <;> first | rfl | (intro h; cases h; done)
  rcases d11 : decide ((m : Int) = 11) with _ | _
  rotate_left
  · simp only [go_sem, s32, k32, d4, d6, d9, d11, Nat.reduceBEq, Nat.zero_add, Tryd.results32]
    rw [f30 (.inr (.inr (.inr (by have := of_decide_eq_true d11; omega))))]
    and_intros <;> first | rfl | (intro h; cases h; done)
  have n4 : m ≠ 4 := fun e => of_decide_eq_false d4 (by omega)
  have n6 : m ≠ 6 := fun e => of_decide_eq_false d6 (by omega)
  have n9 : m ≠ 9 := fun e => of_decide_eq_false d9 (by omega)
  have n11 : m ≠ 11 := fun e => of_decide_eq_false d11 (by omega)
  rcases d2 : decide ((m : Int) = 2) with _ | _
  · have n2 : m ≠ 2 := fun e => of_decide_eq_false d2 (by omega)
    rcases d1 : (decide ((m : Int) < 1) || decide (12 < (m : Int))) with _ | _
    · simp only [go_sem, s32, k32, d4, d6, d9, d11, d2, d1, Nat.reduceBEq, Nat.zero_add, Tryd.results32]
      rw [Bool.or_eq_false_iff, decide_eq_false_iff_not, decide_eq_false_iff_not] at d1
      have : Cal.mdays y m = 31 := by
        unfold Cal.mdays
        rw [if_neg n2, if_neg (by omega), if_neg (by omega)]
      rw [this]
    · simp only [go_sem, s32, k32, d4, d6, d9, d11, d2, d1, Nat.reduceBEq, Nat.zero_add, Tryd.results32]
      rw [Bool.or_eq_true, decide_eq_true_eq, decide_eq_true_eq] at d1
      have : Cal.mdays y m = 0 := by
        unfold Cal.mdays
        rw [if_neg n2, if_neg (by omega), if_pos (by omega)]
      rw [this]
      exact ⟨rfl, fun h => absurd h (by decide)⟩
  · have e2 : m = 2 := by have := of_decide_eq_true d2; omega
    simp only [go_sem, s32, k32, d4, d6, d9, d11, d2, Nat.reduceBEq, Nat.zero_add, Tryd.results32]
    refine ⟨?_, fun h => absurd h (by decide)⟩
    refine (stp_call [] (args := [I y]) rfl rfl rfl ⟨_, Tryd.func45, rfl, rfl⟩ (c45 y h0) rfl (fun _ h => h) rfl (fun _ _ h => h) ?_).safe trivial
    rintro v hp ⟨rfl, rfl⟩
    have hmd : Cal.mdays y m = if Cal.leap y = true then 29 else 28 := by
      unfold Cal.mdays
      rw [if_pos e2]
    rw [hmd]
    rcases hl : Cal.leap y with _ | _
    · refine ⟨trivial, go_ok _ 30 _ _ ?_⟩
      simp only [go_sem, List.cons_append, List.nil_append, Nat.reduceBEq, Tryd.results32]
      rfl
    · refine ⟨trivial, go_ok _ 30 _ _ ?_⟩
      simp only [go_sem, List.cons_append, List.nil_append, Nat.reduceBEq, Tryd.results32]
      exact ⟨rfl, fun h => absurd h (by decide)⟩
end Go.SX
