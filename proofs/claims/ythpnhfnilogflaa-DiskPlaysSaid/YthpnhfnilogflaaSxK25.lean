/- The document's disk, as it lies in memory; its small functions. -/
import Derived.Test.YthpnhfnilogflaaSxK24
namespace Go.SX
open Go.Proofs
set_option maxRecDepth 1000000
variable {E : Env}

/-- a file of the document's disk; its bytes are never written again -/
structure RF where
  nm : List UInt8
  a : Option Addr
  cap : Nat
  xs : List UInt8
  syn : Nat
instance : Inhabited RF := ⟨⟨[], none, 0, [], 0⟩⟩
def RF.fs (f : RF) : FS := ⟨f.nm, f.xs, f.syn⟩
def encR (f : RF) : List SV := [T f.nm, vB f.a f.cap f.xs, I f.syn]
@[simp, go_sem] theorem rowsR0 (l : List RF) (i : Nat) : rowsV encR l i 0 = T (l.getD i default).nm := rfl
@[simp, go_sem] theorem rowsR1 (l : List RF) (i : Nat) : rowsV encR l i 1 = vB (l.getD i default).a (l.getD i default).cap (l.getD i default).xs := rfl
@[simp, go_sem] theorem rowsR2 (l : List RF) (i : Nat) : rowsV encR l i 2 = I (l.getD i default).syn := rfl
structure RS where
  room : Int
  did : Int
  left : Int
  dead : Bool
  nl : Bool
  fb : Nat
  off : Nat
  cap : Nat
  L : List RF
@[go_sem] def rO (b : Nat) (r : RS) : List Chunk := [.cells b 63 [.osl 1 r.nl r.fb r.off r.L.length r.cap, I r.room, I r.did, I r.left, Bl r.dead], .row r.nl r.fb 82 r.off 3 r.L.length r.cap (rowsV encR r.L)]
theorem onesR {sz : Nat} (h : sz = 3) (l : List RF) (n : Nat) : onesF (rowsV encR l) n sz := by
  subst h
  exact onesF_rows fun x => ⟨rfl, by simp [encR, ones, one, Value.oneCell']⟩

/-- the byte's test, as the reference spells it -/
theorem okc_ref (c : UInt8) : (((decide ((c.toNat : Int) < 97) || decide (122 < (c.toNat : Int))) && (decide ((c.toNat : Int) < 48) || decide (57 < (c.toNat : Int))) && decide ((c.toNat : Int) ≠ 46)) && decide ((c.toNat : Int) ≠ 45)) = !okc c.toNat := by
  simp only [okc, Bool.not_not]
theorem c34 (x : List UInt8) (hx : x.length < 2 ^ 62) : Spec Try.prog E 34 [T x] [] (fun v hp => v = Bl (nameB x) ∧ hp = []) := by
  refine Spec.leave (Post := fun v hp => v = Bl (nameB x) ∧ ∃ X, hp = X) ?_ (fun v hp ⟨h1, X, h2⟩ => ⟨[], X, by simpa using h2, h1, rfl⟩)
  refine spec_of (keep := k34) (args' := [T x]) Try.func34 rfl Try.ntmps34 s34_ok (by simp) ⟨rfl, fun _ h => h⟩ (fun _ _ h => h) (go_ok _ 100 _ _ ?_)
  simp only [go_sem, s34, k34, Nat.reduceBEq]
  refine safe_loop (ι := {p : Nat // p ≤ x.length ∧ ∀ i, i < p → okc ((x.getD i default).toNat) = true}) (fun p => ⟨[(0, T x), (3, I p.1)], []⟩) (fun p => x.length - p.1) ⟨0, Nat.zero_le _, fun i hi => absurd hi (by omega)⟩
    (Sub.front (X := []) ⟨rfl, rfl, trivial⟩ rfl) ?_
  rintro ⟨p, hp, hok⟩
  refine go_ok _ 100 _ _ ?_
  simp only [go_sem, Nat.reduceBEq, Try.results34]
  have ebt : bt ⟨x.toArray⟩ (p : Int) = ((x.getD p default).toNat : Nat) := by
    unfold bt
    rw [Int.toNat_natCast]
    rfl
  simp only [ebt]
  have ek := okc_ref (x.getD p default)
  refine ⟨fun h => ?_, fun h => ?_⟩
  · have hlt : p < x.length := by simpa using h
    have hgd : x.getD p default = x[p] := by simp [List.getD_eq_getElem?_getD, hlt]
    refine ⟨⟨by omega, by simpa using h⟩, fun h1 => ⟨h1, fun h2 => by rw [h1, h2]; rfl⟩, fun h1 => ⟨?_, _, rfl⟩, fun h1 => ⟨by simp only [inI64]; omega, ?_⟩⟩
    · rw [ek] at h1
      have : nameB x = false := by
        unfold nameB
        have : x.all (fun c => okc c.toNat) = false := List.all_eq_false.2 ⟨x[p], List.getElem_mem hlt, by rw [← hgd]; simpa using h1⟩
        rw [this]; rfl
      rw [this]
    · rw [ek] at h1
      refine safe_lend ⟨p + 1, hlt, fun i hi => ?_⟩ (by simp only; omega) (Sub.front (X := []) ⟨rfl, rfl, trivial⟩ rfl)
      rcases Nat.lt_or_ge i p with h3 | h3
      · exact hok i h3
      · obtain rfl : i = p := by omega
        simpa using h1
  · have hpl : p = x.length := by have := of_decide_eq_false h; simp at this; omega
    refine ⟨?_, _, rfl⟩
    have : x.all (fun c => okc c.toNat) = true := by
      rw [List.all_eq_true]
      intro c hc
      obtain ⟨i, hi, rfl⟩ := List.getElem_of_mem hc
      have := hok i (by omega)
      rw [List.getD_eq_getElem?_getD, List.getElem?_eq_getElem hi] at this
      exact this
    unfold nameB
    rw [this]
    simp only [Bool.true_and, List.size_toArray]
    congr 2

/-- Used -/
theorem c32 (b : Nat) (r : RS) (hu : (r.L.map fun f => f.xs.length).sum < 2 ^ 62) (hl : r.L.length < 2 ^ 62) : Spec Try.prog E 32 [.ptr 0 b 0] (rO b r) (fun v hp => v = I ((r.L.map fun f => f.xs.length).sum : Nat) ∧ hp = rO b r) := by
  refine spec_of (keep := k32) (args' := [.ptr 0 b 0]) Try.func32 rfl Try.ntmps32 s32_ok (by simp) ⟨rfl, fun _ h => h⟩ (fun _ _ h => h) (go_ok _ 100 _ _ ?_)
  simp only [go_sem, s32, k32, Nat.reduceBEq]
  refine safe_loop (ι := {p : Nat // p ≤ r.L.length}) (fun p => ⟨[(0, .ptr 0 b 0), (3, I (((r.L.take p.1).map fun f => f.xs.length).sum : Nat)), (4, I p.1)], rO b r⟩) (fun p => r.L.length - p.1) ⟨0, Nat.zero_le _⟩
    (Sub.front (X := []) ⟨rfl, rfl, rfl, trivial⟩ rfl) ?_
  rintro ⟨p, hp⟩
  refine go_ok _ 100 _ _ ?_
  simp only [go_sem, Nat.reduceBEq, Nat.zero_add, Try.results32, Int.toNat_natCast]
  have hle : ((r.L.take p).map fun f => f.xs.length).sum ≤ (r.L.map fun f => f.xs.length).sum := by
    conv => rhs; rw [← List.take_append_drop p r.L]
    rw [List.map_append, List.sum_append]
    omega
  refine ⟨fun h => ?_, fun h => ?_⟩
  · have hlt : p < r.L.length := by simpa using h
    have e1 : ((r.L.take (p + 1)).map fun f => f.xs.length).sum = ((r.L.take p).map fun f => f.xs.length).sum + (r.L.getD p default).xs.length := by
      rw [List.take_add_one, List.getElem?_eq_getElem hlt, List.map_append, List.sum_append]
      congr 1
      simp [List.getD_eq_getElem?_getD, hlt]
    have hle2 : ((r.L.take (p + 1)).map fun f => f.xs.length).sum ≤ (r.L.map fun f => f.xs.length).sum := by
      conv => rhs; rw [← List.take_append_drop (p + 1) r.L]
      rw [List.map_append, List.sum_append]
      omega
    refine ⟨by omega, ⟨hlt, by decide⟩, by simp only [inI64]; omega, by simp only [inI64]; omega, ?_⟩
    exact safe_lend ⟨p + 1, hlt⟩ (by simp only; omega) (Sub.front (X := []) ⟨rfl, by rw [e1]; rfl, rfl, trivial⟩ rfl)
  · have hpl : p = r.L.length := by have := of_decide_eq_false h; omega
    subst hpl
    rw [List.take_length]

theorem bytes_ne2 {x y : List UInt8} (h : decide ((⟨x.toArray⟩ : ByteArray) = ⟨y.toArray⟩) = false) : x ≠ y := fun e => by simp [e] at h
/-- where a file stands -/
def fndR : List RF → List UInt8 → Option Nat
  | [], _ => none
  | f :: r, x => if f.nm = x then some 0 else (fndR r x).map (· + 1)
def atV (l : List RF) (x : List UInt8) : Int := match fndR l x with | none => -1 | some i => i
theorem fndR_ge {x : List UInt8} : ∀ {l : List RF} {p : Nat}, (∀ i, i < p → (l.getD i default).nm ≠ x) → p < l.length → (l.getD p default).nm = x → fndR l x = some p
  | [], _, _, h, _ => by simp at h
  | f :: r, 0, _, _, h => by simp [fndR] at h ⊢; exact h
  | f :: r, p + 1, h, h2, h3 => by
    have h0 := h 0 (by omega)
    simp only [List.getD_cons_zero] at h0
    unfold fndR
    rw [if_neg h0, fndR_ge (p := p) (fun i hi => by simpa using h (i + 1) (by omega)) (by simpa using h2) (by simpa using h3)]
    rfl
theorem fndR_no {x : List UInt8} : ∀ {l : List RF}, (∀ i, i < l.length → (l.getD i default).nm ≠ x) → fndR l x = none
  | [], _ => rfl
  | f :: r, h => by
    have h0 := h 0 (by simp)
    simp only [List.getD_cons_zero] at h0
    unfold fndR
    rw [if_neg h0, fndR_no (l := r) (fun i hi => by simpa using h (i + 1) (by simpa using hi))]
    rfl
theorem c42 (b : Nat) (r : RS) (x : List UInt8) (hl : r.L.length < 2 ^ 62) : Spec Try.prog E 42 [.ptr 0 b 0, T x] (rO b r) (fun v hp => v = I (atV r.L x) ∧ hp = rO b r) := by
  refine spec_of (keep := k42) (args' := [.ptr 0 b 0, T x]) Try.func42 rfl Try.ntmps42 s42_ok (by simp) ⟨rfl, fun _ h => h⟩ (fun _ _ h => h) (go_ok _ 100 _ _ ?_)
  simp only [go_sem, s42, k42, Nat.reduceBEq, Nat.zero_add]
  refine safe_loop (ι := {p : Nat // p ≤ r.L.length ∧ ∀ i, i < p → (r.L.getD i default).nm ≠ x}) (fun p => ⟨[(0, .ptr 0 b 0), (1, T x), (5, I p.1)], rO b r⟩) (fun p => r.L.length - p.1) ⟨0, Nat.zero_le _, fun i hi => absurd hi (by omega)⟩
    (Sub.front (X := []) ⟨rfl, rfl, rfl, trivial⟩ rfl) ?_
  rintro ⟨p, hp, hno⟩
  refine go_ok _ 100 _ _ ?_
  simp only [go_sem, Nat.reduceBEq, Nat.zero_add, Try.results42, Int.toNat_natCast]
  refine ⟨fun h => ?_, fun h => ?_⟩
  · have hlt : p < r.L.length := by simpa using h
    refine ⟨by omega, ⟨hlt, by decide⟩, fun h1 => ?_, fun h1 => ⟨by simp only [inI64]; omega, ?_⟩⟩
    · have h1 : (r.L.getD p default).nm = x := by simpa using h1
      rw [atV, fndR_ge hno hlt h1]
    · have h1 := bytes_ne2 h1
      refine safe_lend ⟨p + 1, hlt, fun i hi => ?_⟩ (by simp only; omega) (Sub.front (X := []) ⟨rfl, rfl, rfl, trivial⟩ rfl)
      rcases Nat.lt_or_ge i p with h3 | h3
      · exact hno i h3
      · obtain rfl : i = p := by omega
        exact h1
  · have hpl : p = r.L.length := by have := of_decide_eq_false h; omega
    rw [atV, fndR_no (by rw [← hpl]; exact hno)]

/-- begin -/
def RS.begun (r : RS) : RS := if r.dead then r else if 0 < r.left then (if r.left - 1 = 0 then { r with left := r.left - 1, dead := true } else { r with left := r.left - 1, did := r.did + 1 }) else { r with did := r.did + 1 }
theorem c41 (b : Nat) (r : RS) (hd : 0 ≤ r.did ∧ r.did < 2 ^ 62) (hl : inI64 r.left) : Spec Try.prog E 41 [.ptr 0 b 0] (rO b r) (fun v hp => v = Bl (!r.begun.dead) ∧ hp = rO b r.begun) := by
  refine spec_of (keep := k41) (args' := [.ptr 0 b 0]) Try.func41 rfl Try.ntmps41 s41_ok (by simp) ⟨rfl, fun _ h => h⟩ (fun _ _ h => h) (go_ok _ 100 _ _ ?_)
  simp only [go_sem, s41, k41, Nat.reduceBEq, Nat.zero_add, Try.results41]
  simp only [inI64] at hl ⊢
  refine ⟨fun h => ?_, fun h => ⟨fun h1 => ⟨by simp only [decide_eq_true_eq] at h1; omega, fun h2 => ?_, fun h2 => ⟨by omega, ?_⟩⟩, fun h1 => ⟨by omega, ?_⟩⟩⟩
  · have e : r.begun = r := by unfold RS.begun; rw [if_pos h]
    rw [e, h]; exact ⟨rfl, rfl⟩
  · simp only [decide_eq_true_eq] at h1 h2
    have e : r.begun = { r with left := r.left - 1, dead := true } := by unfold RS.begun; rw [if_neg (by simp [h]), if_pos h1, if_pos h2]
    rw [e]; exact ⟨rfl, rfl⟩
  · simp only [decide_eq_true_eq] at h1
    have h2 := of_decide_eq_false h2
    have e : r.begun = { r with left := r.left - 1, did := r.did + 1 } := by unfold RS.begun; rw [if_neg (by simp [h]), if_pos h1, if_neg h2]
    rw [e, h]; exact ⟨rfl, rfl⟩
  · have h1 := of_decide_eq_false h1
    have e : r.begun = { r with did := r.did + 1 } := by unfold RS.begun; rw [if_neg (by simp [h]), if_neg h1]
    rw [e, h]; exact ⟨rfl, rfl⟩
theorem c23 (n : Int) (c : Nat) : Spec Try.prog E 23 [I n] [] (fun v hp => (n < 0 ∧ v = .tup [.val (.pointer none), I 1] ∧ hp = []) ∨ (0 ≤ n ∧ ∃ b, v = .tup [.ptr c b 0, I 0] ∧ hp = rO b ⟨n, 0, 0, false, true, 0, 0, 0, []⟩)) := by
  refine Spec.sees (Post := fun v hp => (n < 0 ∧ v = .tup [.val (.pointer none), I 1] ∧ hp = []) ∨ (0 ≤ n ∧ ∃ b, v = .tup [.ptr 0 b 0, I 0] ∧ hp = [.cells b 63 [nilS, I n, I 0, I 0, Bl false]])) ?_ fun v hp h => ?_
  · refine spec_of (keep := k23) (args' := [I n]) Try.func23 rfl Try.ntmps23 s23_ok (by simp) ⟨rfl, fun _ h => h⟩ (fun _ _ h => h) (go_ok _ 100 _ _ ?_)
    simp only [go_sem, s23, k23, Nat.reduceBEq, Nat.zero_add, Try.results23]
    refine ⟨fun h => .inl (by simpa using h), fun h b => .inr ⟨by have := of_decide_eq_false h; omega, b, rfl, rfl⟩⟩
  · rcases h with ⟨h0, rfl, rfl⟩ | ⟨h0, b, rfl, rfl⟩
    · exact ⟨_, [], rfl, fun _ h => h, Sees.refl _, Or.inl ⟨h0, rfl, rfl⟩⟩
    · refine ⟨.tup [.ptr c b 0, I 0], rO b ⟨n, 0, 0, false, true, 0, 0, 0, []⟩, rfl, fun _ _ => by simp [SV.ok, SV.oks], ?_, .inr ⟨h0, b, rfl, rfl⟩⟩
      refine Sees.trans (Sees.cons (y := .cells b 63 [.osl 1 true 0 0 0 0, I n, I 0, I 0, Bl false]) (fun ro H h => ⟨H, [], by simp, ⟨h.1, by simp [SV.oks, SV.ok]⟩⟩) (Sees.refl [])) ?_
      exact Sees.same (Sees.new (fun ro => rowB_nil ro 0 82 0 3 (rowsV encR [])) (Sees.refl []))
theorem c30 (b : Nat) (r : RS) (n : Int) : Spec Try.prog E 30 [.ptr 0 b 0, I n] (rO b r) (fun v hp => v = .tup [] ∧ hp = rO b { r with left := max n 0 }) := by
  refine spec_of (keep := k30) (args' := [.ptr 0 b 0, I n]) Try.func30 rfl Try.ntmps30 s30_ok (by simp) ⟨rfl, fun _ h => h⟩ (fun _ _ h => h) (go_ok _ 100 _ _ ?_)
  simp only [go_sem, s30, k30, Nat.reduceBEq, Nat.zero_add, Try.results30]
end Go.SX

/- The document's disk: lists of files with one, without one. -/
namespace Go.SX
open Go.Proofs
set_option maxRecDepth 1000000
variable {E : Env}

def withoutR (l : List RF) (x : List UInt8) : List RF := l.filter fun f => decide (f.nm ≠ x)
theorem take_succ' {l : List RF} {p : Nat} (h : p < l.length) : l.take (p + 1) = l.take p ++ [l.getD p default] := by
  rw [List.take_add_one, List.getElem?_eq_getElem h]
  simp [List.getD_eq_getElem?_getD, h]
theorem without_succ {l : List RF} {x : List UInt8} {p : Nat} (h : p < l.length) : withoutR (l.take (p + 1)) x = if (l.getD p default).nm = x then withoutR (l.take p) x else withoutR (l.take p) x ++ [l.getD p default] := by
  rw [take_succ' h, withoutR, List.filter_append, ← withoutR]
  by_cases hx : (l.getD p default).nm = x
  · rw [if_pos hx, List.filter_cons, if_neg (by simp only [hx]; simp)]; simp
  · rw [if_neg hx, List.filter_cons, if_pos (by simp only [ne_eq, decide_eq_true_eq]; exact hx)]; rfl
theorem without_le (l : List RF) (x : List UInt8) : (withoutR l x).length ≤ l.length := List.length_filter_le _ _
structure W45 (l : List RF) where
  p : Nat
  nl : Bool
  fb : Nat
  off : Nat
  cap : Nat
  hp : p ≤ l.length
theorem c45 (c : Nat) (nl : Bool) (fb off cap : Nat) (l : List RF) (x : List UInt8) (hl : l.length ≤ 2 ^ 30) : Spec Try.prog E 45 [.osl 0 nl fb off l.length cap, T x] [.row nl fb 82 off 3 l.length cap (rowsV encR l)]
    (fun v hp => ∃ nl' fb' off' cap', v = .osl c nl' fb' off' (withoutR l x).length cap' ∧ hp = [.row nl fb 82 off 3 l.length cap (rowsV encR l), .row nl' fb' 82 off' 3 (withoutR l x).length cap' (rowsV encR (withoutR l x))]) := by
  refine Spec.sees (Post := fun v hp => ∃ nl' fb' off' cap' X, v = .osl 1 nl' fb' off' (withoutR l x).length cap' ∧ hp = [.row nl fb 82 off 3 l.length cap (rowsV encR l), .row nl' fb' 82 off' 3 (withoutR l x).length cap' (rowsV encR (withoutR l x))] ++ X) ?_ ?_
  · refine spec_of (keep := k45) (args' := [.osl 0 nl fb off l.length cap, T x]) Try.func45 rfl Try.ntmps45 s45_ok (by simp) ⟨rfl, fun _ h => h⟩ (fun _ _ h => h) (go_ok _ 100 _ _ ?_)
    simp only [go_sem, s45, k45, Nat.reduceBEq, Nat.zero_add]
    refine safe_nilrow 0 82 0 3 (rowsV encR []) (env' := [(0, .osl 0 nl fb off l.length cap), (1, T x), (4, nilS), (5, .osl 1 true 0 0 0 0), (6, I 0)]) ⟨rfl, .inl rfl, rfl, .inl rfl, rfl, .inl rfl, rfl, .inr ⟨⟨_, _, rfl⟩, rfl⟩, rfl, .inl rfl, trivial⟩ ?_
    refine safe_loop (ι := W45 l) (fun g => ⟨[(0, .osl 0 nl fb off l.length cap), (1, T x), (5, .osl 1 g.nl g.fb g.off (withoutR (l.take g.p) x).length g.cap), (6, I g.p)], [.row nl fb 82 off 3 l.length cap (rowsV encR l), .row g.nl g.fb 82 g.off 3 (withoutR (l.take g.p) x).length g.cap (rowsV encR (withoutR (l.take g.p) x))]⟩) (fun g => l.length - g.p)
      ⟨0, true, 0, 0, 0, Nat.zero_le _⟩ (Sub.front (X := []) ⟨rfl, rfl, rfl, rfl, trivial⟩ rfl) ?_
    intro g
    have hgp := g.hp
    refine go_ok _ 100 _ _ ?_
    simp only [go_sem, Nat.reduceBEq, Nat.reduceAdd, Nat.zero_add, Try.results45, Int.toNat_natCast]
    refine ⟨fun h => ?_, fun h => ?_⟩
    · have hlt : g.p < l.length := by simpa using h
      have hs := without_succ (x := x) hlt
      refine ⟨by omega, ⟨hlt, by decide⟩, fun h1 => ⟨by omega, ⟨hlt, by decide⟩, fun b2 => ?_⟩, fun h1 => ⟨by simp only [inI64]; omega, ?_⟩⟩
      · rw [if_neg (by simpa using h1)] at hs
        have hw := without_le (l.take g.p) x
        have hwl : (l.take g.p).length ≤ g.p := by simp; omega
        generalize withoutR (l.take g.p) x = acc at hs hw ⊢
        generalize l.getD g.p default = f at hs ⊢
        refine (stp_app2 (c := 1) (b := g.fb) (off := g.off) (nl := g.nl) (n := acc.length) (cap := g.cap) (x := .osl 2 false b2 0 1 1) (gx := litF 3 (encR f)) (m := 1) (f := rowsV encR acc) (f2 := rowsV encR (acc ++ [f])) (N := (acc ++ [f]).length) rfl rfl rfl rfl ⟨rfl, rfl, rfl, rfl, Nat.le_refl _⟩
          (fun i j hi hj => ?_) (by omega) (by simp) (fun i j hi hj => app_one i j (by simpa using hi) hj) fun nl' b' off' cap' => ?_).safe trivial
        · obtain rfl : i = 0 := by omega
          rcases j with _ | _ | _ | j <;> first | omega | (simp [litF, encR, one, Value.oneCell'])
        refine ⟨trivial, go_ok _ 100 _ _ ?_⟩
        simp only [go_sem, Nat.reduceBEq]
        refine ⟨by simp only [inI64]; omega, ?_⟩
        exact safe_lend ⟨g.p + 1, nl', b', off', cap', hlt⟩ (by simp only; omega) (Sub.front (X := [_]) ⟨rfl, rfl, by simp only [hs]; rfl, rfl, trivial⟩ (by simp only [hs]; rfl))
      · rw [if_pos (by simpa using h1)] at hs
        exact safe_lend ⟨g.p + 1, g.nl, g.fb, g.off, g.cap, hlt⟩ (by simp only; omega) (Sub.front (X := []) ⟨rfl, rfl, by simp only [hs]; rfl, rfl, trivial⟩ (by simp only [hs]; rfl))
    · have hpl : g.p = l.length := by have := of_decide_eq_false h; omega
      rw [hpl, List.take_length]
      exact ⟨g.nl, g.fb, g.off, g.cap, [], rfl, rfl⟩
  · rintro v hp ⟨nl', fb', off', cap', X, rfl, rfl⟩
    exact ⟨.osl c nl' fb' off' (withoutR l x).length cap', _, rfl, fun _ _ => by simp only [SV.ok], Sees.left, nl', fb', off', cap', rfl, rfl⟩
end Go.SX

