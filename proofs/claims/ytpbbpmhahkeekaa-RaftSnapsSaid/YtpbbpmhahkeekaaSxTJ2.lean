/- Joined texts: T4 T5 T6 T7. -/
import Derived.Test.YtpbbpmhahkeekaaSxTJ1
import Derived.Laws.Bits64b
import Derived.Test.YtpbbpmhahkeekaaSxZ
/- Raft: voters in bytes (joined out of R24-R27). -/
/- Contracts of the raft laws: numbers within bounds; voters written. -/
namespace Go.SX
open Go.Proofs
set_option maxRecDepth 1000000
variable {E : Env}

theorem tmod_emod {x n : Int} (h : 0 < n) : (if Int.tmod x n < 0 then Int.tmod x n + n else Int.tmod x n) = x % n := by
  have h1 := Int.mul_tdiv_add_tmod x n
  have hlt : Int.tmod x n < n := Int.tmod_lt_of_pos x h
  have hgt : -n < Int.tmod x n := Int.neg_lt_of_neg_lt (Int.neg_tmod x n ▸ Int.tmod_lt_of_pos (-x) h)
  have e : x % n = Int.tmod x n % n := by
    conv => lhs; rw [← h1]
    rw [Int.add_comm, Int.add_mul_emod_self_left]
  rw [e]
  split
  · rw [← Int.add_emod_right, Int.emod_eq_of_lt (by omega) (by omega)]
  · rw [Int.emod_eq_of_lt (by omega) hlt]

theorem c21 (x n : Int) (h : 0 < n) (hn : n ≤ 2 ^ 62) : Spec Try.prog E 21 [I x, I n] [] (fun v hp => v = I (x % n) ∧ hp = []) := by
  have hlt : Int.tmod x n < n := Int.tmod_lt_of_pos x h
  have hgt : -n < Int.tmod x n := Int.neg_lt_of_neg_lt (Int.neg_tmod x n ▸ Int.tmod_lt_of_pos (-x) h)
  refine spec_of (keep := k21) (args' := [I x, I n]) Try.func21 rfl Try.ntmps21 s21_ok (by simp) ⟨rfl, fun _ h => h⟩ (fun _ _ h => h) (go_ok _ 100 _ _ ?_)
  simp only [go_sem, s21, k21, Nat.reduceBEq, Nat.reduceAdd, Nat.zero_add, Try.results21]
  have e := tmod_emod (x := x) h
  refine ⟨by omega, fun hc => ⟨by simp only [inI64]; omega, ?_⟩, fun hc => ?_⟩
  · rw [if_pos (by simpa using hc)] at e
    rw [e]
  · rw [if_neg (by simpa using hc)] at e
    rw [e]

/-- the byte of a number -/
def by8 (n : Int) : UInt8 := UInt8.ofNat (n % 256).toNat
theorem by8_val (n : Int) : ((by8 n).toNat : Int) = IntKind.u8.wrap n := by
  rw [IntKind.wrap_u8']
  simp only [by8, UInt8.toNat_ofNat']
  omega
/-- a number's first bytes, most significant first -/
def be8 (x : Int) (j : Nat) : List UInt8 := (List.range j).map fun m : Nat => by8 (shrI .i64 x (8 * (7 - (m : Int))))
theorem be8_len (x : Int) (j : Nat) : (be8 x j).length = j := by simp [be8]
theorem be8_succ (x : Int) (j : Nat) : be8 x (j + 1) = be8 x j ++ [by8 (shrI .i64 x (8 * (7 - (j : Int))))] := by simp [be8, List.range_succ]
def encV (xs : List Int) : List UInt8 := by8 xs.length :: xs.flatMap fun x => be8 x 8
def encVp (xs : List Int) (i : Nat) : List UInt8 := by8 xs.length :: (xs.take i).flatMap fun x => be8 x 8
theorem encVp_len (xs : List Int) : ∀ i, i ≤ xs.length → (encVp xs i).length = 1 + 8 * i := by
  intro i
  induction i with
  | zero => intro _; simp [encVp]
  | succ i ih =>
    intro hi
    have := ih (by omega)
    simp only [encVp, List.length_cons] at this ⊢
    rw [List.take_add_one, List.flatMap_append, List.length_append]
    simp only [List.getElem?_eq_getElem (show i < xs.length by omega), Option.toList_some, List.flatMap_cons, List.flatMap_nil, List.append_nil, be8_len]
    omega
theorem encVp_succ (xs : List Int) (i : Nat) (hi : i < xs.length) : encVp xs (i + 1) = encVp xs i ++ be8 (xs.getD i 0) 8 := by
  simp only [encVp]
  rw [List.take_add_one, List.flatMap_append]
  simp [List.getElem?_eq_getElem hi, List.getD_eq_getElem?_getD]

/-- a byte more -/
theorem app_byte {ys : List UInt8} {b : UInt8} {v : SV} (hv : v = .val (.int .u8 ((b.toNat : Nat) : Int))) : ∀ i j, i < ys.length + 1 → j < 1 → appF (rowsV encB ys) ys.length (litF 1 [v]) i j = rowsV encB (ys ++ [b]) i j := by
  intro i j hi hj
  obtain rfl : j = 0 := by omega
  rw [← appF_rows]
  unfold appF
  cases h : Nat.blt i ys.length with
  | true => simp only [cond_true]
  | false =>
    simp only [cond_false]
    have : ys.length ≤ i := by
      rcases Nat.lt_or_ge i ys.length with h' | h'
      · rw [← Nat.blt_eq, h] at h'
        cases h'
      · exact h'
    rw [show i - ys.length = 0 by omega]
    subst hv
    rfl

theorem c49 (a : Option Addr) (cap : Nat) (xs : List Int) (hl : xs.length ≤ 1000) : Spec Try.prog E 49 [vI a cap xs] [] (fun v hp => hp = [] ∧ ∃ a' cap', v = vB a' cap' (encV xs)) := by
  refine Spec.frz (Post := fun v hp => ∃ (nl : Bool) (b off cap' : Nat) (X : List Chunk), v = .osl 0 nl b off (encV xs).length cap' ∧ hp = .row nl b 5 off 1 (encV xs).length cap' (rowsV encB (encV xs)) :: X) ?_ (fun v hp ⟨nl, b, off, cap', X, h1, h2⟩ => .inr ⟨0, nl, b, 5, off, 1, _, cap', _, h1, ⟨X, h2⟩, rfl, _, _, rfl⟩)
  refine spec_of (keep := k49) (args' := [vI a cap xs]) Try.func49 rfl Try.ntmps49 s49_ok (by simp) ⟨rfl, fun _ h => h⟩ (fun _ _ h => h) (go_ok _ 100 _ _ ?_)
  simp only [go_sem, s49, k49, Nat.reduceBEq, Nat.reduceAdd, Nat.zero_add]
  intro b0
  refine safe_loop (ι := {p : Nat × Bool × Nat × Nat × Nat // p.1 ≤ xs.length}) (fun p => ⟨[(0, vI a cap xs), (3, .osl 0 p.1.2.1 p.1.2.2.1 p.1.2.2.2.1 (encVp xs p.1.1).length p.1.2.2.2.2), (4, I p.1.1)], [.row p.1.2.1 p.1.2.2.1 5 p.1.2.2.2.1 1 (encVp xs p.1.1).length p.1.2.2.2.2 (rowsV encB (encVp xs p.1.1))]⟩)
    (fun p => xs.length - p.1.1) ⟨(0, false, b0, 0, 1), Nat.zero_le _⟩ (Sub.heap (by simp [envSub, look, encVp]) ?_) ?_
  · intro ro H h
    refine hsat_set (hp := [.row false b0 5 0 1 1 1 _]) 0 (fun H hh => row_congr (fun i j hi hj => ?_) hh) h
    have hi : i < 1 := hi
    obtain rfl : i = 0 := by omega
    obtain rfl : j = 0 := by omega
    simp only [litF, encVp, rowsV, encB, List.take_zero, List.flatMap_nil, List.getD_cons_zero, Nat.zero_mul, Nat.zero_add, by8_val]
  rintro ⟨⟨i, nl, b, off, cp⟩, hi⟩
  simp only at hi
  refine go_ok _ 100 _ _ ?_
  simp only [go_sem, Nat.reduceBEq, Nat.reduceAdd, Nat.zero_add, Try.results49]
  refine ⟨fun h => ?_, fun h => ?_⟩
  · have hlt : i < xs.length := by simpa using h
    have hlen := encVp_len xs i hi
    refine safe_loop (ι := {p : Nat × Bool × Nat × Nat × Nat // p.1 ≤ 8}) (fun p => ⟨[(0, vI a cap xs), (3, .osl 0 p.1.2.1 p.1.2.2.1 p.1.2.2.2.1 (encVp xs i ++ be8 (xs.getD i 0) p.1.1).length p.1.2.2.2.2), (4, I i), (5, I (7 - (p.1.1 : Int)))],
        [.row p.1.2.1 p.1.2.2.1 5 p.1.2.2.2.1 1 (encVp xs i ++ be8 (xs.getD i 0) p.1.1).length p.1.2.2.2.2 (rowsV encB (encVp xs i ++ be8 (xs.getD i 0) p.1.1))]⟩)
      (fun p => 8 - p.1.1) ⟨(0, nl, b, off, cp), Nat.zero_le _⟩ (Sub.front (X := []) (by simp [envSub, look, be8]) (by simp [be8])) ?_
    rintro ⟨⟨j, nl2, b2, off2, cp2⟩, hj⟩
    simp only at hj
    refine go_ok _ 100 _ _ ?_
    simp only [go_sem, Nat.reduceBEq, Nat.reduceAdd, Nat.zero_add, Try.results49, Int.toNat_natCast]
    refine ⟨fun h2 => ?_, fun h2 => ?_⟩
    · have hj8 : j < 8 := by simp at h2; omega
      have hjl := be8_len (xs.getD i 0) j
      have hyl : (encVp xs i ++ be8 (xs.getD i 0) j).length ≤ 10000 := by simp only [List.length_append, hlen, hjl]; omega
      refine ⟨by omega, by omega, by simp only [inI64]; omega, by omega, fun b1 => ?_⟩
      refine (stp_app2 (c := 0) (x := .osl 1 false b1 0 1 1) (N := (encVp xs i ++ be8 (xs.getD i 0) (j + 1)).length) (f2 := rowsV encB (encVp xs i ++ be8 (xs.getD i 0) (j + 1))) (gx := litF 1 [.val (.int .u8 (IntKind.u8.wrap (shrI .i64 (xs.getD i 0) (8 * (7 - (j : Int))))))]) rfl rfl rfl rfl ⟨rfl, rfl, rfl, rfl, by decide⟩ (fun i j hi hj => ?_) (by omega)
        (by simp [be8_len]; omega) (fun i' j' hi' hj' => ?_) fun nl' b' off' cap' => ?_).safe trivial
      · obtain rfl : i = 0 := by omega
        obtain rfl : j = 0 := by omega
        simp [litF, one, Value.oneCell']
      · rw [be8_succ, ← List.append_assoc]
        exact app_byte (ys := encVp xs i ++ be8 (xs.getD i 0) j) (b := by8 (shrI .i64 (xs.getD i 0) (8 * (7 - (j : Int))))) (by rw [by8_val]) i' j' (by simp [be8_len] at hi' ⊢; omega) hj'
      refine ⟨trivial, go_ok _ 100 _ _ ?_⟩
      simp only [go_sem, Nat.reduceBEq, Nat.reduceAdd, Nat.zero_add]
      refine ⟨by simp only [inI64]; omega, ?_⟩
      refine safe_lend ⟨(j + 1, nl', b', off', cap'), by simp only; omega⟩ (by simp only; omega) (Sub.front (X := [_]) ?_ rfl)
      simp only [envSub, look, go_sem, Nat.reduceBEq, and_true, Option.some.injEq]
      congr 2
      omega
    · have hj8 : j = 8 := by simp at h2; omega
      subst hj8
      refine ⟨by simp only [inI64]; omega, ?_⟩
      refine safe_lend ⟨(i + 1, nl2, b2, off2, cp2), hlt⟩ (by simp only; omega) (Sub.front (X := []) (by simp [envSub, look, encVp_succ xs i hlt]) (by simp [encVp_succ xs i hlt]))
  · have hi' : i = xs.length := by simp at h; omega
    subst hi'
    have : encVp xs xs.length = encV xs := by simp [encVp, encV]
    rw [this]
    exact ⟨nl, b, off, cp, [], rfl, rfl⟩
end Go.SX

/- Contracts of the raft package: voters read; whether an entry may be; rows of entries. -/
namespace Go.SX
open Go.Proofs
set_option maxRecDepth 1000000
variable {E : Env}

/-- a number out of bytes, most significant first -/
def beN (l : List UInt8) : Nat := l.foldl (fun n x => n * 256 + x.toNat) 0
theorem beN_snoc (l : List UInt8) (x : UInt8) : beN (l ++ [x]) = beN l * 256 + x.toNat := by simp [beN]
theorem beN_lt : ∀ l : List UInt8, beN l < 256 ^ l.length := by
  intro l
  have : ∀ l : List UInt8, ∀ n, l.foldl (fun n x => n * 256 + x.toNat) n < (n + 1) * 256 ^ l.length := by
    intro l
    induction l with
    | nil => intro n; simp
    | cons x l ih =>
      intro n
      rw [List.foldl_cons, List.length_cons, Nat.pow_succ]
      refine Nat.lt_of_lt_of_le (ih _) ?_
      have hx := x.toNat_lt
      rw [Nat.mul_comm (256 ^ l.length) 256, ← Nat.mul_assoc]
      exact Nat.mul_le_mul_right _ (by omega)
  simpa [beN] using this l 0

theorem shl_or {n x : Nat} (hn : n < 2 ^ 56) (hx : x < 256) : bitsI .or .u64 (shlI .u64 (n : Int) 8) (IntKind.u64.wrap (x : Int)) = ((n * 256 + x : Nat) : Int) := by
  have e1 : shlI .u64 (n : Int) 8 = ((n * 256 : Nat) : Int) := by
    unfold shlI
    rw [IntKind.wrap_u64]
    have : min (Int.toNat 8) (IntKind.u64.bits) = 8 := by decide
    rw [this]
    omega
  have e2 : IntKind.u64.wrap (x : Int) = (x : Int) := by rw [IntKind.wrap_u64]; omega
  rw [e1, e2]
  have h := bits_or_u64_nat (n * 256) x (by omega) (by omega)
  have h3 : n * 256 ||| x = n * 256 + x := by
    have h4 : n * 256 = n <<< 8 := by rw [Nat.shiftLeft_eq]
    rw [h4, ← Nat.shiftLeft_add_eq_or_of_lt (by omega : x < 2 ^ 8)]
  rw [h3] at h
  exact h
end Go.SX

/- Contracts of the raft package: voters read. -/
namespace Go.SX
open Go.Proofs
set_option maxRecDepth 1000000
variable {E : Env}

def chunk8 (xs : List UInt8) (c : Nat) : List UInt8 := (xs.drop (1 + 8 * c)).take 8
def badB (xs : List UInt8) : Bool := decide (xs.length = 0) || decide (xs.length ≠ 1 + 8 * (xs.getD 0 0).toNat)
def outsB (xs : List UInt8) (n : Nat) : List Int := (List.range n).map fun c => ((beN (chunk8 xs c) : Nat) : Int)
/-- who votes, by these bytes -/
def rdV (xs : List UInt8) : List Int := if badB xs then [] else outsB xs ((xs.length - 1) / 8)
theorem outsB_len (xs : List UInt8) (n : Nat) : (outsB xs n).length = n := by simp [outsB]
theorem outsB_succ (xs : List UInt8) (n : Nat) : outsB xs (n + 1) = outsB xs n ++ [((beN (chunk8 xs n) : Nat) : Int)] := by simp [outsB, List.range_succ]
theorem chunk8_step {xs : List UInt8} {c j : Nat} (hj : j < 8) (hc : 1 + 8 * c + j < xs.length) : (chunk8 xs c).take (j + 1) = (chunk8 xs c).take j ++ [xs.getD (j + (1 + 8 * c)) 0] := by
  rw [List.take_add_one]
  congr 1
  have : (chunk8 xs c)[j]? = some (xs.getD (j + (1 + 8 * c)) 0) := by
    unfold chunk8
    rw [List.getElem?_take, if_pos hj, List.getElem?_drop]
    rw [show 1 + 8 * c + j = j + (1 + 8 * c) by omega]
    simp [List.getD_eq_getElem?_getD, show j + (1 + 8 * c) < xs.length by omega]
  rw [this]
  rfl

theorem app_int {ys : List Int} {x : Int} : ∀ i j, i < ys.length + 1 → j < 1 → appF (rowsV encI ys) ys.length (litF 1 [I x]) i j = rowsV encI (ys ++ [x]) i j := by
  intro i j hi hj
  obtain rfl : j = 0 := by omega
  rw [← appF_rows]
  unfold appF
  cases h : Nat.blt i ys.length with
  | true => simp only [cond_true]
  | false =>
    simp only [cond_false]
    have : ys.length ≤ i := by
      rcases Nat.lt_or_ge i ys.length with h' | h'
      · rw [← Nat.blt_eq, h] at h'
        cases h'
      · exact h'
    rw [show i - ys.length = 0 by omega]
    rfl

structure G85 (xs : List UInt8) where
  c : Nat
  nl : Bool
  b : Nat
  off : Nat
  cp : Nat
  ad : Option Addr
  cap : Nat
  ff : Nat → Nat → SV
  hc : 1 + 8 * c ≤ xs.length
  hcap : xs.length - (1 + 8 * c) ≤ cap
  hff : ∀ i, ff i = rowsV encB xs (i + (1 + 8 * c))

theorem c85 (a : Option Addr) (cap : Nat) (xs : List UInt8) (hl : xs.length ≤ 2 ^ 40) (hok : ∀ c, beN (chunk8 xs c) < 2 ^ 63) :
    Spec Try.prog E 85 [vB a cap xs] [] (fun v hp => ∃ a' cap', v = .tup [vI a' cap' (rdV xs), Bl (areV (rdV xs))]) := by
  refine Spec.of_ok fun ⟨ro, hro⟩ => ?_
  have hv := oks_iff.1 hro _ (List.mem_singleton.2 rfl)
  simp only [SV.ok] at hv
  have hcap := hv.1
  refine Spec.conv (Post := fun v hp => (badB xs = true ∧ v = .tup [nilS, Bl false]) ∨ (badB xs = false ∧ ∃ a' cap', v = .tup [vI a' cap' (rdV xs), Bl (areV (rdV xs))])) ?_ ?_
  · refine spec_of (keep := k85) (args' := [vB a cap xs]) Try.func85 rfl Try.ntmps85 s85_ok (by simp) ⟨rfl, fun _ h => h⟩ (fun _ _ h => h) (go_ok _ 100 _ _ ?_)
    simp only [go_sem, s85, k85, Nat.reduceBEq, Nat.reduceAdd, Nat.zero_add, Try.results85]
    have hx0 : (xs.getD 0 0).toNat < 256 := (xs.getD 0 0).toNat_lt
    have hbe : badB xs = (decide ((xs.length : Int) = 0) || decide ((xs.length : Int) ≠ 1 + 8 * ((xs.getD (Int.toNat 0) 0).toNat : Int))) := by
      unfold badB
      rw [Int.toNat_zero]
      congr 1
      · apply Bool.eq_iff_iff.2; simp
      · apply Bool.eq_iff_iff.2; simp; omega
    rw [Int.toNat_zero] at *
    have hpos : decide ((xs.length : Int) = 0) = false → 0 < (xs.length : Int) := fun h => by simp at h; have := List.length_pos_iff.2 h; omega
    refine ⟨fun h => ⟨h, by decide, hpos h⟩, fun h => ⟨h, by decide⟩, fun h => ⟨h, by simp only [inI64]; omega⟩, fun h => ⟨h, by simp only [inI64]; omega⟩, fun h => ⟨h, by simp only [inI64]; omega⟩, fun h => by rw [h]; rfl, fun h => .inl ⟨by rw [hbe, h], rfl⟩, fun h => ?_⟩
    have hbad : badB xs = false := by rw [hbe, h]
    have hlen : xs.length = 1 + 8 * (xs.getD 0 0).toNat := by
      simp only [badB, Bool.or_eq_false_iff, decide_eq_false_iff_not, Decidable.not_not, ne_eq] at hbad
      exact hbad.2
    refine ⟨by omega, ?_⟩
    refine safe_nilrow 0 3 0 1 (rowsV encI (outsB xs 0)) (env' := [(0, .view (if (cap : Int) = 1 then a else Option.map (fun x => x.add (Int.toNat 1 * 1)) a) (xs.length - 1) (cap - 1) 1 fun i => rowsV encB xs (i + 1)), (2, nilS), (3, Bl false), (4, .osl 0 true 0 0 0 0)]) ⟨rfl, .inl rfl, rfl, .inl rfl, rfl, .inl rfl, rfl, .inr ⟨⟨1, _, rfl⟩, rfl⟩, trivial⟩ ?_
    refine safe_loop (ι := G85 xs) (fun g => ⟨[(0, .view g.ad (xs.length - (1 + 8 * g.c)) g.cap 1 g.ff), (4, .osl 0 g.nl g.b g.off g.c g.cp)], [.row g.nl g.b 3 g.off 1 g.c g.cp (rowsV encI (outsB xs g.c))]⟩) (fun g => xs.length - 8 * g.c)
      ⟨0, true, 0, 0, 0, if (cap : Int) = 1 then a else Option.map (fun x => x.add (Int.toNat 1 * 1)) a, cap - 1, fun i => rowsV encB xs (i + 1), by omega, by omega, fun i => rfl⟩ (Sub.front (X := []) (by simp [envSub, look]) rfl) ?_
    rintro ⟨c, nl, b, off, cp, ad, cap2, ff, hc, hcap2, hff⟩
    refine go_ok _ 100 _ _ ?_
    simp only [go_sem, Nat.reduceBEq, Nat.reduceAdd, Nat.zero_add, Try.results85]
    refine ⟨fun h2 => ?_, fun h2 => ?_⟩
    · have h3 : 1 + 8 * c < xs.length := by simp at h2; omega
      have h8 : 1 + 8 * c + 8 ≤ xs.length := by omega
      refine ⟨by and_intros <;> first | omega | (intros; rfl), ?_⟩
      refine safe_loop (ι := {j : Nat // j ≤ 8}) (fun j => ⟨[(0, .view ad (xs.length - (1 + 8 * c)) cap2 1 ff), (4, .osl 0 nl b off c cp), (5, .val (.int .u64 ((beN ((chunk8 xs c).take j.1) : Nat) : Int))), (30, .view (if (cap2 : Int) = 0 then ad else Option.map (fun x => x.add (Int.toNat 0 * 1)) ad) 8 cap2 1 ff), (31, I 8), (32, I j.1)],
        [.row nl b 3 off 1 c cp (rowsV encI (outsB xs c))]⟩) (fun j => 8 - j.1) ⟨0, Nat.zero_le _⟩ (Sub.front (X := []) ⟨rfl, rfl, rfl, rfl, rfl, rfl, trivial⟩ rfl) ?_
      rintro ⟨j, hj⟩
      refine go_ok _ 100 _ _ ?_
      simp only [go_sem, hff, Nat.reduceBEq, Nat.reduceAdd, Nat.zero_add, Try.results85, Int.toNat_natCast]
      refine ⟨fun h4 => ?_, fun h4 => ?_⟩
      · have hj8 : j < 8 := by simp at h4; omega
        refine ⟨by omega, by decide, by decide, by simp only [inI64]; omega, ?_⟩
        have hb := beN_lt ((chunk8 xs c).take j)
        have hlt : beN ((chunk8 xs c).take j) < 2 ^ 56 := by
          refine Nat.lt_of_lt_of_le hb ?_
          rw [show (2 : Nat) ^ 56 = 256 ^ 7 by decide]
          exact Nat.pow_le_pow_right (by decide) (by simp; omega)
        rw [shl_or hlt (UInt8.toNat_lt _), ← beN_snoc, ← chunk8_step hj8 (by omega)]
        exact safe_lend ⟨j + 1, hj8⟩ (by simp only; omega) (Sub.front (X := []) ⟨rfl, rfl, rfl, rfl, rfl, rfl, trivial⟩ rfl)
      · have hj8 : j = 8 := by simp at h4; omega
        subst hj8
        have h9 : (chunk8 xs c).take 8 = chunk8 xs c := List.take_of_length_le (by simp [chunk8]; omega)
        rw [h9]
        have h10 := hok c
        refine ⟨by simp only [inI64]; omega, fun b1 => ?_⟩
        refine (stp_app2 (c := 0) (x := .osl 1 false b1 0 1 1) (N := c + 1) (f2 := rowsV encI (outsB xs (c + 1))) (gx := litF 1 [I ((beN (chunk8 xs c) : Nat) : Int)]) rfl rfl rfl rfl ⟨rfl, rfl, rfl, rfl, by decide⟩ (fun i j hi hj => ?_) (by omega) rfl (fun i' j' hi' hj' => ?_) fun nl' b' off' cap' => ?_).safe trivial
        · obtain rfl : i = 0 := by omega
          obtain rfl : j = 0 := by omega
          simp [litF, one, Value.oneCell']
        · have := app_int (ys := outsB xs c) (x := ((beN (chunk8 xs c) : Nat) : Int)) i' j' (by rw [outsB_len]; exact hi') hj'
          rw [outsB_len] at this
          rw [outsB_succ]
          exact this
        refine ⟨trivial, go_ok _ 100 _ _ ?_⟩
        simp only [go_sem, Nat.reduceBEq, Nat.reduceAdd, Nat.zero_add]
        rw [show ((((xs.length - (1 + 8 * c) : Nat) : Int)).toNat - Int.toNat 8) = xs.length - (1 + 8 * (c + 1)) by rw [Int.toNat_natCast]; show xs.length - (1 + 8 * c) - 8 = _; omega]
        refine ⟨by omega, ?_⟩
        refine safe_lend (⟨c + 1, nl', b', off', cap', if (cap2 : Int) = 8 then ad else Option.map (fun x => x.add (Int.toNat 8 * 1)) ad, cap2 - 8, fun i => ff (i + 8), by omega, by omega, fun i => by rw [hff]; congr 1; omega⟩ : G85 xs) (by simp only; omega)
          (Sub.front (X := [_]) ⟨rfl, rfl, trivial⟩ rfl)
    · have h3 : xs.length = 1 + 8 * c := by simp at h2; omega
      have hrd : rdV xs = outsB xs c := by
        simp only [rdV, hbad, Bool.false_eq_true, if_false]
        congr 1
        omega
      refine safe_frzC (c := 0) (f' := rowsV encI (outsB xs c)) (env' := [(48, frz nl b off c cp 1 (rowsV encI (outsB xs c))), (47, frz nl b off c cp 1 (rowsV encI (outsB xs c))), (26, Bl (decide (0 < ((xs.length - (1 + 8 * c) : Nat) : Int)))), (0, .view ad (xs.length - (1 + 8 * c)) cap2 1 ff), (4, .osl 0 nl b off c cp)]) rfl (fun _ _ _ _ => rfl)
        ⟨rfl, .inr ⟨rfl, rfl⟩, rfl, .inr ⟨rfl, rfl⟩, rfl, .inl rfl, rfl, .inl rfl, rfl, .inl rfl, trivial⟩ ?_
      have hol := outsB_len xs c
      refine (stp_call [] (args := [vI (if nl = true then none else some ⟨b, off, none⟩) cp (outsB xs c)]) rfl rfl rfl ⟨_, Try.func59, rfl, rfl⟩ (c59 _ cp (outsB xs c) (by rw [hol]; omega)) (by simp only [SV.dens, SV.den, frz, hol, List.nil_append, List.append_nil]) (fun ro h => by simpa only [vI, frz, hol, List.nil_append, List.append_nil] using h) rfl (fun _ _ h => h) ?_).safe trivial
      rintro v hp ⟨rfl, rfl⟩
      refine ⟨trivial, go_ok _ 100 _ _ ?_⟩
      simp only [go_sem, Nat.reduceBEq, Nat.reduceAdd, Nat.zero_add, Try.results85]
      refine .inr ⟨hbad, if nl = true then none else some ⟨b, off, none⟩, cp, ?_⟩
      rw [hrd]
      simp only [frz, vI, hol]
  · rintro v hp (⟨h1, rfl⟩ | ⟨h1, a', cap', rfl⟩)
    · refine ⟨.tup [vI none 0 (rdV xs), Bl (areV (rdV xs))], [], hp, ?_, HEqv.refl _, none, 0, rfl⟩
      have e1 : rdV xs = [] := by simp [rdV, h1]
      rw [e1]
      exact ⟨rfl, fun ro h => by simp only [SV.ok, SV.oks] at h ⊢; exact ⟨⟨Nat.le_refl _, fun i j hi => absurd hi (by simp)⟩, trivial, trivial⟩⟩
    · exact ⟨_, [], hp, Eqv.refl _, HEqv.refl _, a', cap', rfl⟩
end Go.SX

/- Contracts of the raft package: whether an entry may be; rows of entries. -/
namespace Go.SX
open Go.Proofs
set_option maxRecDepth 1000000
variable {E : Env}

def mayB (e : Ent) : Bool := decide (0 ≤ e.kd) && decide (e.kd ≤ 2) && decide ((e.d.xs.length : Int) ≤ 65536) && (decide (e.kd ≠ 2) || areV (rdV e.d.xs))
/-- data that can be read -/
def okD (xs : List UInt8) : Prop := xs.length ≤ 2 ^ 40 ∧ ∀ c, beN (chunk8 xs c) < 2 ^ 63

theorem c87 (e : Ent) (h : okD e.d.xs) : Spec Try.prog E 87 [aE e] [] (fun v hp => v = Bl (mayB e) ∧ hp = []) := by
  refine Spec.leave (Post := fun v _ => v = Bl (mayB e)) ?_ (fun v hp h => ⟨[], hp, rfl, h, rfl⟩)
  refine spec_of (keep := k87) (args' := [aE e]) Try.func87 rfl Try.ntmps87 s87_ok (by simp) ⟨rfl, fun _ h => h⟩ (fun _ _ h => h) (go_ok _ 100 _ _ ?_)
  simp only [go_sem, s87, k87, Nat.reduceBEq, Nat.reduceAdd, Nat.zero_add]
  intro b1
  refine (stp_call [] (args := [vB e.d.a e.d.cap e.d.xs]) rfl rfl rfl ⟨_, Try.func85, rfl, rfl⟩ ((c85 e.d.a e.d.cap e.d.xs h.1 h.2).leave (Post' := fun v hp => (∃ a' cap', v = .tup [vI a' cap' (rdV e.d.xs), Bl (areV (rdV e.d.xs))]) ∧ hp = []) fun v hp h => ⟨[], hp, rfl, h, rfl⟩) rfl (fun _ h => h) rfl (fun _ _ h => h) ?_).safe trivial
  rintro v hp ⟨⟨a', cap', rfl⟩, rfl⟩
  refine ⟨trivial, go_ok _ 100 _ _ ?_⟩
  simp only [go_sem, Nat.reduceBEq, Nat.reduceAdd, Nat.zero_add, Try.results87]
  exact ⟨fun h => ⟨h, fun h2 => by rw [h, h2]; rfl⟩, rfl⟩

def badE (ix tm to : Int) (e : Ent) : Bool := decide (e.ix ≤ ix) || decide (e.ix - 1 ≠ ix) || decide (e.tm < tm) || decide (to < e.tm) || !mayB e
def rowB (ix tm to : Int) : List Ent → Bool
  | [] => true
  | e :: l => !badE ix tm to e && rowB e.ix e.tm to l
def prevI (ix : Int) (es : List Ent) (i : Nat) : Int := if i = 0 then ix else (es.getD (i - 1) default).ix
def prevT (tm : Int) (es : List Ent) (i : Nat) : Int := if i = 0 then tm else (es.getD (i - 1) default).tm
theorem rowB_step {ix tm to : Int} {es : List Ent} {i : Nat} (hi : i < es.length) : rowB (prevI ix es i) (prevT tm es i) to (es.drop i) = (!badE (prevI ix es i) (prevT tm es i) to (es.getD i default) && rowB (prevI ix es (i + 1)) (prevT tm es (i + 1)) to (es.drop (i + 1))) := by
  rw [List.drop_eq_getElem_cons hi]
  have : es.getD i default = es[i] := by simp [List.getD_eq_getElem?_getD, hi]
  simp only [rowB, prevI, prevT, this, Nat.add_one_ne_zero, if_false, Nat.add_sub_cancel]

structure G68 (ix tm to : Int) (es : List Ent) where
  i : Nat
  p : Int
  q : Int
  hi : i ≤ es.length
  h0 : i = 0 → p = ix ∧ q = tm
  hr : rowB ix tm to es = rowB (prevI ix es i) (prevT tm es i) to (es.drop i)

theorem c68 (a : Option Addr) (cap : Nat) (es : List Ent) (ix tm to : Int) (hl : es.length ≤ 2 ^ 40) (hd : ∀ e ∈ es, okD e.d.xs ∧ -2 ^ 62 ≤ e.ix ∧ e.ix ≤ 2 ^ 62) : Spec Try.prog E 68 [vE a cap es, I ix, I tm, I to] [] (fun v hp => v = Bl (rowB ix tm to es) ∧ hp = []) := by
  refine Spec.leave (Post := fun v _ => v = Bl (rowB ix tm to es)) ?_ (fun v hp h => ⟨[], hp, rfl, h, rfl⟩)
  refine spec_of (keep := k68) (args' := [vE a cap es, I ix, I tm, I to]) Try.func68 rfl Try.ntmps68 s68_ok (by simp) ⟨rfl, fun _ h => h⟩ (fun _ _ h => h) (go_ok _ 100 _ _ ?_)
  simp only [go_sem, s68, k68, Nat.reduceBEq, Nat.reduceAdd, Nat.zero_add, Try.results68]
  refine safe_loop (ι := G68 ix tm to es) (fun g => ⟨[(0, vE a cap es), (1, I g.p), (2, I g.q), (3, I to), (11, vE a cap es), (12, I es.length), (13, I g.i)], []⟩) (fun g => es.length - g.i) ⟨0, ix, tm, Nat.zero_le _, fun _ => ⟨rfl, rfl⟩, rfl⟩
    (Sub.front (X := []) (by simp [envSub, look]) rfl) ?_
  rintro ⟨i, p, q, hi, h0, hr⟩
  refine go_ok _ 24 _ _ ?_
  simp only [go_sem, Nat.reduceBEq, Nat.reduceAdd, Nat.zero_add, Try.results68, Int.toNat_natCast]
  refine ⟨fun h => ?_, fun h => ?_⟩
  · have hlt : i < es.length := by simpa using h
    have hmem : es.getD i default ∈ es := by
      rw [List.getD_eq_getElem?_getD, List.getElem?_eq_getElem hlt]
      exact List.getElem_mem _
    have hde := hd _ hmem
    generalize hee : es.getD i default = e at *
    refine ⟨⟨by omega, by omega⟩, by decide, fun b => ?_⟩
    refine safe_cond_mid (p := decide (0 < (i : Int))) ⟨[(0, vE a cap es), (1, I (prevI ix es i)), (2, I (prevT tm es i)), (3, I to), (10, .ptr 0 b 0), (11, vE a cap es), (12, I es.length), (13, I i)], [.cells b 43 [I e.ix, I e.tm, I e.kd, e.d.sv]]⟩ rfl ?_ ?_ ?_
    · refine go_ok _ 100 _ _ ?_
      simp only [go_sem, Nat.reduceBEq, Nat.reduceAdd, Nat.zero_add, Try.results68]
      have hrow : rowB ix tm to es = (!badE (prevI ix es i) (prevT tm es i) to e && rowB (prevI ix es (i + 1)) (prevT tm es (i + 1)) to (es.drop (i + 1))) := by
        rw [hr, rowB_step hlt, hee]
      refine ⟨fun h => ⟨h, by simp only [inI64]; omega⟩, fun h => by rw [h]; rfl, fun h => by rw [h]; rfl, fun h => by rw [h]; rfl, ?_⟩
      cases hg : (decide (e.ix ≤ prevI ix es i) || decide (e.ix - 1 ≠ prevI ix es i) || decide (e.tm < prevT tm es i) || decide (to < e.tm)) with
      | true =>
        have hbad : badE (prevI ix es i) (prevT tm es i) to e = true := by simp only [badE, hg, Bool.true_or]
        rw [hbad] at hrow
        simp only [go_sem, Nat.reduceBEq, Nat.reduceAdd, Nat.zero_add]
        exact ⟨fun h => absurd h (by decide), ⟨fun h => absurd h (by decide), by rw [hrow]; rfl, fun h => absurd h (by decide)⟩, rfl⟩
      | false =>
        have hbad : badE (prevI ix es i) (prevT tm es i) to e = !mayB e := by simp only [badE, hg, Bool.false_or]
        rw [hbad, Bool.not_not] at hrow
        simp only [go_sem, Nat.reduceBEq, Nat.reduceAdd, Nat.zero_add]
        refine ⟨?_, fun h => absurd h (by decide), rfl⟩
        refine Stp.safeOn ?_ trivial
        refine stp_call [] (args := [aE e]) rfl rfl rfl ⟨_, Try.func87, rfl, rfl⟩ (c87 e hde.1) rfl (fun _ h => unc_oks h) rfl (fun _ _ h => h) ?_
        rintro v hp ⟨rfl, rfl⟩
        refine ⟨trivial, go_ok _ 100 _ _ ?_⟩
        simp only [go_sem, Nat.reduceBEq, Nat.reduceAdd, Nat.zero_add, Try.results68]
        refine ⟨fun h => by rw [hrow, h]; rfl, fun h => ⟨by simp only [inI64]; omega, ?_⟩⟩
        have hm : mayB e = true := by simpa using h
        rw [hm, Bool.true_and] at hrow
        exact safe_lend (⟨i + 1, _, _, hlt, fun h => absurd h (by omega), hrow⟩ : G68 ix tm to es) (by simp only; omega) (Sub.front (X := [_]) ⟨rfl, rfl, rfl, rfl, rfl, rfl, rfl, trivial⟩ rfl)
    · intro h2 hrest
      have hi0 : 0 < i := by simp at h2; omega
      refine go_ok _ 16 _ _ ?_
      simp only [go_sem, Nat.reduceBEq, Nat.reduceAdd, Nat.zero_add]
      have e1 : ((i : Int) - 1).toNat = i - 1 := by omega
      rw [e1]
      refine ⟨by simp only [inI64]; omega, by omega, by decide, by simp only [inI64]; omega, by omega, by decide, ⟨by simp only [inI64]; omega, by omega, by decide⟩, ?_⟩
      refine Safe.sub ?_ hrest
      refine Sub.front (X := []) ⟨rfl, ?_, ?_, rfl, rfl, rfl, rfl, rfl, trivial⟩ rfl
      · simp only [look, go_sem, Nat.reduceBEq, prevI, if_neg (show ¬ i = 0 by omega)]
      · simp only [look, go_sem, Nat.reduceBEq, prevT, if_neg (show ¬ i = 0 by omega)]
    · intro h2 hrest
      have hi0 : i = 0 := by simp at h2; omega
      obtain ⟨rfl, rfl⟩ := h0 hi0
      refine go_ok _ 1 _ _ ?_
      simp only [go_sem, Nat.reduceBEq, Nat.reduceAdd, Nat.zero_add]
      refine Safe.sub ?_ hrest
      refine Sub.front (X := []) ⟨rfl, ?_, ?_, rfl, rfl, rfl, rfl, rfl, trivial⟩ rfl
      · simp only [look, go_sem, Nat.reduceBEq, prevI, if_pos hi0]
      · simp only [look, go_sem, Nat.reduceBEq, prevT, if_pos hi0]
  · have hi' : i = es.length := by simp at h; omega
    subst hi'
    rw [hr]
    simp [rowB]
end Go.SX


/- Raft: who votes, by any log: own memory. -/
namespace Go.SX
open Go.Proofs
set_option maxRecDepth 1000000
variable {E : Env}

/-- read, into memory of the caller's own -/
theorem c85o (k : Nat) (a : Option Addr) (cap : Nat) (xs : List UInt8) (hl : xs.length ≤ 2 ^ 40) (hok : ∀ c, beN (chunk8 xs c) < 2 ^ 63) (hg : badB xs = false) :
    Spec Try.prog E 85 [vB a cap xs] [] (fun v hp => ∃ nl b off cp, v = .tup [.osl k nl b off (rdV xs).length cp, Bl (areV (rdV xs))] ∧ hp = [.row nl b 3 off 1 (rdV xs).length cp (rowsV encI (rdV xs))]) := by
  refine Spec.of_ok fun ⟨ro, hro⟩ => ?_
  have hv := oks_iff.1 hro _ (List.mem_singleton.2 rfl)
  simp only [SV.ok] at hv
  have hcap := hv.1
  refine Spec.conv (Post := fun v hp => ∃ nl b off cp X, v = .tup [.osl 0 nl b off (rdV xs).length cp, Bl (areV (rdV xs))] ∧ hp = .row nl b 3 off 1 (rdV xs).length cp (rowsV encI (rdV xs)) :: X) ?_ ?_
  · refine spec_of (keep := k85) (args' := [vB a cap xs]) Try.func85 rfl Try.ntmps85 s85_ok (by simp) ⟨rfl, fun _ h => h⟩ (fun _ _ h => h) (go_ok _ 100 _ _ ?_)
    simp only [go_sem, s85, k85, Nat.reduceBEq, Nat.reduceAdd, Nat.zero_add, Try.results85]
    have hx0 : (xs.getD 0 0).toNat < 256 := (xs.getD 0 0).toNat_lt
    have hbe : badB xs = (decide ((xs.length : Int) = 0) || decide ((xs.length : Int) ≠ 1 + 8 * ((xs.getD (Int.toNat 0) 0).toNat : Int))) := by
      unfold badB
      rw [Int.toNat_zero]
      congr 1
      · apply Bool.eq_iff_iff.2; simp
      · apply Bool.eq_iff_iff.2; simp; omega
    rw [Int.toNat_zero] at *
    have hpos : decide ((xs.length : Int) = 0) = false → 0 < (xs.length : Int) := fun h => by simp at h; have := List.length_pos_iff.2 h; omega
    refine ⟨fun h => ⟨h, by decide, hpos h⟩, fun h => ⟨h, by decide⟩, fun h => ⟨h, by simp only [inI64]; omega⟩, fun h => ⟨h, by simp only [inI64]; omega⟩, fun h => ⟨h, by simp only [inI64]; omega⟩, fun h => by rw [h]; rfl, fun h => absurd (show badB xs = true by rw [hbe, h]) (by rw [hg]; decide), fun h => ?_⟩
    have hbad : badB xs = false := by rw [hbe, h]
    have hlen : xs.length = 1 + 8 * (xs.getD 0 0).toNat := by
      simp only [badB, Bool.or_eq_false_iff, decide_eq_false_iff_not, Decidable.not_not, ne_eq] at hbad
      exact hbad.2
    refine ⟨by omega, ?_⟩
    refine safe_nilrow 0 3 0 1 (rowsV encI (outsB xs 0)) (env' := [(0, .view (if (cap : Int) = 1 then a else Option.map (fun x => x.add (Int.toNat 1 * 1)) a) (xs.length - 1) (cap - 1) 1 fun i => rowsV encB xs (i + 1)), (2, nilS), (3, Bl false), (4, .osl 0 true 0 0 0 0)]) ⟨rfl, .inl rfl, rfl, .inl rfl, rfl, .inl rfl, rfl, .inr ⟨⟨1, _, rfl⟩, rfl⟩, trivial⟩ ?_
    refine safe_loop (ι := G85 xs) (fun g => ⟨[(0, .view g.ad (xs.length - (1 + 8 * g.c)) g.cap 1 g.ff), (4, .osl 0 g.nl g.b g.off g.c g.cp)], [.row g.nl g.b 3 g.off 1 g.c g.cp (rowsV encI (outsB xs g.c))]⟩) (fun g => xs.length - 8 * g.c)
      ⟨0, true, 0, 0, 0, if (cap : Int) = 1 then a else Option.map (fun x => x.add (Int.toNat 1 * 1)) a, cap - 1, fun i => rowsV encB xs (i + 1), by omega, by omega, fun i => rfl⟩ (Sub.front (X := []) (by simp [envSub, look]) rfl) ?_
    rintro ⟨c, nl, b, off, cp, ad, cap2, ff, hc, hcap2, hff⟩
    refine go_ok _ 100 _ _ ?_
    simp only [go_sem, Nat.reduceBEq, Nat.reduceAdd, Nat.zero_add, Try.results85]
    refine ⟨fun h2 => ?_, fun h2 => ?_⟩
    · have h3 : 1 + 8 * c < xs.length := by simp at h2; omega
      have h8 : 1 + 8 * c + 8 ≤ xs.length := by omega
      refine ⟨by and_intros <;> first | omega | (intros; rfl), ?_⟩
      refine safe_loop (ι := {j : Nat // j ≤ 8}) (fun j => ⟨[(0, .view ad (xs.length - (1 + 8 * c)) cap2 1 ff), (4, .osl 0 nl b off c cp), (5, .val (.int .u64 ((beN ((chunk8 xs c).take j.1) : Nat) : Int))), (30, .view (if (cap2 : Int) = 0 then ad else Option.map (fun x => x.add (Int.toNat 0 * 1)) ad) 8 cap2 1 ff), (31, I 8), (32, I j.1)],
        [.row nl b 3 off 1 c cp (rowsV encI (outsB xs c))]⟩) (fun j => 8 - j.1) ⟨0, Nat.zero_le _⟩ (Sub.front (X := []) ⟨rfl, rfl, rfl, rfl, rfl, rfl, trivial⟩ rfl) ?_
      rintro ⟨j, hj⟩
      refine go_ok _ 100 _ _ ?_
      simp only [go_sem, hff, Nat.reduceBEq, Nat.reduceAdd, Nat.zero_add, Try.results85, Int.toNat_natCast]
      refine ⟨fun h4 => ?_, fun h4 => ?_⟩
      · have hj8 : j < 8 := by simp at h4; omega
        refine ⟨by omega, by decide, by decide, by simp only [inI64]; omega, ?_⟩
        have hb := beN_lt ((chunk8 xs c).take j)
        have hlt : beN ((chunk8 xs c).take j) < 2 ^ 56 := by
          refine Nat.lt_of_lt_of_le hb ?_
          rw [show (2 : Nat) ^ 56 = 256 ^ 7 by decide]
          exact Nat.pow_le_pow_right (by decide) (by simp; omega)
        rw [shl_or hlt (UInt8.toNat_lt _), ← beN_snoc, ← chunk8_step hj8 (by omega)]
        exact safe_lend ⟨j + 1, hj8⟩ (by simp only; omega) (Sub.front (X := []) ⟨rfl, rfl, rfl, rfl, rfl, rfl, trivial⟩ rfl)
      · have hj8 : j = 8 := by simp at h4; omega
        subst hj8
        have h9 : (chunk8 xs c).take 8 = chunk8 xs c := List.take_of_length_le (by simp [chunk8]; omega)
        rw [h9]
        have h10 := hok c
        refine ⟨by simp only [inI64]; omega, fun b1 => ?_⟩
        refine (stp_app2 (c := 0) (x := .osl 1 false b1 0 1 1) (N := c + 1) (f2 := rowsV encI (outsB xs (c + 1))) (gx := litF 1 [I ((beN (chunk8 xs c) : Nat) : Int)]) rfl rfl rfl rfl ⟨rfl, rfl, rfl, rfl, by decide⟩ (fun i j hi hj => ?_) (by omega) rfl (fun i' j' hi' hj' => ?_) fun nl' b' off' cap' => ?_).safe trivial
        · obtain rfl : i = 0 := by omega
          obtain rfl : j = 0 := by omega
          simp [litF, one, Value.oneCell']
        · have := app_int (ys := outsB xs c) (x := ((beN (chunk8 xs c) : Nat) : Int)) i' j' (by rw [outsB_len]; exact hi') hj'
          rw [outsB_len] at this
          rw [outsB_succ]
          exact this
        refine ⟨trivial, go_ok _ 100 _ _ ?_⟩
        simp only [go_sem, Nat.reduceBEq, Nat.reduceAdd, Nat.zero_add]
        rw [show ((((xs.length - (1 + 8 * c) : Nat) : Int)).toNat - Int.toNat 8) = xs.length - (1 + 8 * (c + 1)) by rw [Int.toNat_natCast]; show xs.length - (1 + 8 * c) - 8 = _; omega]
        refine ⟨by omega, ?_⟩
        refine safe_lend (⟨c + 1, nl', b', off', cap', if (cap2 : Int) = 8 then ad else Option.map (fun x => x.add (Int.toNat 8 * 1)) ad, cap2 - 8, fun i => ff (i + 8), by omega, by omega, fun i => by rw [hff]; congr 1; omega⟩ : G85 xs) (by simp only; omega)
          (Sub.front (X := [_]) ⟨rfl, rfl, trivial⟩ rfl)
    · have h3 : xs.length = 1 + 8 * c := by simp at h2; omega
      have hrd : rdV xs = outsB xs c := by
        simp only [rdV, hbad, Bool.false_eq_true, if_false]
        congr 1
        omega
      have hol := outsB_len xs c
      refine go_ok _ 100 _ _ ?_
      simp only [go_sem, Nat.reduceBEq, Nat.reduceAdd, Nat.zero_add, Try.results85]
      rw [hrd]
      generalize outsB xs c = ys at hol ⊢
      subst hol
      refine (stp_call [0] (args := [.osl 0 nl b off ys.length cp]) rfl rfl rfl ⟨_, Try.func59, rfl, rfl⟩ (c59o nl b off cp ys (by omega)) rfl (fun _ h => h) rfl (fun _ _ h => h) ?_).safe trivial
      rintro v hp ⟨rfl, rfl⟩
      refine ⟨trivial, go_ok _ 100 _ _ ?_⟩
      simp only [go_sem, Nat.reduceBEq, Nat.reduceAdd, Nat.zero_add, Try.results85]
      exact ⟨nl, b, off, cp, [], rfl, rfl⟩
  · rintro v hp ⟨nl, b, off, cp, X, rfl, rfl⟩
    exact ⟨.tup [.osl k nl b off (rdV xs).length cp, Bl (areV (rdV xs))], [_], X, ⟨rfl, fun _ h => by simpa only [SV.oks, SV.ok] using h⟩, HEqv.refl _, nl, b, off, cp, rfl, rfl⟩

theorem chg_or (u : Int) : ∀ (es : List Ent) (r : Int), es.foldl (fun r e => bif isCh u e then e.ix else r) r = r ∨ ∃ j, j < es.length ∧ es.foldl (fun r e => bif isCh u e then e.ix else r) r = (es.getD j default).ix ∧ isCh u (es.getD j default) = true
  | [], r => .inl rfl
  | e :: l, r => by
    rw [List.foldl_cons]
    rcases chg_or u l (bif isCh u e then e.ix else r) with h | ⟨j, hj, h1, h2⟩
    · rw [h]
      cases he : isCh u e with
      | false => exact .inl rfl
      | true => exact .inr ⟨0, by simp, rfl, he⟩
    · exact .inr ⟨j + 1, by simpa using hj, h1, h2⟩
/-- a node's voters, in words -/
structure Vo where
  ma : Option Addr
  mc : Nat
  mv : List Int
  fa : Option Addr
  fc : Nat
  fv : List Int
/-- what a node's log is like: entries one behind the other, voters readable -/
structure RS.good (s : RS) (o : Vo) : Prop where
  sm : s.small
  hm : s.mV = vI o.ma o.mc o.mv
  hf : s.fi = vI o.fa o.fc o.fv
  mv : 0 < s.mIx → 0 < o.mv.length
  ml : o.mv.length ≤ 7
  fv : 0 < o.fv.length
  fl : o.fv.length ≤ 7
  ix : ∀ j, j < s.es.length → (s.es.getD j default).ix = s.mIx + j + 1
  ok : ∀ e ∈ s.es, okD e.d.xs
  rd : ∀ e ∈ s.es, e.kd = 2 → badB e.d.xs = false ∧ 0 < (rdV e.d.xs).length ∧ (rdV e.d.xs).length ≤ 7
def RS.votersAt (s : RS) (o : Vo) (u : Int) : List Int :=
  if 0 < chg s.es u then rdV (s.es.getD (chg s.es u - s.mIx - 1).toNat default).d.xs else if 0 < s.mIx then o.mv else o.fv
theorem RS.good.chg {s : RS} {o : Vo} (h : s.good o) (u : Int) : chg s.es u = 0 ∨ ∃ j, j < s.es.length ∧ chg s.es u = s.mIx + j + 1 ∧ (s.es.getD j default).kd = 2 := by
  rcases chg_or u s.es 0 with h1 | ⟨j, hj, h1, h2⟩
  · exact .inl h1
  · refine .inr ⟨j, hj, ?_, ?_⟩
    · rw [← h.ix j hj]; exact h1
    · simp only [isCh, Bool.and_eq_true, decide_eq_true_eq] at h2; exact h2.1
theorem RS.good.vlen {s : RS} {o : Vo} (h : s.good o) (u : Int) : 0 < (s.votersAt o u).length ∧ (s.votersAt o u).length ≤ 7 := by
  unfold RS.votersAt
  split
  · rename_i hc
    rcases h.chg u with h1 | ⟨j, hj, h1, h2⟩
    · omega
    · have hm : s.es.getD j default ∈ s.es := by rw [List.getD_eq_getElem?_getD, List.getElem?_eq_getElem hj]; exact List.getElem_mem hj
      rw [h1, show (s.mIx + (j : Int) + 1 - s.mIx - 1).toNat = j by omega]
      exact (h.rd _ hm h2).2
  · split
    · exact ⟨h.mv ‹_›, h.ml⟩
    · exact ⟨h.fv, h.fl⟩
theorem c64 (c b : Nat) (s : RS) (o : Vo) (u : Int) (hg : s.good o) : Spec Try.prog E 64 [.ptr 0 b 0, I u] [rC b s] (fun v hp => ∃ nl b' off cap', v = .osl c nl b' off (s.votersAt o u).length cap' ∧ hp = [rC b s, .row nl b' 3 off 1 (s.votersAt o u).length cap' (rowsV encI (s.votersAt o u))]) := by
  refine spec_of (keep := k64) (args' := [.ptr 0 b 0, I u]) Try.func64 rfl Try.ntmps64 s64_ok (by simp) ⟨rfl, fun _ h => h⟩ (fun _ _ h => h) (go_ok _ 100 _ _ ?_)
  simp only [go_sem, s64, k64, Nat.reduceBEq, Nat.reduceAdd, Nat.zero_add]
  obtain ⟨m0, m1, hlen⟩ := hg.sm
  refine (stp_call [0] rfl rfl rfl ⟨_, Try.func61, rfl, rfl⟩ (c61 b u 95 s.cs s.la s.lc s.es rfl (by omega)) rfl (fun _ h => h) rfl (fun _ _ h => h) ?_).safe trivial
  rintro v hp ⟨rfl, rfl⟩
  refine ⟨trivial, go_ok _ 100 _ _ ?_⟩
  have hch := hg.chg u
  have hvl := hg.vlen u
  simp only [go_sem, Nat.reduceBEq, Nat.reduceAdd, Nat.zero_add]
  refine ⟨fun h => ?_, fun h => ⟨fun h2 => ?_, fun h2 => ?_⟩⟩
  · have h := of_decide_eq_true h
    rcases hch with h1 | ⟨j, hj, h1, h2⟩
    · omega
    have hm : s.es.getD j default ∈ s.es := by rw [List.getD_eq_getElem?_getD, List.getElem?_eq_getElem hj]; exact List.getElem_mem hj
    have hv : s.votersAt o u = rdV (s.es.getD j default).d.xs := by
      unfold RS.votersAt
      rw [if_pos h, h1, show (s.mIx + (j : Int) + 1 - s.mIx - 1).toNat = j by omega]
    rw [h1, show (s.mIx + (j : Int) + 1 - s.mIx - 1).toNat = j by omega]
    refine ⟨by simp only [inI64]; omega, by simp only [inI64]; omega, by omega, by decide, ?_⟩
    have hd := hg.ok _ hm
    have hr := hg.rd _ hm h2
    refine (stp_call [] (args := [vB (s.es.getD j default).d.a (s.es.getD j default).d.cap (s.es.getD j default).d.xs]) rfl rfl rfl ⟨_, Try.func85, rfl, rfl⟩ (c85o c _ _ (s.es.getD j default).d.xs hd.1 hd.2 hr.1) rfl (fun _ h => h) rfl (fun _ _ h => h) ?_).safe trivial
    rintro v hp ⟨nl, b', off, cp, rfl, rfl⟩
    refine ⟨trivial, go_ok _ 100 _ _ ?_⟩
    simp only [go_sem, Nat.reduceBEq, Try.results64]
    exact ⟨nl, b', off, cp, by rw [hv], by rw [hv]; rfl⟩
  · have h := of_decide_eq_false h
    have h2 := of_decide_eq_true h2
    have hv : s.votersAt o u = o.mv := by unfold RS.votersAt; rw [if_neg h, if_pos h2]
    rw [hv] at hvl ⊢
    rw [hg.hm]
    refine (stp_call [] (args := [vI o.ma o.mc o.mv]) rfl rfl rfl ⟨_, Try.func38, rfl, rfl⟩ (c38o c _ _ o.mv (by omega) hvl.1) rfl (fun _ h => h) rfl (fun _ _ h => h) ?_).safe trivial
    rintro v hp ⟨nl, b', off, cap', rfl, rfl⟩
    refine ⟨trivial, go_ok _ 100 _ _ ?_⟩
    simp only [go_sem, Nat.reduceBEq, Try.results64]
    exact ⟨nl, b', off, cap', rfl, by simp only [rC, RS.cs, hg.hm]⟩
  · have h := of_decide_eq_false h
    have h2 := of_decide_eq_false h2
    have hv : s.votersAt o u = o.fv := by unfold RS.votersAt; rw [if_neg h, if_neg h2]
    rw [hv] at hvl ⊢
    rw [hg.hf]
    refine (stp_call [] (args := [vI o.fa o.fc o.fv]) rfl rfl rfl ⟨_, Try.func38, rfl, rfl⟩ (c38o c _ _ o.fv (by omega) hvl.1) rfl (fun _ h => h) rfl (fun _ _ h => h) ?_).safe trivial
    rintro v hp ⟨nl, b', off, cap', rfl, rfl⟩
    refine ⟨trivial, go_ok _ 100 _ _ ?_⟩
    simp only [go_sem, Nat.reduceBEq, Try.results64]
    exact ⟨nl, b', off, cap', rfl, by simp only [rC, RS.cs, hg.hf]⟩

def RS.vs (s : RS) (o : Vo) : List Int := s.votersAt o s.last
theorem c26 (c b : Nat) (s : RS) (o : Vo) (hg : s.good o) : Spec Try.prog E 26 [.ptr 0 b 0] [rC b s] (fun v hp => ∃ nl b' off cap', v = .osl c nl b' off (s.vs o).length cap' ∧ hp = [rC b s, .row nl b' 3 off 1 (s.vs o).length cap' (rowsV encI (s.vs o))]) := by
  refine spec_of (keep := k26) (args' := [.ptr 0 b 0]) Try.func26 rfl Try.ntmps26 s26_ok (by simp) ⟨rfl, fun _ h => h⟩ (fun _ _ h => h) (go_ok _ 100 _ _ ?_)
  simp only [go_sem, s26, k26, Nat.reduceBEq, Nat.reduceAdd, Nat.zero_add]
  refine (stp_call [0] rfl rfl rfl ⟨_, Try.func40, rfl, rfl⟩ (c40 b s hg.sm) rfl (fun _ h => h) rfl (fun _ _ h => h) ?_).safe trivial
  rintro v hp ⟨rfl, rfl⟩
  refine ⟨by simp only [recheck, recheck1, go_sem, Nat.reduceBEq, Nat.reduceAdd, Nat.zero_add], ?_⟩
  refine (stp_call [0] rfl rfl rfl ⟨_, Try.func64, rfl, rfl⟩ (c64 c b s o s.last hg) rfl (fun _ h => h) rfl (fun _ _ h => h) ?_).safe trivial
  rintro v hp ⟨nl, b', off, cap', rfl, rfl⟩
  refine ⟨trivial, go_ok _ 100 _ _ ?_⟩
  simp only [go_sem, Nat.reduceBEq, Try.results26]
  exact ⟨nl, b', off, cap', rfl, rfl⟩

theorem c42 (b : Nat) (s : RS) (o : Vo) (hg : s.good o) : Spec Try.prog E 42 [.ptr 0 b 0] [rC b s] (fun v hp => v = Bl (decide (s.id ∈ s.vs o)) ∧ hp = [rC b s]) := by
  refine Spec.leave (Post := fun v hp => v = Bl (decide (s.id ∈ s.vs o)) ∧ ∃ X, hp = rC b s :: X) ?_ (fun v hp ⟨h1, X, h2⟩ => ⟨[rC b s], X, by simp [h2], h1, rfl⟩)
  refine spec_of (keep := k42) (args' := [.ptr 0 b 0]) Try.func42 rfl Try.ntmps42 s42_ok (by simp) ⟨rfl, fun _ h => h⟩ (fun _ _ h => h) (go_ok _ 100 _ _ ?_)
  simp only [go_sem, s42, k42, Nat.reduceBEq, Nat.reduceAdd, Nat.zero_add]
  refine (stp_call [0] rfl rfl rfl ⟨_, Try.func26, rfl, rfl⟩ (c26 1 b s o hg) rfl (fun _ h => h) rfl (fun _ _ h => h) ?_).safe trivial
  rintro v hp ⟨nl, b', off, cap', rfl, rfl⟩
  refine ⟨by simp only [recheck, recheck1, go_sem, Nat.reduceBEq, Nat.reduceAdd, Nat.zero_add], ?_⟩
  have hl := hg.vlen s.last
  refine safe_frzA (c := 1) (rowsV encI (s.vs o)) rfl (fun _ _ _ _ => rfl) (by simp [frzOk, frzOk1]) ?_
  simp only [go_sem]
  refine (stp_call [] (args := [vI (if nl then none else some ⟨b', off, none⟩) cap' (s.vs o), I s.id]) rfl rfl rfl ⟨_, Try.func54, rfl, rfl⟩ (c54 _ cap' (s.vs o) s.id (by unfold RS.vs; omega)) rfl (fun _ h => h) rfl (fun _ _ h => h) ?_).safe trivial
  rintro v hp ⟨rfl, rfl⟩
  refine ⟨trivial, go_ok _ 100 _ _ ?_⟩
  simp only [go_sem, Nat.reduceBEq, Nat.reduceAdd, Nat.zero_add, Try.results42]
  exact ⟨[.emp], rfl⟩

/-- the others who vote -/
def RS.others (s : RS) (o : Vo) : List Int := othersL (s.vs o) s.id
theorem c63 (c b : Nat) (s : RS) (o : Vo) (hg : s.good o) : Spec Try.prog E 63 [.ptr 0 b 0] [rC b s] (fun v hp => ∃ nl b' off cap', v = .osl c nl b' off (s.others o).length cap' ∧ hp = [rC b s, .row nl b' 3 off 1 (s.others o).length cap' (rowsV encI (s.others o))]) := by
  refine Spec.see2 ?_
  generalize hP : SeeP _ = P
  refine spec_of (keep := k63) (args' := [.ptr 0 b 0]) Try.func63 rfl Try.ntmps63 s63_ok (by simp) ⟨rfl, fun _ h => h⟩ (fun _ _ h => h) (go_ok _ 100 _ _ ?_)
  simp only [go_sem, s63, k63, Nat.reduceBEq, Nat.reduceAdd, Nat.zero_add]
  intro bx
  refine (stp_call [0] rfl rfl rfl ⟨_, Try.func26, rfl, rfl⟩ (c26 2 b s o hg) rfl (fun _ h => h) rfl (fun _ _ h => h) ?_).safe trivial
  rintro v hp ⟨nl, b', off, cap', rfl, rfl⟩
  refine ⟨trivial, go_ok _ 100 _ _ ?_⟩
  have hl := hg.vlen s.last
  simp only [go_sem, Nat.reduceBEq, Nat.reduceAdd, Nat.zero_add]
  refine (stp_call [0, 1, 2] rfl rfl rfl ⟨_, Try.func83, rfl, rfl⟩ (c83 b bx s nl b' off cap' (s.vs o) (by unfold RS.vs; omega)) rfl (fun _ h => h) rfl (fun _ _ h => h) ?_).safe trivial
  rintro v hp ⟨rfl, rfl⟩
  refine ⟨trivial, go_ok _ 100 _ _ ?_⟩
  simp only [go_sem, Nat.reduceBEq, Nat.reduceAdd, Nat.zero_add, Try.results63]
  rw [← hP]
  exact ⟨.osl c nl b' off (s.others o).length cap', _, rfl, fun _ _ => by simp only [SV.ok], Sees.trans (Sees.perm (List.Perm.cons _ (List.Perm.swap ..))) (Sees.left (a := [_, _]) (X := [_])), nl, b', off, cap', rfl, rfl⟩
end Go.SX

/- Raft: a node in memory, whole; a message is sent. -/
namespace Go.SX
open Go.Proofs
set_option maxRecDepth 1000000
variable {E : Env}

/-- a message -/
structure MsL where
  kd : Int
  fr : Int
  to : Int
  tm : Int
  ix : Int
  lt : Int
  es : Sl Ent
  cm : Int
  sq : Int
  ok : Bool
  mt : Int
  mi : Int
  mm : Int
  mv : Sl Int
  d : By
instance : Inhabited MsL := ⟨⟨0, 0, 0, 0, 0, 0, ⟨none, 0, []⟩, 0, 0, false, 0, 0, 0, ⟨none, 0, []⟩, default⟩⟩
@[go_sem] def encM (m : MsL) : List SV := [I m.kd, I m.fr, I m.to, I m.tm, I m.ix, I m.lt, vE m.es.a m.es.cap m.es.xs, I m.cm, I m.sq, Bl m.ok, I m.mt, I m.mi, I m.mm, vI m.mv.a m.mv.cap m.mv.xs, vB m.d.a m.d.cap m.d.xs]
/-- where an own row lies -/
structure Rw where
  nl : Bool
  b : Nat
  off : Nat
  cap : Nat
@[go_sem] def Rw.sv (r : Rw) (c n : Nat) : SV := .osl c r.nl r.b r.off n r.cap
@[go_sem] def Rw.ch (r : Rw) (T : TypeId) (sz : Nat) {α : Type} [Inhabited α] (enc : α → List SV) (xs : List α) : Chunk := .row r.nl r.b T r.off sz xs.length r.cap (rowsV enc xs)

theorem c71 (b : Nat) (s : RS) (w : Rw) (ms : List MsL) (m : MsL) (hm : s.msgs = w.sv 1 ms.length) (hl : ms.length ≤ 2 ^ 30) : Spec Try.prog E 71 [.ptr 0 b 0, .agg (encM m)] [rC b s, w.ch 54 15 encM ms]
    (fun _ hp => ∃ w' : Rw, hp = [rC b { s with msgs := w'.sv 1 (ms.length + 1) }, w'.ch 54 15 encM (ms ++ [{ m with fr := s.id, tm := s.hT }])]) := by
  refine Spec.leave (Post := fun _ hp => ∃ (w' : Rw) (X : List Chunk), hp = rC b { s with msgs := w'.sv 1 (ms.length + 1) } :: w'.ch 54 15 encM (ms ++ [{ m with fr := s.id, tm := s.hT }]) :: X) ?_ (fun v hp ⟨w', X, h⟩ => ⟨[_, _], X, by simp [h], w', rfl⟩)
  refine spec_of (keep := k71) (args' := [.ptr 0 b 0, .agg (encM m)]) Try.func71 rfl Try.ntmps71 s71_ok (by simp) ⟨rfl, fun _ h => h⟩ (fun _ _ h => h) (go_ok _ 100 _ _ ?_)
  simp only [go_sem, s71, k71, hm, nilS, Nat.reduceBEq, Nat.reduceAdd, Nat.zero_add, Try.results71]
  intro b1 b2
  refine (stp_app2 (c := 1) (b := w.b) (off := w.off) (nl := w.nl) (n := ms.length) (cap := w.cap) (x := .osl 3 false b2 0 1 1) (gx := litF 15 (encM { m with fr := s.id, tm := s.hT })) (m := 1) (f := rowsV encM ms) (f2 := rowsV encM (ms ++ [{ m with fr := s.id, tm := s.hT }])) (N := ms.length + 1) rfl rfl rfl rfl ⟨rfl, rfl, rfl, rfl, by decide⟩ (fun i j hi hj => ?_) (by omega) rfl (fun i j hi hj => app_one i j hi hj) fun nl' b' off' cap' => ?_).safe trivial
  · obtain rfl : i = 0 := by omega
    have h15 : j = 0 ∨ j = 1 ∨ j = 2 ∨ j = 3 ∨ j = 4 ∨ j = 5 ∨ j = 6 ∨ j = 7 ∨ j = 8 ∨ j = 9 ∨ j = 10 ∨ j = 11 ∨ j = 12 ∨ j = 13 ∨ j = 14 := by omega
    rcases h15 with rfl | rfl | rfl | rfl | rfl | rfl | rfl | rfl | rfl | rfl | rfl | rfl | rfl | rfl | rfl <;> simp [litF, encM, one, Value.oneCell']
  refine ⟨by simp only [recheck, recheck1, go_sem, Nat.reduceBEq, Nat.reduceAdd, Nat.zero_add], go_ok _ 100 _ _ ?_⟩
  simp only [go_sem, Nat.reduceBEq, Nat.reduceAdd, Nat.zero_add, reduceCtorEq, Try.results71]
  simp only [List.length_append, List.length_singleton]
  exact ⟨⟨nl', b', off', cap'⟩, _, rfl⟩

/-- what a leader knows of a voter -/
structure PeL where
  id : Int
  b : Nat
  nx : Int
  mt : Int
  hd : Int
instance : Inhabited PeL := ⟨⟨0, 0, 0, 0, 0⟩⟩
def kvI : KV Int := ⟨fun n => .int .i64 n, .int .i64, fun x y h => by simpa using h, fun _ => rfl⟩
def pmC (pm : Option Nat) (l : List PeL) : Chunk := match pm with
  | none => .emp
  | some M => mpC kvI M (l.map fun p => (p.id, .ptr 0 p.b 0))
def encW (x : Int × Int × Int) : List SV := [I x.1, I x.2.1, I x.2.2]
def encQ (x : Int × Int) : List SV := [I x.1, I x.2]
/-- a node in memory: its cells' own values, its rows, what it knows of the others -/
structure NL where
  s : RS
  o : Vo
  dt : By
  wv : Rw
  votes : List Int
  ww : Rw
  waits : List (Int × Int × Int)
  wr : Rw
  reads : List (Int × Int)
  wm : Rw
  msgs : List MsL
  pm : Option Nat
  peers : List PeL
def NL.rs (n : NL) : RS := { n.s with dat := n.dt.sv, mV := vI n.o.ma n.o.mc n.o.mv, fi := vI n.o.fa n.o.fc n.o.fv, votes := n.wv.sv 1 n.votes.length, waits := n.ww.sv 2 n.waits.length, reads := n.wr.sv 3 n.reads.length, msgs := n.wm.sv 4 n.msgs.length, peers := .val (.map n.pm) }
end Go.SX

/- Raft: a node in memory, whole: it follows. -/
namespace Go.SX
open Go.Proofs
set_option maxRecDepth 1000000
variable {E : Env}

theorem rowB_nil (ro : RO) (b : Nat) (t : TypeId) (off sz : Nat) (f : Nat → Nat → SV) : (Chunk.row true b t off sz 0 0 f).sat ro [] := by simp [Chunk.sat]
def peC (p : PeL) : Chunk := .cells p.b 111 [I p.nx, I p.mt, I p.hd]
/-- the node's memory: its cells, its four rows, the map of the others, what is known of them -/
@[go_sem] def nO (b : Nat) (n : NL) : List Chunk := [rC b n.rs, n.wv.ch 3 1 encI n.votes, n.ww.ch 100 3 encW n.waits, n.wr.ch 48 2 encQ n.reads, n.wm.ch 54 15 encM n.msgs, pmC n.pm n.peers, sepC (n.peers.map peC)]
def nilR : Rw := ⟨true, 0, 0, 0⟩
def NL.anew (n : NL) : NL := { n with s := { n.s with ticks := 0, taken := n.s.draw } }
def NL.followed (n : NL) : NL := { n with s := { n.s with ticks := if n.s.role ≠ 0 then 0 else n.s.ticks, taken := if n.s.role ≠ 0 then n.s.draw else n.s.taken, role := 0, leader := -1, round := 0 }, wv := nilR, votes := [], ww := nilR, waits := [], pm := none, peers := [] }
theorem Sees.drop {x y : Chunk} {a b : List Chunk} (hy : ∀ ro, y.sat ro []) (h : Sees a b) : Sees (x :: a) (y :: b) := Sees.cons (fun ro H _ => ⟨[], H, by simp, hy ro⟩) h
theorem nil_ch (T : TypeId) (sz : Nat) {α : Type} [Inhabited α] (enc : α → List SV) (ro : RO) : (nilR.ch T sz enc []).sat ro [] := rowB_nil ro 0 T 0 sz (rowsV enc [])
theorem sep_nil (ro : RO) : (sepC []).sat ro [] := ⟨[], List.Perm.refl _, rfl⟩
theorem cells_imp {ro : RO} {H : Hp} {b : Nat} {T : TypeId} {cs cs' : List SV} (hd : SV.dens cs' = SV.dens cs) (hk : SV.oks ro cs → SV.oks ro cs') (h : (Chunk.cells b T cs).sat ro H) : (Chunk.cells b T cs').sat ro H := by
  obtain ⟨h1, h2⟩ := h
  exact ⟨by rw [h1, hd], hk h2⟩
theorem c70n (b : Nat) (n : NL) : Spec Try.prog E 70 [.ptr 0 b 0] (nO b n) (fun _ hp => hp = nO b n.anew) := by
  refine spec_of (keep := k70) (args' := [.ptr 0 b 0]) Try.func70 rfl Try.ntmps70 s70_ok (by simp) ⟨rfl, fun _ h => h⟩ (fun _ _ h => h) (go_ok _ 100 _ _ ?_)
  simp only [go_sem, s70, k70, NL.rs, Nat.reduceBEq, Nat.reduceAdd, Nat.zero_add, Try.results70]
  rfl
theorem c51n (b : Nat) (n : NL) : Spec Try.prog E 51 [.ptr 0 b 0] (nO b n) (fun _ hp => hp = nO b n.followed) := by
  refine Spec.see2 ?_
  generalize hP : SeeP _ = P
  have fin : ∀ v hp, Sees hp (nO b n.followed) → P v hp := fun v hp h => by rw [← hP]; exact ⟨v, _, rfl, fun _ h => h, h, rfl⟩
  refine spec_of (keep := k51) (args' := [.ptr 0 b 0]) Try.func51 rfl Try.ntmps51 s51_ok (by simp) ⟨rfl, fun _ h => h⟩ (fun _ _ h => h) (go_ok _ 100 _ _ ?_)
  simp only [go_sem, s51, k51, NL.rs, Nat.reduceBEq, Nat.reduceAdd, Nat.zero_add, Try.results51]
  refine ⟨fun h => ?_, fun h => ?_⟩
  · have h' : n.s.role ≠ 0 := by simpa using h
    refine (stp_call [0] rfl rfl rfl ⟨_, Try.func70, rfl, rfl⟩ (c70 b n.rs) rfl (fun _ h => h) rfl (fun _ _ h => h) ?_).safe trivial
    rintro v hp rfl
    refine ⟨trivial, go_ok _ 100 _ _ ?_⟩
    simp only [go_sem, NL.rs, Nat.reduceBEq, Nat.reduceAdd, Nat.zero_add, Try.results51]
    refine fin _ _ (Sees.cons (fun ro H h => ⟨H, [], by simp, ?_⟩) (Sees.drop (nil_ch 3 1 encI) (Sees.drop (nil_ch 100 3 encW) (Sees.same (Sees.same (Sees.drop (fun _ => rfl) (Sees.drop sep_nil (Sees.refl []))))))))
    simp only [NL.followed, NL.rs, if_pos h']
    refine cells_imp ?_ (fun h => ?_) h
    · rfl
    simp only [RS.cs, nilR, Rw.sv, SV.oks, SV.ok, true_and, and_true] at h ⊢
    exact h.imp_right fun h => h.imp_right fun h => h.imp_right fun h => h.1
  · have h' : ¬ n.s.role ≠ 0 := by simpa using h
    refine fin _ _ (Sees.cons (fun ro H h => ⟨H, [], by simp, ?_⟩) (Sees.drop (nil_ch 3 1 encI) (Sees.drop (nil_ch 100 3 encW) (Sees.same (Sees.same (Sees.drop (fun _ => rfl) (Sees.drop sep_nil (Sees.refl []))))))))
    simp only [NL.followed, NL.rs, if_neg h']
    refine cells_imp ?_ (fun h => ?_) h
    · rfl
    simp only [RS.cs, nilR, Rw.sv, SV.oks, SV.ok, true_and, and_true] at h ⊢
    exact h.imp_right fun h => h.imp_right fun h => h.imp_right fun h => h.1
end Go.SX
