/- Contracts of the raft laws: numbers within bounds; voters written. -/
import Derived.Test.YtpbbpmhahkeekaaSxR20
namespace Go.SX
open Go.Proofs
set_option maxRecDepth 1000000
variable {E : Env}

theorem tmod_emod {x n : Int} (h : 0 < n) : (if Int.tmod x n < 0 then Int.tmod x n + n else Int.tmod x n) = x % n := by
  have h1 := Int.mul_tdiv_add_tmod x n
  have hlt : Int.tmod x n < n := Int.tmod_lt_of_pos x h
  have hgt : -n < Int.tmod x n := Int.neg_lt_of_neg_lt (Int.neg_tmod x n ▸ Int.tmod_lt_of_pos (-x) h)
  have e : x % n = Int.tmod x n % n := by
    conv => lhs; rw [← h1]
    rw [Int.add_comm, Int.add_mul_emod_self_left]
  rw [e]
  split
  · rw [← Int.add_emod_right, Int.emod_eq_of_lt (by omega) (by omega)]
  · rw [Int.emod_eq_of_lt (by omega) hlt]

theorem c21 (x n : Int) (h : 0 < n) (hn : n ≤ 2 ^ 62) : Spec Try.prog E 21 [I x, I n] [] (fun v hp => v = I (x % n) ∧ hp = []) := by
  have hlt : Int.tmod x n < n := Int.tmod_lt_of_pos x h
  have hgt : -n < Int.tmod x n := Int.neg_lt_of_neg_lt (Int.neg_tmod x n ▸ Int.tmod_lt_of_pos (-x) h)
  refine spec_of (keep := k21) (args' := [I x, I n]) Try.func21 rfl Try.ntmps21 s21_ok (by simp) ⟨rfl, fun _ h => h⟩ (fun _ _ h => h) (go_ok _ 100 _ _ ?_)
  simp only [go_sem, s21, k21, Nat.reduceBEq, Nat.reduceAdd, Nat.zero_add, Try.results21]
  have e := tmod_emod (x := x) h
  refine ⟨by omega, fun hc => ⟨by simp only [inI64]; omega, ?_⟩, fun hc => ?_⟩
  · rw [if_pos (by simpa using hc)] at e
    rw [e]
  · rw [if_neg (by simpa using hc)] at e
    rw [e]

/-- the byte of a number -/
def by8 (n : Int) : UInt8 := UInt8.ofNat (n % 256).toNat
theorem by8_val (n : Int) : ((by8 n).toNat : Int) = IntKind.u8.wrap n := by
  rw [IntKind.wrap_u8']
  simp only [by8, UInt8.toNat_ofNat']
  omega
/-- a number's first bytes, most significant first -/
def be8 (x : Int) (j : Nat) : List UInt8 := (List.range j).map fun m : Nat => by8 (shrI .i64 x (8 * (7 - (m : Int))))
theorem be8_len (x : Int) (j : Nat) : (be8 x j).length = j := by simp [be8]
theorem be8_succ (x : Int) (j : Nat) : be8 x (j + 1) = be8 x j ++ [by8 (shrI .i64 x (8 * (7 - (j : Int))))] := by simp [be8, List.range_succ]
def encV (xs : List Int) : List UInt8 := by8 xs.length :: xs.flatMap fun x => be8 x 8
def encVp (xs : List Int) (i : Nat) : List UInt8 := by8 xs.length :: (xs.take i).flatMap fun x => be8 x 8
theorem encVp_len (xs : List Int) : ∀ i, i ≤ xs.length → (encVp xs i).length = 1 + 8 * i := by
  intro i
  induction i with
  | zero => intro _; simp [encVp]
  | succ i ih =>
    intro hi
    have := ih (by omega)
    simp only [encVp, List.length_cons] at this ⊢
    rw [List.take_add_one, List.flatMap_append, List.length_append]
    simp only [List.getElem?_eq_getElem (show i < xs.length by omega), Option.toList_some, List.flatMap_cons, List.flatMap_nil, List.append_nil, be8_len]
    omega
theorem encVp_succ (xs : List Int) (i : Nat) (hi : i < xs.length) : encVp xs (i + 1) = encVp xs i ++ be8 (xs.getD i 0) 8 := by
  simp only [encVp]
  rw [List.take_add_one, List.flatMap_append]
  simp [List.getElem?_eq_getElem hi, List.getD_eq_getElem?_getD]

/-- a byte more -/
theorem app_byte {ys : List UInt8} {b : UInt8} {v : SV} (hv : v = .val (.int .u8 ((b.toNat : Nat) : Int))) : ∀ i j, i < ys.length + 1 → j < 1 → appF (rowsV encB ys) ys.length (litF 1 [v]) i j = rowsV encB (ys ++ [b]) i j := by
  intro i j hi hj
  obtain rfl : j = 0 := by omega
  rw [← appF_rows]
  unfold appF
  cases h : Nat.blt i ys.length with
  | true => simp only [cond_true]
  | false =>
    simp only [cond_false]
    have : ys.length ≤ i := by
      rcases Nat.lt_or_ge i ys.length with h' | h'
      · rw [← Nat.blt_eq, h] at h'
        cases h'
      · exact h'
    rw [show i - ys.length = 0 by omega]
    subst hv
    rfl

theorem getC_set : ∀ (l : List Chunk) (n : Nat) (d : Chunk), n < l.length → getC (setC l n d) n = d
  | [], _, _, h => by simp at h
  | _ :: _, 0, _, _ => rfl
  | _ :: l, n + 1, d, h => by simp only [setC, getC]; exact getC_set l n d (by simpa using h)
/-- append, the row's values named -/
theorem stp_app2 {S : Setup} {k : List Frag} {st : St} {d e sz bytes : Nat} {z : List Value} {so xo : Opd} {ps : List SOp} {l : List (SOp × List SOp)} {c b off n cap N : Nat} {nl : Bool} {x : SV} {f gx f2 : Nat → Nat → SV} {m : Nat} {vc : Prop}
    (hs : opv st.env so = some (.osl c nl b off n cap)) (hx : opv st.env xo = some x) (hch : getC st.heap c = .row nl b e off sz n cap f) (hsrc : srcV st.heap x sz = some (m, gx, vc)) (hvc : vc) (hones : onesF gx m sz) (hfit : (n + m) * bytes ≤ 140737488355328)
    (hN : n + m = N) (hf : ∀ i j, i < N → j < sz → appF f n gx i j = f2 i j)
    (h : ∀ nl' b' off' cap', recheck S.C ⟨(d, .osl c nl' b' off' N cap') :: st.env, setC st.heap c (.row nl' b' e off' sz N cap' (appF f n gx))⟩ ps ∧
      Safe S (.ops l :: k) ⟨(d, .osl c nl' b' off' N cap') :: st.env, setC st.heap c (.row nl' b' e off' sz N cap' f2)⟩) :
    Stp S k l ps st (.app d e sz bytes z so xo) := by
  subst hN
  refine stp_app hs hx hch hsrc hvc hones hfit fun nl' b' off' cap' => ⟨(h nl' b' off' cap').1, ?_⟩
  refine Safe.sub (st' := ⟨(d, .osl c nl' b' off' (n + m) cap') :: st.env, setC st.heap c (.row nl' b' e off' sz (n + m) cap' f2)⟩) ⟨fun t s ht => ⟨s, ht, rfl, fun _ h => h⟩, fun ro H hh => ⟨H, [], by simp, ?_⟩⟩ (h nl' b' off' cap').2
  have := hsat_set c (d := .row nl' b' e off' sz (n + m) cap' f2) (fun H hr => by
    rw [getC_set _ _ _ (getC_lt (by rw [hch]; simp))] at hr
    exact row_congr hf hr) hh
  rwa [setC_setC] at this

theorem c49 (a : Option Addr) (cap : Nat) (xs : List Int) (hl : xs.length ≤ 1000) : Spec Try.prog E 49 [vI a cap xs] [] (fun v hp => hp = [] ∧ ∃ a' cap', v = vB a' cap' (encV xs)) := by
  refine Spec.frz (Post := fun v hp => ∃ (nl : Bool) (b off cap' : Nat) (X : List Chunk), v = .osl 0 nl b off (encV xs).length cap' ∧ hp = .row nl b 5 off 1 (encV xs).length cap' (rowsV encB (encV xs)) :: X) ?_ (fun v hp ⟨nl, b, off, cap', X, h1, h2⟩ => .inr ⟨0, nl, b, 5, off, 1, _, cap', _, h1, ⟨X, h2⟩, rfl, _, _, rfl⟩)
  refine spec_of (keep := k49) (args' := [vI a cap xs]) Try.func49 rfl Try.ntmps49 s49_ok (by simp) ⟨rfl, fun _ h => h⟩ (fun _ _ h => h) (go_ok _ 100 _ _ ?_)
  simp only [go_sem, s49, k49, Nat.reduceBEq, Nat.reduceAdd, Nat.zero_add]
  intro b0
  refine safe_loop (ι := {p : Nat × Bool × Nat × Nat × Nat // p.1 ≤ xs.length}) (fun p => ⟨[(0, vI a cap xs), (3, .osl 0 p.1.2.1 p.1.2.2.1 p.1.2.2.2.1 (encVp xs p.1.1).length p.1.2.2.2.2), (4, I p.1.1)], [.row p.1.2.1 p.1.2.2.1 5 p.1.2.2.2.1 1 (encVp xs p.1.1).length p.1.2.2.2.2 (rowsV encB (encVp xs p.1.1))]⟩)
    (fun p => xs.length - p.1.1) ⟨(0, false, b0, 0, 1), Nat.zero_le _⟩ (Sub.heap (by simp [envSub, look, encVp]) ?_) ?_
  · intro ro H h
    refine hsat_set (hp := [.row false b0 5 0 1 1 1 _]) 0 (fun H hh => row_congr (fun i j hi hj => ?_) hh) h
    have hi : i < 1 := hi
    obtain rfl : i = 0 := by omega
    obtain rfl : j = 0 := by omega
    simp only [litF, encVp, rowsV, encB, List.take_zero, List.flatMap_nil, List.getD_cons_zero, Nat.zero_mul, Nat.zero_add, by8_val]
  rintro ⟨⟨i, nl, b, off, cp⟩, hi⟩
  simp only at hi
  refine go_ok _ 100 _ _ ?_
  simp only [go_sem, Nat.reduceBEq, Nat.reduceAdd, Nat.zero_add, Try.results49]
  refine ⟨fun h => ?_, fun h => ?_⟩
  · have hlt : i < xs.length := by simpa using h
    have hlen := encVp_len xs i hi
    refine safe_loop (ι := {p : Nat × Bool × Nat × Nat × Nat // p.1 ≤ 8}) (fun p => ⟨[(0, vI a cap xs), (3, .osl 0 p.1.2.1 p.1.2.2.1 p.1.2.2.2.1 (encVp xs i ++ be8 (xs.getD i 0) p.1.1).length p.1.2.2.2.2), (4, I i), (5, I (7 - (p.1.1 : Int)))],
        [.row p.1.2.1 p.1.2.2.1 5 p.1.2.2.2.1 1 (encVp xs i ++ be8 (xs.getD i 0) p.1.1).length p.1.2.2.2.2 (rowsV encB (encVp xs i ++ be8 (xs.getD i 0) p.1.1))]⟩)
      (fun p => 8 - p.1.1) ⟨(0, nl, b, off, cp), Nat.zero_le _⟩ (Sub.front (X := []) (by simp [envSub, look, be8]) (by simp [be8])) ?_
    rintro ⟨⟨j, nl2, b2, off2, cp2⟩, hj⟩
    simp only at hj
    refine go_ok _ 100 _ _ ?_
    simp only [go_sem, Nat.reduceBEq, Nat.reduceAdd, Nat.zero_add, Try.results49, Int.toNat_natCast]
    refine ⟨fun h2 => ?_, fun h2 => ?_⟩
    · have hj8 : j < 8 := by simp at h2; omega
      have hjl := be8_len (xs.getD i 0) j
      have hyl : (encVp xs i ++ be8 (xs.getD i 0) j).length ≤ 10000 := by simp only [List.length_append, hlen, hjl]; omega
      refine ⟨by omega, by omega, by simp only [inI64]; omega, by omega, fun b1 => ?_⟩
      refine (stp_app2 (c := 0) (x := .osl 1 false b1 0 1 1) (N := (encVp xs i ++ be8 (xs.getD i 0) (j + 1)).length) (f2 := rowsV encB (encVp xs i ++ be8 (xs.getD i 0) (j + 1))) (gx := litF 1 [.val (.int .u8 (IntKind.u8.wrap (shrI .i64 (xs.getD i 0) (8 * (7 - (j : Int))))))]) rfl rfl rfl rfl ⟨rfl, rfl, rfl, rfl, by decide⟩ (fun i j hi hj => ?_) (by omega)
        (by simp [be8_len]; omega) (fun i' j' hi' hj' => ?_) fun nl' b' off' cap' => ?_).safe trivial
      · obtain rfl : i = 0 := by omega
        obtain rfl : j = 0 := by omega
        simp [litF, one, Value.oneCell']
      · rw [be8_succ, ← List.append_assoc]
        exact app_byte (ys := encVp xs i ++ be8 (xs.getD i 0) j) (b := by8 (shrI .i64 (xs.getD i 0) (8 * (7 - (j : Int))))) (by rw [by8_val]) i' j' (by simp [be8_len] at hi' ⊢; omega) hj'
      refine ⟨trivial, go_ok _ 100 _ _ ?_⟩
      simp only [go_sem, Nat.reduceBEq, Nat.reduceAdd, Nat.zero_add]
      refine ⟨by simp only [inI64]; omega, ?_⟩
      refine safe_lend ⟨(j + 1, nl', b', off', cap'), by simp only; omega⟩ (by simp only; omega) (Sub.front (X := [_]) ?_ rfl)
      simp only [envSub, look, go_sem, Nat.reduceBEq, and_true, Option.some.injEq]
      congr 2
      omega
    · have hj8 : j = 8 := by simp at h2; omega
      subst hj8
      refine ⟨by simp only [inI64]; omega, ?_⟩
      refine safe_lend ⟨(i + 1, nl2, b2, off2, cp2), hlt⟩ (by simp only; omega) (Sub.front (X := []) (by simp [envSub, look, encVp_succ xs i hlt]) (by simp [encVp_succ xs i hlt]))
  · have hi' : i = xs.length := by simp at h; omega
    subst hi'
    have : encVp xs xs.length = encV xs := by simp [encVp, encV]
    rw [this]
    exact ⟨nl, b, off, cp, [], rfl, rfl⟩
end Go.SX
