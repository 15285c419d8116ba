/- Contracts of the raft package: voters read. -/
import Derived.Test.YtpbbpmhahkeekaaSxR25
namespace Go.SX
open Go.Proofs
set_option maxRecDepth 1000000
variable {E : Env}

def chunk8 (xs : List UInt8) (c : Nat) : List UInt8 := (xs.drop (1 + 8 * c)).take 8
def badB (xs : List UInt8) : Bool := decide (xs.length = 0) || decide (xs.length ≠ 1 + 8 * (xs.getD 0 0).toNat)
def outsB (xs : List UInt8) (n : Nat) : List Int := (List.range n).map fun c => ((beN (chunk8 xs c) : Nat) : Int)
/-- who votes, by these bytes -/
def rdV (xs : List UInt8) : List Int := if badB xs then [] else outsB xs ((xs.length - 1) / 8)
theorem outsB_len (xs : List UInt8) (n : Nat) : (outsB xs n).length = n := by simp [outsB]
theorem outsB_succ (xs : List UInt8) (n : Nat) : outsB xs (n + 1) = outsB xs n ++ [((beN (chunk8 xs n) : Nat) : Int)] := by simp [outsB, List.range_succ]
theorem chunk8_step {xs : List UInt8} {c j : Nat} (hj : j < 8) (hc : 1 + 8 * c + j < xs.length) : (chunk8 xs c).take (j + 1) = (chunk8 xs c).take j ++ [xs.getD (j + (1 + 8 * c)) 0] := by
  rw [List.take_add_one]
  congr 1
  have : (chunk8 xs c)[j]? = some (xs.getD (j + (1 + 8 * c)) 0) := by
    unfold chunk8
    rw [List.getElem?_take, if_pos hj, List.getElem?_drop]
    rw [show 1 + 8 * c + j = j + (1 + 8 * c) by omega]
    simp [List.getD_eq_getElem?_getD, show j + (1 + 8 * c) < xs.length by omega]
  rw [this]
  rfl

theorem app_int {ys : List Int} {x : Int} : ∀ i j, i < ys.length + 1 → j < 1 → appF (rowsV encI ys) ys.length (litF 1 [I x]) i j = rowsV encI (ys ++ [x]) i j := by
  intro i j hi hj
  obtain rfl : j = 0 := by omega
  rw [← appF_rows]
  unfold appF
  cases h : Nat.blt i ys.length with
  | true => simp only [cond_true]
  | false =>
    simp only [cond_false]
    have : ys.length ≤ i := by
      rcases Nat.lt_or_ge i ys.length with h' | h'
      · rw [← Nat.blt_eq, h] at h'
        cases h'
      · exact h'
    rw [show i - ys.length = 0 by omega]
    rfl

structure G85 (xs : List UInt8) where
  c : Nat
  nl : Bool
  b : Nat
  off : Nat
  cp : Nat
  ad : Option Addr
  cap : Nat
  ff : Nat → Nat → SV
  hc : 1 + 8 * c ≤ xs.length
  hcap : xs.length - (1 + 8 * c) ≤ cap
  hff : ∀ i, ff i = rowsV encB xs (i + (1 + 8 * c))

theorem c85 (a : Option Addr) (cap : Nat) (xs : List UInt8) (hl : xs.length ≤ 2 ^ 40) (hok : ∀ c, beN (chunk8 xs c) < 2 ^ 63) :
    Spec Try.prog E 85 [vB a cap xs] [] (fun v hp => ∃ a' cap', v = .tup [vI a' cap' (rdV xs), Bl (areV (rdV xs))]) := by
  refine Spec.of_ok fun ⟨ro, hro⟩ => ?_
  have hv := oks_iff.1 hro _ (List.mem_singleton.2 rfl)
  simp only [SV.ok] at hv
  have hcap := hv.1
  refine Spec.conv (Post := fun v hp => (badB xs = true ∧ v = .tup [nilS, Bl false]) ∨ (badB xs = false ∧ ∃ a' cap', v = .tup [vI a' cap' (rdV xs), Bl (areV (rdV xs))])) ?_ ?_
  · refine spec_of (keep := k85) (args' := [vB a cap xs]) Try.func85 rfl Try.ntmps85 s85_ok (by simp) ⟨rfl, fun _ h => h⟩ (fun _ _ h => h) (go_ok _ 100 _ _ ?_)
    simp only [go_sem, s85, k85, Nat.reduceBEq, Nat.reduceAdd, Nat.zero_add, Try.results85]
    have hx0 : (xs.getD 0 0).toNat < 256 := (xs.getD 0 0).toNat_lt
    have hbe : badB xs = (decide ((xs.length : Int) = 0) || decide ((xs.length : Int) ≠ 1 + 8 * ((xs.getD (Int.toNat 0) 0).toNat : Int))) := by
      unfold badB
      rw [Int.toNat_zero]
      congr 1
      · apply Bool.eq_iff_iff.2; simp
      · apply Bool.eq_iff_iff.2; simp; omega
    rw [Int.toNat_zero] at *
    have hpos : decide ((xs.length : Int) = 0) = false → 0 < (xs.length : Int) := fun h => by simp at h; have := List.length_pos_iff.2 h; omega
    refine ⟨fun h => ⟨h, by decide, hpos h⟩, fun h => ⟨h, by decide⟩, fun h => ⟨h, by simp only [inI64]; omega⟩, fun h => ⟨h, by simp only [inI64]; omega⟩, fun h => ⟨h, by simp only [inI64]; omega⟩, fun h => by rw [h]; rfl, fun h => .inl ⟨by rw [hbe, h], rfl⟩, fun h => ?_⟩
    have hbad : badB xs = false := by rw [hbe, h]
    have hlen : xs.length = 1 + 8 * (xs.getD 0 0).toNat := by
      simp only [badB, Bool.or_eq_false_iff, decide_eq_false_iff_not, Decidable.not_not, ne_eq] at hbad
      exact hbad.2
    refine ⟨by omega, ?_⟩
    refine safe_nilrow 0 3 0 1 (rowsV encI (outsB xs 0)) (env' := [(0, .view (if (cap : Int) = 1 then a else Option.map (fun x => x.add (Int.toNat 1 * 1)) a) (xs.length - 1) (cap - 1) 1 fun i => rowsV encB xs (i + 1)), (2, nilS), (3, Bl false), (4, .osl 0 true 0 0 0 0)]) ⟨rfl, .inl rfl, rfl, .inl rfl, rfl, .inl rfl, rfl, .inr ⟨⟨1, _, rfl⟩, rfl⟩, trivial⟩ ?_
    refine safe_loop (ι := G85 xs) (fun g => ⟨[(0, .view g.ad (xs.length - (1 + 8 * g.c)) g.cap 1 g.ff), (4, .osl 0 g.nl g.b g.off g.c g.cp)], [.row g.nl g.b 3 g.off 1 g.c g.cp (rowsV encI (outsB xs g.c))]⟩) (fun g => xs.length - 8 * g.c)
      ⟨0, true, 0, 0, 0, if (cap : Int) = 1 then a else Option.map (fun x => x.add (Int.toNat 1 * 1)) a, cap - 1, fun i => rowsV encB xs (i + 1), by omega, by omega, fun i => rfl⟩ (Sub.front (X := []) (by simp [envSub, look]) rfl) ?_
    rintro ⟨c, nl, b, off, cp, ad, cap2, ff, hc, hcap2, hff⟩
    refine go_ok _ 100 _ _ ?_
    simp only [go_sem, Nat.reduceBEq, Nat.reduceAdd, Nat.zero_add, Try.results85]
    refine ⟨fun h2 => ?_, fun h2 => ?_⟩
    · have h3 : 1 + 8 * c < xs.length := by simp at h2; omega
      have h8 : 1 + 8 * c + 8 ≤ xs.length := by omega
      refine ⟨by and_intros <;> first | omega | (intros; rfl), ?_⟩
      refine safe_loop (ι := {j : Nat // j ≤ 8}) (fun j => ⟨[(0, .view ad (xs.length - (1 + 8 * c)) cap2 1 ff), (4, .osl 0 nl b off c cp), (5, .val (.int .u64 ((beN ((chunk8 xs c).take j.1) : Nat) : Int))), (30, .view (if (cap2 : Int) = 0 then ad else Option.map (fun x => x.add (Int.toNat 0 * 1)) ad) 8 cap2 1 ff), (31, I 8), (32, I j.1)],
        [.row nl b 3 off 1 c cp (rowsV encI (outsB xs c))]⟩) (fun j => 8 - j.1) ⟨0, Nat.zero_le _⟩ (Sub.front (X := []) ⟨rfl, rfl, rfl, rfl, rfl, rfl, trivial⟩ rfl) ?_
      rintro ⟨j, hj⟩
      refine go_ok _ 100 _ _ ?_
      simp only [go_sem, hff, Nat.reduceBEq, Nat.reduceAdd, Nat.zero_add, Try.results85, Int.toNat_natCast]
      refine ⟨fun h4 => ?_, fun h4 => ?_⟩
      · have hj8 : j < 8 := by simp at h4; omega
        refine ⟨by omega, by decide, by decide, by simp only [inI64]; omega, ?_⟩
        have hb := beN_lt ((chunk8 xs c).take j)
        have hlt : beN ((chunk8 xs c).take j) < 2 ^ 56 := by
          refine Nat.lt_of_lt_of_le hb ?_
          rw [show (2 : Nat) ^ 56 = 256 ^ 7 by decide]
          exact Nat.pow_le_pow_right (by decide) (by simp; omega)
        rw [shl_or hlt (UInt8.toNat_lt _), ← beN_snoc, ← chunk8_step hj8 (by omega)]
        exact safe_lend ⟨j + 1, hj8⟩ (by simp only; omega) (Sub.front (X := []) ⟨rfl, rfl, rfl, rfl, rfl, rfl, trivial⟩ rfl)
      · have hj8 : j = 8 := by simp at h4; omega
        subst hj8
        have h9 : (chunk8 xs c).take 8 = chunk8 xs c := List.take_of_length_le (by simp [chunk8]; omega)
        rw [h9]
        have h10 := hok c
        refine ⟨by simp only [inI64]; omega, fun b1 => ?_⟩
        refine (stp_app2 (c := 0) (x := .osl 1 false b1 0 1 1) (N := c + 1) (f2 := rowsV encI (outsB xs (c + 1))) (gx := litF 1 [I ((beN (chunk8 xs c) : Nat) : Int)]) rfl rfl rfl rfl ⟨rfl, rfl, rfl, rfl, by decide⟩ (fun i j hi hj => ?_) (by omega) rfl (fun i' j' hi' hj' => ?_) fun nl' b' off' cap' => ?_).safe trivial
        · obtain rfl : i = 0 := by omega
          obtain rfl : j = 0 := by omega
          simp [litF, one, Value.oneCell']
        · have := app_int (ys := outsB xs c) (x := ((beN (chunk8 xs c) : Nat) : Int)) i' j' (by rw [outsB_len]; exact hi') hj'
          rw [outsB_len] at this
          rw [outsB_succ]
          exact this
        refine ⟨trivial, go_ok _ 100 _ _ ?_⟩
        simp only [go_sem, Nat.reduceBEq, Nat.reduceAdd, Nat.zero_add]
        rw [show ((((xs.length - (1 + 8 * c) : Nat) : Int)).toNat - Int.toNat 8) = xs.length - (1 + 8 * (c + 1)) by rw [Int.toNat_natCast]; show xs.length - (1 + 8 * c) - 8 = _; omega]
        refine ⟨by omega, ?_⟩
        refine safe_lend (⟨c + 1, nl', b', off', cap', if (cap2 : Int) = 8 then ad else Option.map (fun x => x.add (Int.toNat 8 * 1)) ad, cap2 - 8, fun i => ff (i + 8), by omega, by omega, fun i => by rw [hff]; congr 1; omega⟩ : G85 xs) (by simp only; omega)
          (Sub.front (X := [_]) ⟨rfl, rfl, trivial⟩ rfl)
    · have h3 : xs.length = 1 + 8 * c := by simp at h2; omega
      have hrd : rdV xs = outsB xs c := by
        simp only [rdV, hbad, Bool.false_eq_true, if_false]
        congr 1
        omega
      refine safe_frzC (c := 0) (f' := rowsV encI (outsB xs c)) (env' := [(48, frz nl b off c cp 1 (rowsV encI (outsB xs c))), (47, frz nl b off c cp 1 (rowsV encI (outsB xs c))), (26, Bl (decide (0 < ((xs.length - (1 + 8 * c) : Nat) : Int)))), (0, .view ad (xs.length - (1 + 8 * c)) cap2 1 ff), (4, .osl 0 nl b off c cp)]) rfl (fun _ _ _ _ => rfl)
        ⟨rfl, .inr ⟨rfl, rfl⟩, rfl, .inr ⟨rfl, rfl⟩, rfl, .inl rfl, rfl, .inl rfl, rfl, .inl rfl, trivial⟩ ?_
      have hol := outsB_len xs c
      refine (stp_call [] (args := [vI (if nl = true then none else some ⟨b, off, none⟩) cp (outsB xs c)]) rfl rfl rfl ⟨_, Try.func59, rfl, rfl⟩ (c59 _ cp (outsB xs c) (by rw [hol]; omega)) (by simp only [SV.dens, SV.den, frz, hol, List.nil_append, List.append_nil]) (fun ro h => by simpa only [vI, frz, hol, List.nil_append, List.append_nil] using h) rfl (fun _ _ h => h) ?_).safe trivial
      rintro v hp ⟨rfl, rfl⟩
      refine ⟨trivial, go_ok _ 100 _ _ ?_⟩
      simp only [go_sem, Nat.reduceBEq, Nat.reduceAdd, Nat.zero_add, Try.results85]
      refine .inr ⟨hbad, if nl = true then none else some ⟨b, off, none⟩, cp, ?_⟩
      rw [hrd]
      simp only [frz, vI, hol]
  · rintro v hp (⟨h1, rfl⟩ | ⟨h1, a', cap', rfl⟩)
    · refine ⟨.tup [vI none 0 (rdV xs), Bl (areV (rdV xs))], [], hp, ?_, HEqv.refl _, none, 0, rfl⟩
      have e1 : rdV xs = [] := by simp [rdV, h1]
      rw [e1]
      exact ⟨rfl, fun ro h => by simp only [SV.ok, SV.oks] at h ⊢; exact ⟨⟨Nat.le_refl _, fun i j hi => absurd hi (by simp)⟩, trivial, trivial⟩⟩
    · exact ⟨_, [], hp, Eqv.refl _, HEqv.refl _, a', cap', rfl⟩
end Go.SX
