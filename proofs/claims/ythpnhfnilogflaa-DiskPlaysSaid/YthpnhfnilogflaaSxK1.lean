/- Contracts of the disk package: names. -/
import Derived.Test.YthpnhfnilogflaaSxKA
import Derived.Test.YthpnhfnilogflaaSxKB
import Derived.Test.YthpnhfnilogflaaSxX
namespace Go.SX
open Go.Proofs
set_option maxRecDepth 1000000
variable {E : Env}

def okc (c : Int) : Bool := !((decide (c < 97) || decide (122 < c)) && (decide (c < 48) || decide (57 < c)) && decide (c ≠ 46) && decide (c ≠ 45))
def nameB (x : List UInt8) : Bool := x.all (fun c => okc c.toNat) && (decide (0 < (x.length : Int)) && decide ((x.length : Int) ≤ 40))

theorem get_at (x : List UInt8) (i : Nat) : (ByteArray.get! ⟨x.toArray⟩ i) = x.getD i default := by
  simp [ByteArray.get!, List.getD_eq_getElem?_getD]
theorem decode_lo {x : List UInt8} {i : Nat} (h : (x.getD i default).toNat < 128) : Utf8.decode ⟨x.toArray⟩ i = ((x.getD i default).toNat, 1) := by
  unfold Utf8.decode
  simp only [Nat.add_zero, get_at]
  rw [if_pos h]
theorem decode_hi {x : List UInt8} {i : Nat} (h : 128 ≤ (x.getD i default).toNat) : 128 ≤ (Utf8.decode ⟨x.toArray⟩ i).1 := by
  unfold Utf8.decode
  simp only [Nat.add_zero, get_at]
  rw [if_neg (by omega)]
  unfold Utf8.runeError
  repeat' split
  all_goals (first | (simp; done) | (simp_all; done) | (simp_all; omega))

theorem c33 (x : List UInt8) : Spec Try.prog E 33 [T x] [] (fun v hp => v = Bl (nameB x) ∧ hp = []) := by
  refine Spec.leave (Post := fun v hp => v = Bl (nameB x) ∧ ∃ X, hp = X) ?_ (fun v hp ⟨h1, X, h2⟩ => ⟨[], X, by simpa using h2, h1, rfl⟩)
  refine spec_of (keep := k33) (args' := [T x]) Try.func33 rfl Try.ntmps33 s33_ok (by simp) ⟨rfl, fun _ h => h⟩ (fun _ _ h => h) (go_ok _ 100 _ _ ?_)
  simp only [go_sem, s33, k33, Nat.reduceBEq]
  refine (stp_strrange (mo := .t 5) (s := ⟨x.toArray⟩) rfl rfl rfl fun r => ?_).safeE rfl
  refine ⟨trivial, go_ok _ 100 _ _ ?_⟩
  simp only [go_sem, Nat.reduceBEq]
  refine safe_loop (ι := {p : Nat // p ≤ x.length ∧ ∀ i, i < p → okc (x.getD i default).toNat = true}) (fun p => ⟨[(0, T x), (6, .val (.pointer (some ⟨r, 0, none⟩)))], [strI r ⟨x.toArray⟩ p.1]⟩) (fun p => x.length - p.1) ⟨0, Nat.zero_le _, fun i hi => absurd hi (by omega)⟩
    (Sub.front (X := []) ⟨rfl, rfl, trivial⟩ rfl) ?_
  rintro ⟨p, hp, hok⟩
  refine go_ok _ 100 _ _ ?_
  simp only [go_sem]
  refine (stp_strnext (ito := .t 6) (r := r) (s := ⟨x.toArray⟩) (pos := p) 0 rfl rfl rfl (fun hge => ?_) (fun hlt => ?_)).safeE rfl
  · refine ⟨trivial, go_ok _ 100 _ _ ?_⟩
    simp only [go_sem, Nat.reduceBEq, Try.results33]
    have hpl : p = x.length := by have : x.toArray.size ≤ p := hge; simp at this; omega
    refine ⟨?_, _, rfl⟩
    have hall : x.all (fun c => okc c.toNat) = true := by
      rw [List.all_eq_true]
      intro c hc
      obtain ⟨i, hi, rfl⟩ := List.getElem_of_mem hc
      have := hok i (by omega)
      rwa [List.getD_eq_getElem?_getD, List.getElem?_eq_getElem hi] at this
    simp only [nameB, hall, Bool.true_and, List.size_toArray]
  · have hlt' : p < x.length := by have : p < x.toArray.size := hlt; simpa using this
    refine ⟨trivial, go_ok _ 100 _ _ ?_⟩
    simp only [go_sem, Nat.reduceBEq, Try.results33]
    refine ⟨⟨?_, fun hbad => ⟨?_, _, rfl⟩, fun hgood => ?_⟩, fun h => absurd h (by decide)⟩
    · generalize (decide (((Utf8.decode ⟨x.toArray⟩ p).1 : Int) < 97) || decide (122 < ((Utf8.decode ⟨x.toArray⟩ p).1 : Int))) = q
      cases q <;> cases decide (((Utf8.decode ⟨x.toArray⟩ p).1 : Int) < 48) <;> decide
    · have hno : okc (x.getD p default).toNat = false := by
        rcases Nat.lt_or_ge (x.getD p default).toNat 128 with h | h
        · rw [decode_lo h] at hbad
          simp only [okc, hbad, Bool.not_true]
        · generalize (x.getD p default).toNat = q at h ⊢
          have h1 : decide (122 < (q : Int)) = true := by simp; omega
          have h2 : decide (57 < (q : Int)) = true := by simp; omega
          have h3 : decide ((q : Int) ≠ 46) = true := by simp; omega
          have h4 : decide ((q : Int) ≠ 45) = true := by simp; omega
          simp only [okc, h1, h2, h3, h4, Bool.or_true, Bool.and_self, Bool.not_true]
      have hall : x.all (fun c => okc c.toNat) = false := by
        rw [List.all_eq_false]
        refine ⟨x[p], List.getElem_mem hlt', ?_⟩
        rw [List.getD_eq_getElem?_getD, List.getElem?_eq_getElem hlt'] at hno
        simpa using hno
      simp only [nameB, hall, Bool.false_and]
    · have hlo : (x.getD p default).toNat < 128 := by
        rcases Nat.lt_or_ge (x.getD p default).toNat 128 with h | h
        · exact h
        · exfalso
          have hd := decode_hi h
          generalize (Utf8.decode ⟨x.toArray⟩ p).1 = c at hd hgood
          simp at hgood
          omega
      have hok' : okc (x.getD p default).toNat = true := by
        rw [decode_lo hlo] at hgood
        simp only [okc, hgood, Bool.not_false]
      refine safe_lend ⟨p + (Utf8.decode ⟨x.toArray⟩ p).2, ?_⟩ ?_ (Sub.front (X := []) ⟨rfl, rfl, trivial⟩ rfl)
      · rw [decode_lo hlo]
        refine ⟨hlt', fun i hi => ?_⟩
        rcases Nat.lt_or_ge i p with h | h
        · exact hok i h
        · obtain rfl : i = p := by omega
          exact hok'
      · show x.length - (p + (Utf8.decode ⟨x.toArray⟩ p).2) < x.length - p
        rw [decode_lo hlo]
        show x.length - (p + 1) < x.length - p
        omega
end Go.SX
