/- Joined texts: DR DS DT DU DV DW. -/
import Derived.Test.YthlkoehifpnoeaaDoorSxCJ2
import Derived.Test.YthlkoehifpnoeaaDoorSxDW0
/- The document's fields. -/
namespace Go.SX
open Go.Proofs
set_option maxRecDepth 1000000
variable {E : Env}

def frI : Option Nat → Int
  | none => -1
  | some f => f
def curOf (x : List UInt8) (fr : Option Nat) (i : Nat) : List UInt8 := match fr with
  | none => []
  | some f => (x.drop f).take (i - f)
structure SW (x : List UInt8) where
  i : Nat
  fr : Option Nat
  acc : List (List UInt8)
  nl : Bool
  b : Nat
  off : Nat
  cap : Nat
  hi : i ≤ x.length + 1
  hf : ∀ f, fr = some f → f < i ∧ i ≤ x.length
  hl : acc.length ≤ i
  h : acc ++ Cron.fieldsA (curOf x fr i) (x.drop i) = Cron.fieldsA [] x
theorem extract_eq (x : List UInt8) (i j : Nat) : (⟨x.toArray⟩ : ByteArray).extract i j = ⟨((x.drop i).take (j - i)).toArray⟩ := by
  apply ByteArray.ext
  simp [ByteArray.data_extract]
theorem cur_ne {x : List UInt8} {f i : Nat} (h : f < i) (h2 : i ≤ x.length) : curOf x (some f) i ≠ [] := by
  intro e
  have := congrArg List.length e
  simp only [curOf, List.length_take, List.length_drop, List.length_nil] at this
  omega
theorem cur_next {x : List UInt8} {f i : Nat} (h : f ≤ i) (h2 : i < x.length) : curOf x (some f) (i + 1) = curOf x (some f) i ++ [x.getD i default] := by
  simp only [curOf]
  have e : i + 1 - f = (i - f) + 1 := by omega
  rw [e, take_snoc (by rw [List.length_drop]; omega)]
  rw [List.getD_eq_getElem?_getD, List.getElem?_drop, List.getD_eq_getElem?_getD, show f + (i - f) = i by omega]
theorem drop_next {x : List UInt8} {i : Nat} (h : i < x.length) : x.drop i = x.getD i default :: x.drop (i + 1) := by
  rw [List.drop_eq_getElem_cons h, List.getD_eq_getElem?_getD, List.getElem?_eq_getElem h]
  rfl
/-- a piece ends -/
theorem fields_end {x : List UInt8} {i : Nat} {cur : List UInt8} (hi : i ≤ x.length) (hb : i = x.length ∨ Cron.blank (x.getD i default) = true) : Cron.fieldsA cur (x.drop i) = (if cur = [] then [] else [cur]) ++ Cron.fieldsA [] (x.drop (i + 1)) := by
  rcases Nat.lt_or_ge i x.length with h | h
  · rcases hb with hb | hb
    · omega
    rw [drop_next h]
    conv => lhs; unfold Cron.fieldsA
    rw [hb, if_pos rfl]
    split <;> rfl
  · rw [List.drop_eq_nil_of_le h, List.drop_eq_nil_of_le (by omega)]
    simp only [Cron.fieldsA, if_true, List.append_nil]
theorem fields_on {x : List UInt8} {i : Nat} {cur : List UInt8} (hi : i < x.length) (hb : Cron.blank (x.getD i default) = false) : Cron.fieldsA cur (x.drop i) = Cron.fieldsA (cur ++ [x.getD i default]) (x.drop (i + 1)) := by
  rw [drop_next hi]
  conv => lhs; unfold Cron.fieldsA
  rw [hb, if_neg (by decide)]
theorem blank_eq (c : UInt8) : Cron.blank c = (decide ((c.toNat : Int) = 32) || decide ((c.toNat : Int) = 9)) := by
  unfold Cron.blank
  rw [Bool.eq_iff_iff]
  simp only [Bool.or_eq_true, beq_iff_eq, decide_eq_true_eq, ← UInt8.toNat_inj]
  have h1 : (32 : UInt8).toNat = 32 := rfl
  have h2 : (9 : UInt8).toNat = 9 := rfl
  omega
theorem frI_ge (fr : Option Nat) : decide (0 ≤ frI fr) = fr.isSome := by
  cases fr with
  | none => rfl
  | some f => exact decide_eq_true (Int.natCast_nonneg _)
theorem frI_lt (fr : Option Nat) : decide (frI fr < 0) = fr.isNone := by
  cases fr with
  | none => rfl
  | some f => exact decide_eq_false (by simp only [frI]; omega)
def FieldsP (x : List UInt8) (v : SV) (hp : List Chunk) : Prop := ∃ a cap, v = vT a cap (Cron.fieldsA [] x) ∧ hp = []
set_option maxHeartbeats 4000000 in
theorem c13 (x : List UInt8) (hx : x.length ≤ 2 ^ 30) : Spec Tryd.prog E 13 [T x] [] (FieldsP x) := by
  refine Spec.frz (Post := fun v hp => ∃ nl b off cap, v = .osl 0 nl b off (Cron.fieldsA [] x).length cap ∧ ∃ X, hp = .row nl b 9 off 1 (Cron.fieldsA [] x).length cap (rowsV encT (Cron.fieldsA [] x)) :: X) ?_ ?_
  rotate_left
  · rintro v hp ⟨nl, b, off, cap, rfl, X, rfl⟩
    exact .inr ⟨0, nl, b, 9, off, 1, _, cap, _, rfl, ⟨X, rfl⟩, _, cap, rfl, rfl⟩
  refine spec_of (keep := k13) (args' := [T x]) Tryd.func13 rfl Tryd.ntmps13 s13_ok (by simp) ⟨rfl, fun _ h => h⟩ (fun _ _ h => h) (go_ok _ 100 _ _ ?_)
  simp only [go_sem, s13, k13, Nat.reduceBEq]
  refine safe_nilrow 0 9 0 1 (rowsV encT ([] : List (List UInt8))) (env' := [(0, T x), (2, nilS), (3, .osl 0 true 0 0 0 0), (4, I (-1)), (5, I 0)]) ?_ ?_
  · simp [NilL, nilS]
  refine safe_loop (ι := SW x) (fun g => ⟨[(0, T x), (2, nilS), (3, .osl 0 g.nl g.b g.off g.acc.length g.cap), (4, I (frI g.fr)), (5, I g.i)], [.row g.nl g.b 9 g.off 1 g.acc.length g.cap (rowsV encT g.acc)]⟩) (fun g => x.length + 1 - g.i)
    ⟨0, none, [], true, 0, 0, 0, Nat.zero_le _, fun _ h => (by cases h), Nat.le_refl _, by simp [curOf]⟩ (Sub.front (X := []) (by simp [envSub, look, frI]) rfl) ?_
  rintro ⟨i, fr, acc, nl, b, off, cap, hi, hf, hl, h⟩
  rcases Nat.lt_or_ge x.length i with hend | hle
  · have e10 : decide ((i : Int) ≤ (x.length : Int)) = false := decide_eq_false (by omega)
    have hfr : fr = none := by
      rcases fr with _ | f
      · rfl
      · have := hf f rfl; omega
    subst hfr
    rw [List.drop_eq_nil_of_le (by omega)] at h
    simp only [curOf, Cron.fieldsA, if_true, List.append_nil] at h
    refine go_ok _ 100 _ _ ?_
    simp only [go_sem, List.size_toArray, e10, Nat.reduceBEq, Nat.zero_add, Tryd.results13]
    rw [← h]
    exact ⟨nl, b, off, cap, rfl, _, rfl⟩
  have e10 : decide ((i : Int) ≤ (x.length : Int)) = true := decide_eq_true (by omega)
  have hge := frI_ge fr
  have hlt := frI_lt fr
  by_cases hil : i = x.length
  · have e16 : decide ((i : Int) = (x.length : Int)) = true := decide_eq_true (by omega)
    rcases fr with _ | f
    · have hnext : acc ++ Cron.fieldsA (curOf x none (i + 1)) (x.drop (i + 1)) = Cron.fieldsA [] x := by
        rw [← h, fields_end hle (.inl hil)]
        rfl
      refine go_ok _ 100 _ _ ?_
      simp only [go_sem, List.size_toArray, e10, e16, hge, hlt, Option.isSome_none, Option.isNone_none, Bool.true_or, Bool.not_true, Bool.false_and, Bool.and_false, Nat.reduceBEq, Nat.zero_add, Tryd.results13]
      refine ⟨⟨fun h => absurd h (by decide), fun h => absurd h (by decide), by simp only [inI64]; omega, ?_⟩, fun h => absurd h (by decide)⟩
      exact safe_lend ⟨i + 1, none, acc, nl, b, off, cap, by omega, fun _ h => (by cases h), by omega, hnext⟩ (by simp only; omega) (Sub.front (X := []) (by simp [envSub, look]) rfl)
    · obtain ⟨hfi, hfl⟩ := hf f rfl
      have hne := cur_ne (x := x) hfi hfl
      have hex : (⟨x.toArray⟩ : ByteArray).extract (frI (some f)).toNat ((i : Int)).toNat = ⟨(curOf x (some f) i).toArray⟩ := by
        simp only [frI, Int.toNat_natCast]
        exact extract_eq x f i
      have hnext : (acc ++ [curOf x (some f) i]) ++ Cron.fieldsA (curOf x none (i + 1)) (x.drop (i + 1)) = Cron.fieldsA [] x := by
        rw [← h, fields_end hle (.inl hil), if_neg hne, List.append_assoc]
        rfl
      refine go_ok _ 100 _ _ ?_
      simp only [go_sem, List.size_toArray, e10, e16, hex, hge, hlt, Option.isSome_some, Option.isNone_some, Bool.true_or, Bool.not_true, Bool.false_and, Bool.and_false, Nat.reduceBEq, Nat.zero_add, Tryd.results13]
      refine ⟨⟨fun h => absurd h (by decide), fun h => absurd h (by decide), ⟨by simp only [frI]; omega, fun bb => ?_⟩, fun h => absurd h (by decide)⟩, fun h => absurd h (by decide)⟩
      refine (stp_app2 (c := 0) (b := b) (off := off) (nl := nl) (n := acc.length) (cap := cap) (x := .osl 1 false bb 0 1 1) (gx := litF 1 (encT (curOf x (some f) i))) (m := 1) (f := rowsV encT acc) (f2 := rowsV encT (acc ++ [curOf x (some f) i])) (N := (acc ++ [curOf x (some f) i]).length) rfl rfl rfl rfl ⟨rfl, rfl, rfl, rfl, Nat.le_refl _⟩ ?_ (by omega) (by simp) (fun i' j hi hj => app_one i' j (by simpa using hi) hj) fun nl' b' off' cap' => ?_).safe trivial
      · intro i' j hi hj
        obtain rfl : i' = 0 := by omega
        obtain rfl : j = 0 := by omega
        simp [litF, encT, one, Value.oneCell']
      refine ⟨trivial, go_ok _ 100 _ _ ?_⟩
      simp only [go_sem, Bool.not_true, Bool.false_and, Nat.reduceBEq]
      refine ⟨by simp only [inI64]; omega, ?_⟩
      exact safe_lend ⟨i + 1, none, acc ++ [curOf x (some f) i], nl', b', off', cap', by omega, fun _ h => (by cases h), by simp; omega, hnext⟩ (by simp only; omega) (Sub.front (X := [_]) (by simp [envSub, look, frI]) rfl)
  · have e16 : decide ((i : Int) = (x.length : Int)) = false := decide_eq_false (by omega)
    have hbt := bt_at (x := x) (k := i) (by omega)
    have hbl := blank_eq (x.getD i default)
    rcases hb : Cron.blank (x.getD i default) with _ | _
    · rw [hb] at hbl
      obtain ⟨q1, q2⟩ := Bool.or_eq_false_iff.1 hbl.symm
      rcases fr with _ | f
      · have hnext : acc ++ Cron.fieldsA (curOf x (some i) (i + 1)) (x.drop (i + 1)) = Cron.fieldsA [] x := by
          rw [← h, fields_on (by omega) hb, cur_next (Nat.le_refl i) (by omega)]
          simp [curOf]
        refine go_ok _ 100 _ _ ?_
        simp only [go_sem, List.size_toArray, e10, e16, hbt, q1, q2, hge, hlt, Option.isSome_none, Option.isNone_none, Bool.true_or, Bool.not_false, Bool.false_and, Nat.reduceBEq, Nat.zero_add, Tryd.results13]
        refine ⟨⟨by omega, by omega, ⟨by simp only [inI64]; omega, ?_⟩, fun h => absurd h (by decide)⟩, fun h => absurd h (by decide)⟩
        exact safe_lend ⟨i + 1, some i, acc, nl, b, off, cap, by omega, fun f hf => by cases hf; omega, by omega, hnext⟩ (by simp only; omega) (Sub.front (X := []) (by simp [envSub, look, frI]) rfl)
      · obtain ⟨hfi, hfl⟩ := hf f rfl
        have hnext : acc ++ Cron.fieldsA (curOf x (some f) (i + 1)) (x.drop (i + 1)) = Cron.fieldsA [] x := by
          rw [← h, fields_on (by omega) hb, cur_next (by omega) (by omega)]
        refine go_ok _ 100 _ _ ?_
        simp only [go_sem, List.size_toArray, e10, e16, hbt, q1, q2, hge, hlt, Option.isSome_some, Option.isNone_some, Bool.true_or, Bool.not_false, Bool.false_and, Nat.reduceBEq, Nat.zero_add, Tryd.results13]
        refine ⟨⟨by omega, by omega, by simp only [inI64]; omega, ?_⟩, fun h => absurd h (by decide)⟩
        exact safe_lend ⟨i + 1, some f, acc, nl, b, off, cap, by omega, fun f' hf' => (by cases hf'; omega), by omega, hnext⟩ (by simp only; omega) (Sub.front (X := []) (by simp [envSub, look, frI]) rfl)
    · rw [hb] at hbl
      have q : (decide (((x.getD i default).toNat : Int) = 32) || decide (((x.getD i default).toNat : Int) = 9)) = true := hbl.symm
      rcases fr with _ | f
      · have hnext : acc ++ Cron.fieldsA (curOf x none (i + 1)) (x.drop (i + 1)) = Cron.fieldsA [] x := by
          rw [← h, fields_end hle (.inr hb)]
          rfl
        refine go_ok _ 100 _ _ ?_
        simp only [go_sem, List.size_toArray, e10, e16, hbt, q, hge, hlt, Option.isSome_none, Option.isNone_none, Bool.true_or, Bool.not_true, Bool.false_and, Nat.reduceBEq, Nat.zero_add, Tryd.results13]
        refine ⟨⟨by omega, fun h => ⟨by rw [h]; rfl, by omega⟩, by simp only [inI64]; omega, ?_⟩, fun h => absurd h (by decide)⟩
        exact safe_lend ⟨i + 1, none, acc, nl, b, off, cap, by omega, fun _ h => (by cases h), by omega, hnext⟩ (by simp only; omega) (Sub.front (X := []) (by simp [envSub, look]) rfl)
      · obtain ⟨hfi, hfl⟩ := hf f rfl
        have hne := cur_ne (x := x) hfi hfl
        have hex : (⟨x.toArray⟩ : ByteArray).extract (frI (some f)).toNat ((i : Int)).toNat = ⟨(curOf x (some f) i).toArray⟩ := by
          simp only [frI, Int.toNat_natCast]
          exact extract_eq x f i
        have hnext : (acc ++ [curOf x (some f) i]) ++ Cron.fieldsA (curOf x none (i + 1)) (x.drop (i + 1)) = Cron.fieldsA [] x := by
          rw [← h, fields_end hle (.inr hb), if_neg hne, List.append_assoc]
          rfl
        refine go_ok _ 100 _ _ ?_
        simp only [go_sem, List.size_toArray, e10, e16, hbt, q, hex, hge, hlt, Option.isSome_some, Option.isNone_some, Bool.true_or, Bool.not_true, Bool.false_and, Nat.reduceBEq, Nat.zero_add, Tryd.results13]
        refine ⟨⟨by omega, fun h => ⟨by rw [h]; rfl, by omega⟩, ⟨by simp only [frI]; omega, fun bb => ?_⟩, fun h => absurd h (by decide)⟩, fun h => absurd h (by decide)⟩
        refine (stp_app2 (c := 0) (b := b) (off := off) (nl := nl) (n := acc.length) (cap := cap) (x := .osl 1 false bb 0 1 1) (gx := litF 1 (encT (curOf x (some f) i))) (m := 1) (f := rowsV encT acc) (f2 := rowsV encT (acc ++ [curOf x (some f) i])) (N := (acc ++ [curOf x (some f) i]).length) rfl rfl rfl rfl ⟨rfl, rfl, rfl, rfl, Nat.le_refl _⟩ ?_ (by omega) (by simp) (fun i' j hi hj => app_one i' j (by simpa using hi) hj) fun nl' b' off' cap' => ?_).safe trivial
        · intro i' j hi hj
          obtain rfl : i' = 0 := by omega
          obtain rfl : j = 0 := by omega
          simp [litF, encT, one, Value.oneCell']
        refine ⟨trivial, go_ok _ 100 _ _ ?_⟩
        simp only [go_sem, Bool.not_true, Bool.false_and, Nat.reduceBEq]
        refine ⟨by simp only [inI64]; omega, ?_⟩
        exact safe_lend ⟨i + 1, none, acc ++ [curOf x (some f) i], nl', b', off', cap', by omega, fun _ h => (by cases h), by simp; omega, hnext⟩ (by simp only; omega) (Sub.front (X := [_]) (by simp [envSub, look, frI]) rfl)
end Go.SX

/- Bits of the document's expression. -/
namespace Go.SX
open Go.Proofs
set_option maxRecDepth 1000000
variable {E : Env}

theorem run_x28 (w : World) (b o f : Nat) (h : f < 5) : (Instr.indexAt 28 (.pointer (some ⟨b, o, none⟩)) (.int .i64 (f : Int))).run Tryd.prog w = .ok (.pointer (some ⟨b, o + f, none⟩)) w := by
  have : f = 0 ∨ f = 1 ∨ f = 2 ∨ f = 3 ∨ f = 4 := by omega
  rcases this with rfl | rfl | rfl | rfl | rfl <;> rfl
theorem oth_x28 {C : Ctx} {st : St} (hC : C.P = Tryd.prog) {x i : Nat} {f c b o : Nat} (h2 : f < 5) (hx : opv st.env (.t x) = some (.ptr c b o)) (hi : opv st.env (.t i) = some (I (f : Int))) : OthV C st (.indexAddr 28 (.tmp x) (.tmp i)) 0 (.ptr c b (o + f)) := by
  intro ro H F a w g
  refine ⟨?_, by simp only [SV.ok]⟩
  have h := run_x28 w b o f h2
  rw [← hC] at h
  obtain ⟨e1, _⟩ := opv_ok (x := .tmp x) g rfl hx
  obtain ⟨e2, _⟩ := opv_ok (x := .tmp i) g rfl hi
  simp only [SV.den] at e1 e2
  simp only [execOp, oper0, SV.den, e1, e2, Sem.run_bind, h, Result.andThen, Sem.run_pure]
/-- the document's expression -/
def rxV (e : Cron.Ex) : SV := .agg [U e.mi, U e.ho, U e.da, U e.mo, U e.we, Bl e.ad, Bl e.aw]
theorem rxV_eq (e : Cron.Ex) : rxV e = exV e := rfl
def exN (e : Cron.Ex) (f : Nat) : Nat := [e.mi, e.ho, e.da, e.mo, e.we].getD f 0
theorem c16 (e : Cron.Ex) (f n : Nat) (hf : f < 5) (hn : n < 64) : Spec Tryd.prog E 16 [rxV e, I f, I n] [] (fun v hp => v = Bl ((exN e f).testBit n) ∧ hp = []) := by
  refine Spec.leave (Post := fun v hp => v = Bl ((exN e f).testBit n)) ?_ (fun v hp h => ⟨[], hp, rfl, h, rfl⟩)
  refine spec_of (keep := k16) (args' := [rxV e, I f, I n]) Tryd.func16 rfl Tryd.ntmps16 s16_ok (by simp) ⟨rfl, fun _ h => h⟩ (fun _ _ h => h) (go_ok _ 100 _ _ ?_)
  simp only [go_sem, s16, k16, rxV, Nat.reduceBEq, Nat.reduceAdd, Nat.zero_add]
  intro b
  refine safe_oth (oth_x28 rfl hf rfl rfl) trivial ?_
  have : f = 0 ∨ f = 1 ∨ f = 2 ∨ f = 3 ∨ f = 4 := by omega
  rcases this with rfl | rfl | rfl | rfl | rfl <;> refine go_ok _ 100 _ _ ?_ <;>
    simp only [go_sem, Nat.reduceBEq, Nat.zero_add, Tryd.results16, bit_is hn, exN, List.getD_cons_zero, List.getD_cons_succ]
  all_goals exact Int.natCast_nonneg _
set_option maxHeartbeats 4000000 in
theorem c17 (e : Cron.Ex) (m d w : Nat) (hm : m < 64) (hd : d < 64) (hw : w < 64) : Spec Tryd.prog E 17 [rxV e, I m, I d, I w] [] (fun v hp => v = Bl (e.fits m d w) ∧ hp = []) := by
  refine Spec.leave (Post := fun v hp => v = Bl (e.fits m d w)) ?_ (fun v hp h => ⟨[], hp, rfl, h, rfl⟩)
  have hf : e.fits m d w = (e.mo.testBit m && (if e.ad && e.aw then true else if e.ad then e.we.testBit w else if e.aw then e.da.testBit d else e.da.testBit d || e.we.testBit w)) := rfl
  rw [hf]
  refine spec_of (keep := k17) (args' := [rxV e, I m, I d, I w]) Tryd.func17 rfl Tryd.ntmps17 s17_ok (by simp) ⟨rfl, fun _ h => h⟩ (fun _ _ h => h) (go_ok _ 100 _ _ ?_)
  simp only [go_sem, s17, k17, rxV, Nat.reduceBEq, Nat.reduceAdd, Nat.zero_add]
  intro b
  have S3 := c16 (E := E) e 3 m (by decide) hm
  have S4 := c16 (E := E) e 4 w (by decide) hw
  have S2 := c16 (E := E) e 2 d (by decide) hd
  have x3 : exN e 3 = e.mo := rfl
  have x4 : exN e 4 = e.we := rfl
  have x2 : exN e 2 = e.da := rfl
  rw [x3] at S3
  rw [x4] at S4
  rw [x2] at S2
  generalize e.mo.testBit m = b1 at *
  generalize e.we.testBit w = b2 at *
  generalize e.da.testBit d = b3 at *
  have hx : rxV e = .agg [U e.mi, U e.ho, U e.da, U e.mo, U e.we, Bl e.ad, Bl e.aw] := rfl
  generalize e.ad = b4 at *
  generalize e.aw = b5 at *
  refine (stp_call [] (args := [rxV e, I 3, I m]) rfl rfl rfl ⟨_, Tryd.func16, rfl, rfl⟩ S3 (by rw [hx]; rfl) (fun _ h => by rw [hx]; exact h) rfl (fun _ _ h => h) ?_).safe trivial
  rintro v hp ⟨rfl, rfl⟩
  refine ⟨trivial, ?_⟩
  cases b1
  · refine go_ok _ 100 _ _ ?_
    simp only [go_sem, Nat.reduceBEq, Nat.zero_add, Tryd.results17]
    exact fun h => absurd h (by decide)
  · cases b4 <;> cases b5
    · refine go_ok _ 100 _ _ ?_
      simp only [go_sem, Nat.reduceBEq, Nat.zero_add, Tryd.results17]
      refine (stp_call [] (args := [rxV e, I 2, I d]) rfl rfl rfl ⟨_, Tryd.func16, rfl, rfl⟩ S2 (by rw [hx]; rfl) (fun _ h => by rw [hx]; exact h) (by simp [callIdx]) (fun _ _ h => h) ?_).safe trivial
      rintro v hp ⟨rfl, rfl⟩
      refine ⟨by simp only [recheck, go_sem], ?_⟩
      cases b3
      · refine go_ok _ 100 _ _ ?_
        simp only [go_sem, Nat.reduceBEq, Tryd.results17]
        refine ⟨?_, fun h => absurd h (by decide), rfl⟩
        refine Stp.safeOn ?_ trivial
        refine stp_call [] (args := [rxV e, I 4, I w]) rfl rfl rfl ⟨_, Tryd.func16, rfl, rfl⟩ S4 (by rw [hx]; rfl) (fun _ h => by rw [hx]; exact unc_oks h) (by simp [callIdx]) (fun _ _ h => h) ?_
        rintro v hp ⟨rfl, rfl⟩
        refine ⟨trivial, go_ok _ 100 _ _ ?_⟩
        simp only [go_sem, List.nil_append, Nat.reduceBEq, Tryd.results17]
        rfl
      · refine go_ok _ 100 _ _ ?_
        simp only [go_sem, Nat.reduceBEq, Tryd.results17]
        exact ⟨⟨fun h => absurd h (by decide), rfl⟩, rfl⟩
    · refine go_ok _ 100 _ _ ?_
      simp only [go_sem, Nat.reduceBEq, Nat.zero_add, Tryd.results17]
      refine ⟨?_, fun h => absurd h (by decide)⟩
      refine (stp_call [] (args := [rxV e, I 2, I d]) rfl rfl rfl ⟨_, Tryd.func16, rfl, rfl⟩ S2 (by rw [hx]; rfl) (fun _ h => by rw [hx]; exact h) (by simp [callIdx]) (fun _ _ h => h) ?_).safe trivial
      rintro v hp ⟨rfl, rfl⟩
      refine ⟨trivial, go_ok _ 100 _ _ ?_⟩
      simp only [go_sem, Nat.reduceBEq, Tryd.results17]
      rfl
    · refine go_ok _ 100 _ _ ?_
      simp only [go_sem, Nat.reduceBEq, Nat.zero_add, Tryd.results17]
      refine ⟨?_, fun h => absurd h (by decide)⟩
      refine (stp_call [] (args := [rxV e, I 4, I w]) rfl rfl rfl ⟨_, Tryd.func16, rfl, rfl⟩ S4 (by rw [hx]; rfl) (fun _ h => by rw [hx]; exact h) (by simp [callIdx]) (fun _ _ h => h) ?_).safe trivial
      rintro v hp ⟨rfl, rfl⟩
      refine ⟨trivial, go_ok _ 100 _ _ ?_⟩
      simp only [go_sem, Nat.reduceBEq, Tryd.results17]
      rfl
    · refine go_ok _ 100 _ _ ?_
      simp only [go_sem, Nat.reduceBEq, Nat.zero_add, Tryd.results17]
      exact ⟨rfl, fun h => absurd h (by decide)⟩
end Go.SX

/- Does a minute match? The document's. -/
namespace Go.SX
open Go.Proofs
set_option maxRecDepth 1000000
variable {E : Env}

set_option maxHeartbeats 4000000 in
theorem c8 (e : Cron.Ex) (x : Int) (hx : -(2 ^ 62) ≤ x) (hx2 : x ≤ 2 ^ 62) : Spec Tryd.prog E 8 [rxV e, I x] [] (fun v hp => v = Bl (e.hit x) ∧ hp = []) := by
  refine Spec.leave (Post := fun v hp => v = Bl (e.hit x)) ?_ (fun v hp h => ⟨[], hp, rfl, h, rfl⟩)
  refine spec_of (keep := k8) (args' := [rxV e, I x]) Tryd.func8 rfl Tryd.ntmps8 s8_ok (by simp) ⟨rfl, fun _ h => h⟩ (fun _ _ h => h) (go_ok _ 100 _ _ ?_)
  have hxv : rxV e = .agg [U e.mi, U e.ho, U e.da, U e.mo, U e.we, Bl e.ad, Bl e.aw] := rfl
  simp only [go_sem, s8, k8, rxV, Nat.reduceBEq, Nat.zero_add]
  intro b
  refine (stp_call [] (args := [I x]) rfl rfl rfl ⟨_, Tryd.func15, rfl, rfl⟩ (c15 x hx hx2) rfl (fun _ h => h) rfl (fun _ _ h => h) ?_).safe trivial
  rintro v hp ⟨hv, rfl⟩
  unfold OfPost at hv
  by_cases hin : Cron.first ≤ x ∧ x ≤ Cron.last
  · rw [if_pos hin] at hv
    obtain ⟨y, m, d, hd, rfl⟩ := hv
    have hhit : e.hit x = (e.tod (Cron.restOf x) && e.fits m d.toNat ((Cron.dayOf x + 1) % 7).toNat) := by
      unfold Cron.Ex.hit
      rw [decide_eq_true hin.1, decide_eq_true hin.2, Cron.Ex.day_eq hd, Bool.true_and, Bool.true_and, Bool.and_comm]
    rw [hhit]
    have hr : 0 ≤ Cron.restOf x ∧ Cron.restOf x < 1440 := by unfold Cron.restOf; omega
    have hmd := Cal.mdays_pos (y := y) hd.m1 hd.m2
    have hd1 := hd.d1
    have hd2 := hd.d2
    have hm2 := hd.m2
    unfold Cron.Ex.tod
    obtain ⟨h, hh⟩ : ∃ n : Nat, Cron.restOf x / 60 = n := ⟨(Cron.restOf x / 60).toNat, by omega⟩
    obtain ⟨k, hk⟩ : ∃ n : Nat, Cron.restOf x % 60 = n := ⟨(Cron.restOf x % 60).toNat, by omega⟩
    obtain ⟨w, hw⟩ : ∃ n : Nat, (Cron.dayOf x + 1) % 7 = n := ⟨((Cron.dayOf x + 1) % 7).toNat, by omega⟩
    obtain ⟨d, rfl⟩ : ∃ n : Nat, d = n := ⟨d.toNat, by omega⟩
    rw [hh, hk, hw, Int.toNat_natCast, Int.toNat_natCast, Int.toNat_natCast, Int.toNat_natCast]
    have S0 := c16 (E := E) e 0 k (by decide) (by omega)
    have S1 := c16 (E := E) e 1 h (by decide) (by omega)
    have S2 := c17 (E := E) e m d w (by omega) (by omega) (by omega)
    rw [show exN e 0 = e.mi from rfl] at S0
    rw [show exN e 1 = e.ho from rfl] at S1
    generalize e.mi.testBit k = b1 at *
    generalize e.ho.testBit h = b2 at *
    generalize e.fits m d w = b3 at *
    refine ⟨trivial, go_ok _ 100 _ _ ?_⟩
    simp only [go_sem, dateV, Nat.reduceBEq, Nat.reduceAdd, Nat.zero_add, Tryd.results8]
    intro b'
    refine ⟨?_, fun h => absurd h (by decide), rfl⟩
    refine Stp.safeOn ?_ trivial
    refine stp_call [] (args := [rxV e, I 0, I k]) rfl rfl rfl ⟨_, Tryd.func16, rfl, rfl⟩ S0 (by rw [hxv]; rfl) (fun _ h => by rw [hxv]; exact unc_oks h) (by simp [callIdx]) (fun _ _ h => h) ?_
    rintro v hp ⟨rfl, rfl⟩
    refine ⟨trivial, ?_⟩
    cases b1
    · refine go_ok _ 100 _ _ ?_
      simp only [go_sem, List.cons_append, List.nil_append, Nat.reduceBEq, Nat.zero_add, Tryd.results8]
      exact ⟨rfl, rfl⟩
    · refine go_ok _ 100 _ _ ?_
      simp only [go_sem, List.cons_append, List.nil_append, Nat.reduceBEq, Nat.zero_add, Tryd.results8]
      refine ⟨?_, fun h => absurd h (by decide), rfl⟩
      refine Stp.safeOn ?_ trivial
      refine stp_call [] (args := [rxV e, I 1, I h]) rfl rfl rfl ⟨_, Tryd.func16, rfl, rfl⟩ S1 (by rw [hxv]; rfl) (fun _ h => by rw [hxv]; exact unc_oks h) (by simp [callIdx]) (fun _ _ h => h) ?_
      rintro v hp ⟨rfl, rfl⟩
      refine ⟨trivial, ?_⟩
      cases b2
      · refine go_ok _ 100 _ _ ?_
        simp only [go_sem, List.cons_append, List.nil_append, Nat.reduceBEq, Nat.zero_add, Tryd.results8]
        rfl
      · refine go_ok _ 100 _ _ ?_
        simp only [go_sem, List.cons_append, List.nil_append, Nat.reduceBEq, Nat.zero_add, Tryd.results8]
        refine ⟨?_, fun h => absurd h (by decide), rfl⟩
        refine Stp.safeOn ?_ trivial
        refine stp_call [] (args := [rxV e, I m, I d, I w]) rfl rfl rfl ⟨_, Tryd.func17, rfl, rfl⟩ S2 (by rw [hxv]; rfl) (fun _ h => by rw [hxv]; exact unc_oks h) (by simp [callIdx]) (fun _ _ h => h) ?_
        rintro v hp ⟨rfl, rfl⟩
        refine ⟨trivial, ?_⟩
        refine go_ok _ 100 _ _ ?_
        simp only [go_sem, List.nil_append, Nat.reduceBEq, Tryd.results8]
  · rw [if_neg hin] at hv
    subst hv
    have hhit : e.hit x = false := by
      unfold Cron.Ex.hit
      rw [← Bool.not_eq_true, Bool.and_eq_true, Bool.and_eq_true, decide_eq_true_eq, decide_eq_true_eq]
      exact fun h => hin ⟨h.1, h.2.1⟩
    rw [hhit]
    refine ⟨trivial, go_ok _ 100 _ _ ?_⟩
    simp only [go_sem, dateV, Nat.reduceBEq, Nat.reduceAdd, Nat.zero_add, Tryd.results8]
    exact fun b' => ⟨fun h => absurd h (by decide), fun _ => ⟨fun h => absurd h (by decide), rfl, rfl⟩, rfl⟩
end Go.SX

/- The document's expression, read. -/
namespace Go.SX
open Go.Proofs
set_option maxRecDepth 1000000
variable {E : Env}

theorem Cron.fieldsA_len : ∀ {cur s p : List UInt8}, p ∈ Cron.fieldsA cur s → p.length ≤ cur.length + s.length
  | cur, [], p, h => by
    unfold Cron.fieldsA at h
    split at h
    · cases h
    · rw [List.mem_singleton.1 h]; simp
  | cur, c :: r, p, h => by
    unfold Cron.fieldsA at h
    rw [List.length_cons]
    split at h
    · split at h
      · have := Cron.fieldsA_len h
        rw [List.length_nil] at this
        omega
      · rcases List.mem_cons.1 h with rfl | h
        · omega
        · have := Cron.fieldsA_len h
          rw [List.length_nil] at this
          omega
    · have := Cron.fieldsA_len h
      rw [List.length_append, List.length_singleton] at this
      omega
/-- an expression that is none -/
def exZ : Cron.Ex := ⟨0, 0, 0, 0, 0, false, false⟩
def RefP (x : List UInt8) (v : SV) : Prop := match Cron.parse x with
  | some e => v = .tup [rxV e, I 0]
  | none => ∃ n : Int, n ≠ 0 ∧ v = .tup [rxV exZ, I n]
def foL (L : List (List UInt8)) (k : Nat) : Option Nat := Cron.field (L.getD k []) (loL.getD k 0) (hiL.getD k 0)
def cellsE (L : List (List UInt8)) (f : Nat) : List SV :=
  [U (if 0 < f then (foL L 0).getD 0 else 0), U (if 1 < f then (foL L 1).getD 0 else 0), U (if 2 < f then (foL L 2).getD 0 else 0), U (if 3 < f then (foL L 3).getD 0 else 0), U (if 4 < f then (foL L 4).getD 0 else 0),
   Bl (if 2 < f then decide (L.getD 2 [] = [42]) else false), Bl (if 4 < f then decide (L.getD 4 [] = [42]) else false)]
theorem parse_long {x : List UInt8} (h : 100 < x.length) : Cron.parse x = none := by
  unfold Cron.parse
  rw [if_pos h]
theorem parse_count {x : List UInt8} (h : (Cron.fieldsA [] x).length ≠ 5) : Cron.parse x = none := by
  unfold Cron.parse
  split
  · rfl
  · split
    · rename_i he
      rw [he] at h
      exact absurd rfl h
    · rfl
theorem parse_bad {x : List UInt8} {k : Nat} (hk : k < 5) (h : foL (Cron.fieldsA [] x) k = none) : Cron.parse x = none := by
  unfold Cron.parse
  split
  · rfl
  · split
    · rename_i a b c d f he
      rw [he] at h
      split
      · rename_i h1 h2 h3 h4 h5
        have : k = 0 ∨ k = 1 ∨ k = 2 ∨ k = 3 ∨ k = 4 := by omega
        rcases this with rfl | rfl | rfl | rfl | rfl
        · rw [show foL [a, b, c, d, f] 0 = Cron.field a 0 59 from rfl, h1] at h; cases h
        · rw [show foL [a, b, c, d, f] 1 = Cron.field b 0 23 from rfl, h2] at h; cases h
        · rw [show foL [a, b, c, d, f] 2 = Cron.field c 1 31 from rfl, h3] at h; cases h
        · rw [show foL [a, b, c, d, f] 3 = Cron.field d 1 12 from rfl, h4] at h; cases h
        · rw [show foL [a, b, c, d, f] 4 = Cron.field f 0 6 from rfl, h5] at h; cases h
      · rfl
    · rfl
theorem parse_good {x : List UInt8} {a b c d f : List UInt8} {q u v w z : Nat} (hl : ¬ 100 < x.length) (he : Cron.fieldsA [] x = [a, b, c, d, f]) (h1 : Cron.field a 0 59 = some q) (h2 : Cron.field b 0 23 = some u)
    (h3 : Cron.field c 1 31 = some v) (h4 : Cron.field d 1 12 = some w) (h5 : Cron.field f 0 6 = some z) : Cron.parse x = some ⟨q, u, v, w, z, decide (c = [42]), decide (f = [42])⟩ := by
  unfold Cron.parse
  rw [if_neg hl, he]
  simp only [h1, h2, h3, h4, h5]
theorem ag30 : aggOf Tryd.prog 30 = some (some 7) := by kernel_rfl
set_option maxHeartbeats 4000000 in
theorem c7 (x : List UInt8) (hx : x.length ≤ 2 ^ 30) : Spec Tryd.prog E 7 [T x] [] (fun v hp => RefP x v ∧ hp = []) := by
  refine Spec.leave (Post := fun v hp => RefP x v) ?_ (fun v hp h => ⟨[], hp, rfl, h, rfl⟩)
  refine spec_of (keep := k7) (args' := [T x]) Tryd.func7 rfl Tryd.ntmps7 s7_ok (by simp) ⟨rfl, fun _ h => h⟩ (fun _ _ h => h) (go_ok _ 100 _ _ ?_)
  have bad : Cron.parse x = none → ∀ n : Int, n ≠ 0 → RefP x (.tup [.agg [U 0, U 0, U 0, U 0, U 0, Bl false, Bl false], I n]) := fun h n hn => by
    unfold RefP
    rw [h]
    exact ⟨n, hn, rfl⟩
  rcases d1 : decide (100 < (x.length : Int)) with _ | _
  rotate_left
  · have hb := bad (parse_long (by have := of_decide_eq_true d1; omega))
    simp only [go_sem, s7, k7, List.size_toArray, d1, Nat.reduceBEq, Nat.reduceAdd, Nat.zero_add, Tryd.results7]
    intro b
    refine ⟨?_, fun h => absurd h (by decide)⟩
    refine safe_retC (l := [.agg [U 0, U 0, U 0, U 0, U 0, Bl false, Bl false], I 5]) (vc := True) ?_ trivial ?_ rfl rfl
    · simp only [retC, Tryd.results7, go_sem, Nat.reduceBEq, ag30]
      rfl
    · exact hb 5 (by decide)
  have hl : ¬ 100 < x.length := by have := of_decide_eq_false d1; omega
  simp only [go_sem, s7, k7, List.size_toArray, d1, Nat.reduceBEq, Nat.reduceAdd, Nat.zero_add, Tryd.results7]
  intro b
  refine (stp_call [] (args := [T x]) rfl rfl rfl ⟨_, Tryd.func13, rfl, rfl⟩ (c13 x hx) rfl (fun _ h => h) rfl (fun _ _ h => h) ?_).safe trivial
  rintro v hp ⟨a, cap, rfl, rfl⟩
  have hlen : ∀ p ∈ Cron.fieldsA [] x, p.length ≤ 2 ^ 60 := fun p hp => by
    have := Cron.fieldsA_len hp
    rw [List.length_nil] at this
    omega
  obtain ⟨L, hL⟩ : ∃ L, Cron.fieldsA [] x = L := ⟨_, rfl⟩
  have pb : ∀ k, k < 5 → foL L k = none → Cron.parse x = none := fun k hk h => parse_bad hk (hL ▸ h)
  rw [hL] at hlen ⊢
  refine ⟨trivial, ?_⟩
  refine go_ok _ 100 _ _ ?_
  simp only [go_sem, Nat.reduceBEq, Nat.reduceAdd, Nat.zero_add, Tryd.results7]
  refine ⟨fun hc => ?_, fun hc b2 => ?_⟩
  · have hb := bad (parse_count (by rw [hL]; have := of_decide_eq_true hc; omega))
    refine safe_retC (l := [.agg [U 0, U 0, U 0, U 0, U 0, Bl false, Bl false], I 25]) (vc := True) ?_ trivial ?_ rfl rfl
    · simp only [retC, Tryd.results7, go_sem, Nat.reduceBEq, ag30]
      rfl
    · exact hb 25 (by decide)
  have hl5 : L.length = 5 := by
    have := of_decide_eq_false hc
    omega
  refine safe_loop (ι := {f : Nat // f ≤ 5 ∧ ∀ k, k < f → (foL L k).isSome = true}) (fun g => ⟨[(0, T x), (2, .ptr 0 b 0), (3, I 0), (4, vT a cap L), (5, .ptr 1 b2 0), (6, I g.1)], [.cells b 30 [U 0, U 0, U 0, U 0, U 0, Bl false, Bl false], .cells b2 30 (cellsE L g.1)]⟩)
    (fun g => 5 - g.1) ⟨0, by omega, fun k hk => absurd hk (by omega)⟩ (Sub.front (X := []) (by simp [envSub, look]) rfl) ?_
  rintro ⟨f, hf, hsome⟩
  refine go_ok _ 8 _ _ ?_
  simp only [go_sem, Nat.reduceBEq]
  refine ⟨fun hc => ?_, fun hc => ?_⟩
  · have hf5 : f < 5 := by have := of_decide_eq_true hc; omega
    have hpl : (L.getD f []).length ≤ 2 ^ 60 := by
      rw [List.getD_eq_getElem?_getD, List.getElem?_eq_getElem (by omega)]
      exact hlen _ (List.getElem_mem _)
    refine go_ok _ 12 _ _ ?_
    simp only [go_sem, rowsT, Int.toNat_natCast, Nat.reduceBEq]
    refine ⟨by omega, by decide, ?_⟩
    refine (stp_call [] (args := [T (L.getD f []), I f]) rfl rfl rfl ⟨_, Tryd.func14, rfl, rfl⟩ (c14 (L.getD f []) f hf5 hpl) rfl (fun _ h => h) rfl (fun _ _ h => h) ?_).safe trivial
    rintro v hp ⟨rfl, rfl⟩
    refine ⟨trivial, ?_⟩
    rw [show Cron.field (L.getD f []) (loL.getD f 0) (hiL.getD f 0) = foL L f from rfl]
    rcases hfo : foL L f with _ | y
    · have hb := bad (pb f hf5 hfo)
      refine go_ok _ 100 _ _ ?_
      simp only [go_sem, refFV, Nat.reduceBEq, Nat.reduceAdd, Nat.zero_add, Tryd.results7]
      refine ⟨?_, fun h => absurd h (by decide)⟩
      refine safe_retC (l := [.agg [U 0, U 0, U 0, U 0, U 0, Bl false, Bl false], I 25]) (vc := True) ?_ trivial ?_ rfl rfl
      · simp only [retC, Tryd.results7, go_sem, Nat.reduceBEq, ag30]
        rfl
      · exact hb 25 (by decide)
    · have hsome' : ∀ k, k < f + 1 → (foL L k).isSome = true := fun k hk => by
        by_cases e : k = f
        · subst e; rw [hfo]; rfl
        · exact hsome k (by omega)
      obtain rfl : y = (foL L f).getD 0 := by rw [hfo]; rfl
      clear hfo
      have hf5' : f = 0 ∨ f = 1 ∨ f = 2 ∨ f = 3 ∨ f = 4 := by omega
      refine go_ok _ 40 _ _ ?_
      simp only [go_sem, refFV, Nat.reduceBEq, Nat.reduceAdd, Nat.zero_add, Tryd.results7]
      refine safe_oth (oth_x28 rfl hf5 rfl rfl) trivial ?_
      rcases hf5' with rfl | rfl | rfl | rfl | rfl
      all_goals
        refine go_ok _ 40 _ _ ?_
        simp only [go_sem, cellsE, Nat.reduceLT, if_true, if_false, Nat.reduceBEq, Nat.zero_add]
        refine ⟨fun h2 => ⟨fun h4 => ?_, fun h4 => ?_⟩, fun h2 => ⟨fun h4 => ?_, fun h4 => ?_⟩⟩
        all_goals first | exact absurd h2 (by decide) | exact absurd h4 (by decide) | skip
        refine ⟨by simp only [inI64]; omega, ?_⟩
        exact safe_lend ⟨_ + 1, by omega, hsome'⟩ (by simp only; omega) (Sub.front (X := []) (by simp [envSub, look]) rfl)
  · obtain rfl : f = 5 := by have := of_decide_eq_false hc; omega
    refine go_ok _ 20 _ _ ?_
    simp only [go_sem, cellsE, Nat.reduceLT, if_true, Nat.reduceBEq, Nat.reduceAdd, Nat.zero_add, Tryd.results7]
    refine safe_retC (l := [.agg [U ((foL L 0).getD 0), U ((foL L 1).getD 0), U ((foL L 2).getD 0), U ((foL L 3).getD 0), U ((foL L 4).getD 0), Bl (decide (L.getD 2 [] = [42])), Bl (decide (L.getD 4 [] = [42]))], I 0]) (vc := True) ?_ trivial ?_ rfl rfl
    · simp only [retC, Tryd.results7, go_sem, Nat.reduceBEq, ag30]
    · obtain ⟨y0, h0⟩ := Option.isSome_iff_exists.1 (hsome 0 (by decide))
      obtain ⟨y1, h1⟩ := Option.isSome_iff_exists.1 (hsome 1 (by decide))
      obtain ⟨y2, h2⟩ := Option.isSome_iff_exists.1 (hsome 2 (by decide))
      obtain ⟨y3, h3⟩ := Option.isSome_iff_exists.1 (hsome 3 (by decide))
      obtain ⟨y4, h4⟩ := Option.isSome_iff_exists.1 (hsome 4 (by decide))
      match L, hl5, hL with
      | [p0, p1, p2, p3, p4], _, hL =>
        show RefP x (.tup [.agg [_, _, _, _, _, _, _], I 0])
        unfold RefP
        rw [parse_good hl hL h0 h1 h2 h3 h4, h0, h1, h2, h3, h4]
        rfl
end Go.SX

/- Names of jobs: the document's, the program's. -/
namespace Go.SX
open Go.Proofs
set_option maxRecDepth 1000000
variable {E : Env}

/-- may a byte stand in a name, at a place? -/
def nmc (i : Nat) (c : UInt8) : Bool := (decide (97 ≤ c.toNat) && decide (c.toNat ≤ 122)) || (decide (48 ≤ c.toNat) && decide (c.toNat ≤ 57)) || (decide (c.toNat = 45) && decide (i ≠ 0))
def nmsA : Nat → List UInt8 → Bool
  | _, [] => true
  | i, c :: r => nmc i c && nmsA (i + 1) r
def nameA (x : List UInt8) : Bool := nmsA 0 x && (decide (1 ≤ x.length) && decide (x.length ≤ 30))
theorem nmc_eq (i : Nat) (c : UInt8) : (((decide ((c.toNat : Int) < 97) || decide (122 < (c.toNat : Int))) && (decide ((c.toNat : Int) < 48) || decide (57 < (c.toNat : Int)))) && (decide ((c.toNat : Int) ≠ 45) || decide ((i : Int) = 0))) = !nmc i c := by
  unfold nmc
  rw [Bool.eq_iff_iff]
  simp only [Bool.and_eq_true, Bool.or_eq_true, Bool.not_eq_true', Bool.or_eq_false_iff, Bool.and_eq_false_iff, decide_eq_true_eq, decide_eq_false_iff_not]
  omega
theorem nmsA_next {x : List UInt8} {i : Nat} (h : i < x.length) : nmsA i (x.drop i) = (nmc i (x.getD i default) && nmsA (i + 1) (x.drop (i + 1))) := by
  rw [drop_next h]
  rfl
structure NmW (x : List UInt8) where
  i : Nat
  hi : i ≤ x.length
  h : nmsA i (x.drop i) = nmsA 0 x
set_option maxHeartbeats 4000000 in
theorem c26 (x : List UInt8) (hx : x.length ≤ 2 ^ 30) : Spec Tryd.prog E 26 [T x] [] (fun v hp => v = Bl (nameA x) ∧ hp = []) := by
  refine spec_of (keep := k26) (args' := [T x]) Tryd.func26 rfl Tryd.ntmps26 s26_ok (by simp) ⟨rfl, fun _ h => h⟩ (fun _ _ h => h) (go_ok _ 100 _ _ ?_)
  simp only [go_sem, s26, k26, Nat.reduceBEq]
  refine safe_loop (ι := NmW x) (fun g => ⟨[(0, T x), (2, Bl false), (3, I g.i)], []⟩) (fun g => x.length - g.i) ⟨0, Nat.zero_le _, by rw [List.drop_zero]⟩ (Sub.front (X := []) (by simp [envSub, look]) rfl) ?_
  rintro ⟨i, hi, h⟩
  rcases Nat.lt_or_ge i x.length with hlt | hge
  · have e8 : decide ((i : Int) < (x.length : Int)) = true := decide_eq_true (by omega)
    have hbt := bt_at (x := x) (k := i) hlt
    have hnx := nmsA_next hlt
    have hq := nmc_eq i (x.getD i default)
    refine go_ok _ 100 _ _ ?_
    simp only [go_sem, List.size_toArray, e8, hbt, Nat.reduceBEq, Tryd.results26]
    rw [hq]
    generalize (decide ((((x.getD i default).toNat : Nat) : Int) < 97) || decide (122 < (((x.getD i default).toNat : Nat) : Int))) = b1
    generalize decide ((((x.getD i default).toNat : Nat) : Int) < 48) = b2
    generalize decide (57 < (((x.getD i default).toNat : Nat) : Int)) = b3
    generalize decide ((((x.getD i default).toNat : Nat) : Int) ≠ 45) = b4
    refine ⟨⟨by omega, fun h1 => ⟨h1, fun h2 => by rw [h1, h2]; rfl⟩, fun h1 => ⟨h1, fun h2 => by rw [h1, h2]; rfl⟩, fun hb => ?_, fun hg => ⟨by simp only [inI64]; omega, ?_⟩⟩, fun h => absurd h (by decide)⟩
    · have hn : nmc i (x.getD i default) = false := by simpa using hb
      unfold nameA
      rw [← h, hnx, hn]
      rfl
    · have hn : nmc i (x.getD i default) = true := by simpa using hg
      refine safe_lend ⟨i + 1, hlt, ?_⟩ (by simp only; omega) (Sub.front (X := []) (by simp [envSub, look]) rfl)
      rw [← h, hnx, hn, Bool.true_and]
  · have e8 : decide ((i : Int) < (x.length : Int)) = false := decide_eq_false (by omega)
    have hall : nmsA 0 x = true := by
      rw [← h, List.drop_eq_nil_of_le hge]
      rfl
    refine go_ok _ 100 _ _ ?_
    simp only [go_sem, List.size_toArray, e8, Nat.reduceBEq, Tryd.results26]
    have hd : (decide (1 ≤ (x.length : Int)) && decide ((x.length : Int) ≤ 30)) = nameA x := by
      unfold nameA
      rw [hall, Bool.true_and, Bool.eq_iff_iff]
      simp only [Bool.and_eq_true, decide_eq_true_eq]
      omega
    rw [hd]
/-- a sum that may wrap -/
theorem safe_addw {S : Setup} {k : List Frag} {st : St} {d : Nat} {x y : Opd} {ps : List SOp} {l : List (SOp × List SOp)} {a b : Int} (hx : opv st.env x = some (I a)) (hy : opv st.env y = some (I b))
    (hre : recheck S.C ⟨(d, I (IntKind.i64.wrap (a + b))) :: st.env, st.heap⟩ ps) (h : Safe S (.ops l :: k) ⟨(d, I (IntKind.i64.wrap (a + b))) :: st.env, st.heap⟩) : Safe S (.ops ((.rd d (.bin 0 .add x y), ps) :: l) :: k) st := by
  refine ops_step fun ro0 F a' w o ops bb hg hc _ => ?_
  obtain ⟨ro, H, hle, g⟩ := hg
  obtain ⟨c1, c2, c3, c4⟩ := cop_rd hc
  have h1 : (execOp a'.eval o).run S.C.P w = .ok (.value (.int .i64 (IntKind.i64.wrap (a + b)))) w := by
    obtain ⟨dst, op, ty, pos, aft, gd⟩ := o
    cases op <;> simp only [crd, Option.map_eq_some_iff, reduceCtorEq] at c1
    case binOp o t x' y' yT hk =>
      cases h1 : binCls S.C.P o t with
      | none => simp [h1] at c1
      | some c => cases h2 : copd x' with
        | none => simp [h1, h2] at c1
        | some x2 => cases h3 : copd y' with
          | none => simp [h1, h2, h3] at c1
          | some y2 =>
            simp only [h1, h2, h3, Option.bind_eq_bind, Option.bind_some, Option.some.injEq, SRd.bin.injEq] at c1
            obtain ⟨rfl, rfl, rfl, rfl⟩ := c1
            obtain ⟨k1, _⟩ := opv_ok g h2 hx
            obtain ⟨k3, _⟩ := opv_ok g h3 hy
            simp only [SV.den] at k1 k3
            refine lift_v ?_
            rw [k1, k3]
            simp only [Sem.run_bind, eqG (o := BinOp.add) (t := t) (x := x') (y := y') (v := .int .i64 a) (u := .int .i64 b) (by simp) (by simp), Result.andThen_ok]
            simp [binOp, Op.intArith]
    all_goals (exfalso; (repeat' split at c1) <;> first | (cases c1; done) | (rename_i hh; cases hh; done) | (simp [Option.bind_eq_some_iff] at c1; done))
  rw [if_pos (by simp [Region.wanted, c3]), c2]
  have hn : Next S k l ps ro0 F (a'.put (some d) (I (IntKind.i64.wrap (a + b))).den) w := ⟨_, ⟨ro, H, hle, g.put c4 (by simp only [SV.ok])⟩, hre, h⟩
  cases bb with
  | true => exact ⟨_, h1, hn⟩
  | false =>
    simp only [Bool.false_eq_true, if_false]
    rw [h1]
    simp only [Oper.uponIn, c2]
    exact hn
/-- a job -/
structure Jb where
  name : List UInt8
  cron : List UInt8
  pol : Int
  dl : Int
  keep : Int
  sus : Bool
def jobV (j : Jb) : SV := .agg [T j.name, T j.cron, I j.pol, I j.dl, I j.keep, Bl j.sus]
def numsOk (j : Jb) : Bool := decide (0 ≤ j.pol) && decide (j.pol ≤ 2) && decide (1 ≤ j.dl) && decide (j.dl ≤ 10080) && decide (0 ≤ j.keep) && decide (j.keep ≤ 20)
def okJ (j : Jb) : Bool := nameA j.name && numsOk j && (Cron.parse j.cron).isSome
def CheckP (j : Jb) (v : SV) : Prop := ∃ n : Int, v = I n ∧ (n = 0 ↔ okJ j = true)
set_option maxHeartbeats 4000000 in
theorem c12 (j : Jb) (h1 : j.name.length ≤ 2 ^ 30) (h2 : j.cron.length ≤ 2 ^ 30) : Spec Tryd.prog E 12 [jobV j] [] (fun v hp => CheckP j v ∧ hp = []) := by
  refine Spec.leave (Post := fun v hp => CheckP j v) ?_ (fun v hp h => ⟨[], hp, rfl, h, rfl⟩)
  refine spec_of (keep := k12) (args' := [jobV j]) Tryd.func12 rfl Tryd.ntmps12 s12_ok (by simp) ⟨rfl, fun _ h => h⟩ (fun _ _ h => h) (go_ok _ 100 _ _ ?_)
  simp only [go_sem, s12, k12, jobV, Nat.reduceBEq, Nat.zero_add]
  intro b
  refine (stp_call [] (args := [T j.name]) rfl rfl rfl ⟨_, Tryd.func26, rfl, rfl⟩ (c26 j.name h1) rfl (fun _ h => h) rfl (fun _ _ h => h) ?_).safe trivial
  rintro v hp ⟨rfl, rfl⟩
  refine ⟨trivial, go_ok _ 100 _ _ ?_⟩
  simp only [go_sem, Nat.reduceBEq, Nat.zero_add, Tryd.results12]
  have hq : (!nameA j.name || decide (j.pol < 0) || decide (2 < j.pol) || decide (j.dl < 1) || decide (10080 < j.dl) || decide (j.keep < 0) || decide (20 < j.keep)) = !(nameA j.name && numsOk j) := by
    unfold numsOk
    rw [Bool.eq_iff_iff]
    simp only [Bool.or_eq_true, Bool.not_eq_true', Bool.and_eq_false_iff, decide_eq_true_eq, decide_eq_false_iff_not]
    generalize nameA j.name = nn
    cases nn <;> simp <;> omega
  rw [hq]
  refine ⟨fun hc => ⟨26, rfl, fun h => absurd h (by decide), fun h => ?_⟩, fun hc => ?_⟩
  · unfold okJ at h
    rw [Bool.not_eq_true'] at hc
    rw [hc] at h
    cases h
  refine (stp_call [] (args := [T j.cron]) rfl rfl rfl ⟨_, Tryd.func7, rfl, rfl⟩ (c7 j.cron h2) rfl (fun _ h => h) rfl (fun _ _ h => h) ?_).safe trivial
  rintro v hp ⟨hv, rfl⟩
  refine ⟨trivial, ?_⟩
  rw [Bool.not_eq_false'] at hc
  unfold RefP at hv
  rcases he : Cron.parse j.cron with _ | e
  · rw [he] at hv
    obtain ⟨n, hn, rfl⟩ := hv
    refine go_ok _ 100 _ _ ?_
    simp only [go_sem, rxV, Nat.reduceBEq, Nat.reduceAdd, Nat.zero_add, Tryd.results12]
    refine ⟨n, rfl, fun h => absurd h hn, fun h => ?_⟩
    unfold okJ at h
    rw [he] at h
    simp at h
  · rw [he] at hv
    subst hv
    refine go_ok _ 100 _ _ ?_
    simp only [go_sem, rxV, Nat.reduceBEq, Nat.reduceAdd, Nat.zero_add, Tryd.results12]
    refine ⟨0, rfl, fun _ => ?_, fun _ => rfl⟩
    unfold okJ
    rw [he, hc]
    rfl
/-- the minute that is due -/
noncomputable def dueA (j : Jb) (last now : Int) : Option Int :=
  if okJ j = true ∧ j.sus = false ∧ 0 ≤ now then
    (match Cron.parse j.cron with
     | some e => e.find (now + 1 - max (last + 1) (max (now - j.dl) 0)).toNat (max (last + 1) (max (now - j.dl) 0))
     | none => none)
  else none
def dueV : Option Int → SV
  | some m => .tup [I m, Bl true]
  | none => .tup [I 0, Bl false]
set_option maxHeartbeats 4000000 in
theorem c6 (j : Jb) (last now : Int) (h1 : j.name.length ≤ 2 ^ 30) (h2 : j.cron.length ≤ 2 ^ 30) (hl : inI64 last) (hn : inI64 now) (hnn : now ≤ 2 ^ 60) : Spec Tryd.prog E 6 [jobV j, I last, I now] [] (fun v hp => v = dueV (dueA j last now) ∧ hp = []) := by
  refine Spec.leave (Post := fun v hp => v = dueV (dueA j last now)) ?_ (fun v hp h => ⟨[], hp, rfl, h, rfl⟩)
  refine spec_of (keep := k6) (args' := [jobV j, I last, I now]) Tryd.func6 rfl Tryd.ntmps6 s6_ok (by simp) ⟨rfl, fun _ h => h⟩ (fun _ _ h => h) (go_ok _ 100 _ _ ?_)
  have hjv : jobV j = .agg [T j.name, T j.cron, I j.pol, I j.dl, I j.keep, Bl j.sus] := rfl
  simp only [go_sem, s6, k6, jobV, Nat.reduceBEq, Nat.reduceAdd, Nat.zero_add]
  intro b
  refine (stp_call [] (args := [jobV j]) rfl rfl rfl ⟨_, Tryd.func12, rfl, rfl⟩ (c12 j h1 h2) rfl (fun _ h => h) rfl (fun _ _ h => h) ?_).safe trivial
  rintro v hp ⟨⟨n, rfl, hok⟩, rfl⟩
  refine ⟨by simp only [recheck, go_sem], go_ok _ 100 _ _ ?_⟩
  simp only [go_sem, Nat.reduceBEq, Nat.zero_add, Tryd.results6]
  have hq : (decide (n ≠ 0) || j.sus || decide (now < 0)) = !(okJ j && !j.sus && decide (0 ≤ now)) := by
    rw [Bool.eq_iff_iff]
    simp only [Bool.or_eq_true, Bool.not_eq_true', Bool.and_eq_false_iff, decide_eq_true_eq, decide_eq_false_iff_not, Bool.not_eq_false']
    rw [ne_eq, hok, Bool.not_eq_true, Int.not_le]
  rw [hq]
  refine ⟨fun hc => ?_, fun hc => ?_⟩
  · have : dueA j last now = none := by
      unfold dueA
      rw [if_neg]
      rintro ⟨q1, q2, q3⟩
      rw [q1, q2, decide_eq_true q3] at hc
      cases hc
    rw [this]
    rfl
  simp only [Bool.not_eq_false', Bool.and_eq_true, Bool.not_eq_true', decide_eq_true_eq] at hc
  obtain ⟨⟨q1, q2⟩, q3⟩ := hc
  refine (stp_call [] (args := [T j.cron]) rfl rfl rfl ⟨_, Tryd.func7, rfl, rfl⟩ (c7 j.cron h2) rfl (fun _ h => h) rfl (fun _ _ h => h) ?_).safe trivial
  rintro v hp ⟨hv, rfl⟩
  unfold RefP at hv
  have q1' := q1
  unfold okJ at q1'
  rw [Bool.and_eq_true, Bool.and_eq_true] at q1'
  obtain ⟨⟨_, hnum⟩, hsome⟩ := q1'
  obtain ⟨e, he⟩ := Option.isSome_iff_exists.1 hsome
  rw [he] at hv
  subst hv
  unfold numsOk at hnum
  simp only [Bool.and_eq_true, decide_eq_true_eq] at hnum
  have hdue : dueA j last now = e.find (now + 1 - max (last + 1) (max (now - j.dl) 0)).toNat (max (last + 1) (max (now - j.dl) 0)) := by
    unfold dueA
    rw [if_pos ⟨q1, q2, q3⟩, he]
  rw [hdue]
  refine ⟨trivial, go_ok _ 10 _ _ ?_⟩
  simp only [go_sem, rxV, Nat.reduceBEq, Nat.reduceAdd, Nat.zero_add]
  intro b2
  refine safe_addw (a := last) (b := 1) rfl rfl trivial ?_
  by_cases hmax : last = 9223372036854775807
  · subst hmax
    refine go_ok _ 100 _ _ ?_
    simp only [go_sem, Nat.reduceBEq, Nat.zero_add, Tryd.results6]
    refine ⟨by simp only [inI64]; omega, ?_, fun h => absurd h (by decide)⟩
    rw [show (now + 1 - max (9223372036854775807 + 1) (max (now - j.dl) 0)).toNat = 0 by omega]
    rfl
  have hw : IntKind.i64.wrap (last + 1) = last + 1 := by
    unfold inI64 at hl
    exact IntWalk.i64_in _ (by omega)
  rw [hw]
  have dm : decide (last = 9223372036854775807) = false := decide_eq_false hmax
  refine go_ok _ 100 _ _ ?_
  simp only [go_sem, dm, Nat.reduceBEq, Nat.zero_add, Tryd.results6]
  refine ⟨by simp only [inI64]; omega, ?_⟩
  obtain ⟨fr, hfr⟩ : ∃ fr, max (last + 1) (max (now - j.dl) 0) = fr := ⟨_, rfl⟩
  rw [hfr] at hdue ⊢
  have hfr0 : 0 ≤ fr := by omega
  have hfr1 : fr ≤ 9223372036854775807 := by unfold inI64 at hl; omega
  refine safe_loop (ι := {m : Int // fr ≤ m ∧ (m ≤ now + 1 ∨ m = fr) ∧ e.find (now + 1 - m).toNat m = e.find (now + 1 - fr).toNat fr}) (fun g => ⟨[(2, I now), (6, I 0), (7, Bl false), (8, .ptr 1 b2 0), (11, I g.1)], [.cells b 23 [T j.name, T j.cron, I j.pol, I j.dl, I j.keep, Bl j.sus], .cells b2 30 [U e.mi, U e.ho, U e.da, U e.mo, U e.we, Bl e.ad, Bl e.aw]]⟩)
    (fun g => (now + 1 - g.1).toNat) ⟨fr, Int.le_refl _, .inr rfl, rfl⟩ (Sub.front (X := []) (by simp [envSub, look]) rfl) ?_
  rintro ⟨m, hm1, hm2, hm3⟩
  refine go_ok _ 100 _ _ ?_
  simp only [go_sem, Nat.reduceBEq, Tryd.results6]
  refine ⟨fun hc => ?_, fun hc => ?_⟩
  · have hle : m ≤ now := of_decide_eq_true hc
    refine (stp_call [] (args := [rxV e, I m]) rfl rfl rfl ⟨_, Tryd.func8, rfl, rfl⟩ (c8 e m (by omega) (by omega)) rfl (fun _ h => h) rfl (fun _ _ h => h) ?_).safe trivial
    rintro v hp ⟨rfl, rfl⟩
    obtain ⟨n', hn'⟩ : ∃ n', (now + 1 - m).toNat = n' + 1 := ⟨(now - m).toNat, by omega⟩
    rw [hn', show e.find (n' + 1) m = (if e.hit m = true then some m else e.find n' (m + 1)) from rfl] at hm3
    refine ⟨trivial, go_ok _ 100 _ _ ?_⟩
    simp only [go_sem, Nat.reduceBEq, Tryd.results6]
    refine ⟨fun hh => ?_, fun hh => ⟨by simp only [inI64]; omega, ?_⟩⟩
    · rw [← hm3]
      rw [if_pos hh]
      rfl
    · refine safe_lend ⟨m + 1, by omega, .inl (by omega), ?_⟩ (by simp only; omega) (Sub.front (X := []) (by simp [envSub, look]) rfl)
      rw [← hm3, hh, show (now + 1 - (m + 1)).toNat = n' by omega]
      rfl
  · have hgt : ¬ m ≤ now := of_decide_eq_false hc
    rw [← hm3, show (now + 1 - m).toNat = 0 by omega]
    rfl
end Go.SX

/- The library's functions by the shelf's contracts, the library's tables carried along. -/
namespace Go.SX
open Go.Proofs Go.RowKit
set_option maxRecDepth 1000000
variable {E : Env}

/-- the library's tables stand in memory that nobody writes -/
structure TabOk (ro : RO) : Prop where
  first : ∀ c, c < 256 → roCell ro ⟨0, c, none⟩ = some (.int .u8 (Lib.firstT c))
  acc : ∀ i, i < 16 → roCell ro ⟨1, 2 * i, none⟩ = some (.int .u8 (Lib.accLo i)) ∧ roCell ro ⟨1, 2 * i + 1, none⟩ = some (.int .u8 (Lib.accHi i))
  bruijn : ∀ j, j < 64 → roCell ro ⟨2, j, none⟩ = some (.int .u8 (Lib.deBruijn64tab.getD j 0))
  maxlen : ∃ m : Int, roCell ro ⟨3, 0, none⟩ = some (.int .i64 m)
theorem TabOk.mono {r r' : RO} (h : ROle r r') (t : TabOk r) : TabOk r' :=
  ⟨fun c hc => roCell_mono h (t.first c hc), fun i hi => ⟨roCell_mono h (t.acc i hi).1, roCell_mono h (t.acc i hi).2⟩, fun j hj => roCell_mono h (t.bruijn j hj), t.maxlen.elim fun m hm => ⟨m, roCell_mono h hm⟩⟩
/-- that, as memory that takes no room -/
def tabC : Chunk := .abs ⟨fun ro H => H = [] ∧ TabOk ro, fun _ _ _ hle h => ⟨h.1, h.2.mono hle⟩⟩

theorem Sat.below {e : Env} {ro : RO} {H : Hp} {w w' : World} (h : Sat e ro H w) (hb : Below w.heap.size w w') : Sat e ro H w' := by
  have hk : ∀ (k : Nat) (x : Obj), w.heap[k]? = some x → w'.heap[k]? = some x := fun k x hx => by
    rw [hb.block k (Array.getElem?_eq_some_iff.1 hx).1]
    exact hx
  exact ⟨hb.os.trans h.os, hb.tape.trans h.tape, hb.output.trans h.out, fun b o hr => hk _ _ (h.rom b o hr), fun p hp => ⟨hk _ _ (h.own p hp).1, (h.own p hp).2⟩, h.nod⟩
/-- from the shelf's contract to one of ours -/
theorem Spec.of_kit {P : Program} {f : FuncId} {args : List SV} {v : SV} (hv : ∀ ro, v.ok ro)
    (h : ∀ ro F w, TabOk ro → Sat E ro F w → Calls P f (SV.dens args).toArray w fun e w' => e = .returned v.den ∧ Below w.heap.size w w') : Spec P E f args [tabC] (fun r hp => r = v ∧ hp = [tabC]) := by
  intro ro F H w hs hok hsat
  obtain ⟨H1, H2, rfl, ⟨rfl, ht⟩, h2⟩ := hs
  have h2 : H2 = [] := h2
  subst h2
  refine (h ro F w ht (by simpa using hsat)).mono ?_
  rintro e w' ⟨rfl, hb⟩
  exact ⟨v, [tabC], ro, [], rfl, ⟨rfl, rfl⟩, ROle.refl _, hv ro, ⟨[], [], rfl, ⟨rfl, ht⟩, rfl⟩, hsat.below hb⟩

theorem c33 (x : List UInt8) : Spec Tryd.prog E 33 [T x] [tabC] (fun v hp => v = .tup [.val (.int .i32 (Lib.decodeGo ⟨x.toArray⟩).1), I (Lib.decodeGo ⟨x.toArray⟩).2] ∧ hp = [tabC]) := by
  refine Spec.of_kit (fun ro => by simp [SV.ok, SV.oks]) fun ro F w ht hs => ?_
  exact Any.utf8_DecodeRuneInString Tryd.lays197 ⟨x.toArray⟩ w ⟨fun c hc => hs.cell (ht.first c hc), fun i hi => ⟨hs.cell (ht.acc i hi).1, hs.cell (ht.acc i hi).2⟩⟩
theorem c53 (x : Nat) (hx : x < 2 ^ 64) : Spec Tryd.prog E 53 [U x] [tabC] (fun v hp => v = I (Lib.ctz 64 x) ∧ hp = [tabC]) := by
  refine Spec.of_kit (fun ro => by simp [SV.ok]) fun ro F w ht hs => ?_
  refine (Any7.bits_TrailingZeros64 Tryd.laysTz x (by omega) w fun _ j hj => hs.cell (ht.bruijn j hj)).mono ?_
  rintro e w' ⟨rfl, rfl⟩
  exact ⟨rfl, Below.refl _ _⟩
theorem idx_none {b : UInt8} : ∀ {p : List UInt8}, (∀ c ∈ p, c ≠ b) → Lib.index p [b] = -1
  | [], _ => rfl
  | c :: r, h => by
    have ih := idx_none fun x hx => h x (List.mem_cons_of_mem _ hx)
    rw [Lib.index_one] at ih ⊢
    unfold Lib.indexByte
    rw [if_neg (by simpa using h c (by simp)), ih]
    rfl
theorem idx_at {b : UInt8} {t : List UInt8} : ∀ {p : List UInt8}, (∀ c ∈ p, c ≠ b) → Lib.index (p ++ b :: t) [b] = p.length
  | [], _ => by
    rw [Lib.index_one]
    unfold Lib.indexByte
    simp
  | c :: r, h => by
    have ih := idx_at (t := t) fun x hx => h x (List.mem_cons_of_mem _ hx)
    rw [Lib.index_one] at ih ⊢
    rw [List.cons_append]
    unfold Lib.indexByte
    rw [if_neg (by simpa using h c (by simp)), ih, if_neg (by simp)]
    simp
theorem cut_eq (b : UInt8) (x : List UInt8) : Lib.cut x [b] = ((Cron.cutA b x).1, ((Cron.cutA b x).2.getD []), (Cron.cutA b x).2.isSome) := by
  obtain ⟨p, hp, h | ⟨t, h1, h2⟩⟩ := Cron.cut_shape b x
  · obtain ⟨rfl, h2⟩ := h
    unfold Lib.cut
    rw [idx_none hp, if_neg (by decide), h2]
    rfl
  · subst h1
    unfold Lib.cut
    rw [idx_at hp, if_pos (Int.natCast_nonneg _), h2]
    simp
theorem split_eq (b : UInt8) : ∀ (n : Nat) (x : List UInt8), x.length ≤ n → Lib.splitK [b] 0 (Lib.count x [b]) x = Cron.splitA b x
  | n, x, hn => by
    obtain ⟨p, hp, h | ⟨t, h1, h2⟩⟩ := Cron.split_shape b x
    · obtain ⟨rfl, h2⟩ := h
      rw [Lib.count_miss (idx_none hp), h2]
      rfl
    · subst h1
      have hi := idx_at (t := t) hp
      rw [Lib.count_hit (by simp) hi, h2, Nat.add_comm 1]
      unfold Lib.splitK
      rw [hi, if_neg (by simp)]
      cases n with
      | zero => simp at hn
      | succ n =>
        have hd : (p ++ b :: t).drop (p.length + [b].length) = t := by simp
        rw [hd, Int.toNat_natCast, hd, split_eq b n t (by simp at hn; omega)]
        simp
theorem c50 (x : List UInt8) (b : UInt8) (hx : x.length < 4294967281) : Spec Tryd.prog E 50 [T x, T [b]] [tabC] (fun v hp => v = .tup [T (Cron.cutA b x).1, T ((Cron.cutA b x).2.getD []), Bl (Cron.cutA b x).2.isSome] ∧ hp = [tabC]) := by
  refine Spec.of_kit (fun ro => by simp [SV.ok, SV.oks]) fun ro F w ht hs => ?_
  obtain ⟨m, hm⟩ := ht.maxlen
  refine (Any.strings_Cut Tryd.lays145 ⟨x.toArray⟩ ⟨[b].toArray⟩ m w (by simpa [ByteArray.size] using hx) (hs.cell hm)).mono ?_
  rintro e w' ⟨rfl, n, rfl⟩
  have he : Lib.cut (⟨x.toArray⟩ : ByteArray).data.toList (⟨[b].toArray⟩ : ByteArray).data.toList = Lib.cut x [b] := rfl
  rw [he, cut_eq]
  exact ⟨rfl, ⟨rfl, rfl, rfl, Nat.le_refl _, fun _ _ => rfl⟩⟩
theorem Spec.of_alloc {P : Program} {f : FuncId} {args : List SV} {T : TypeId} {xs : List (List UInt8)}
    (h : ∀ ro F w, TabOk ro → Sat E ro F w → Calls P f (SV.dens args).toArray w fun e w' => e = .returned (.slice (some ⟨w.heap.size, 0, none⟩) xs.length xs.length) ∧ w' = w.alloc (.cells (xs.map fun x => Value.string ⟨x.toArray⟩).toArray T)) :
    Spec P E f args [tabC] (fun v hp => ∃ a cap, v = vT a cap xs ∧ hp = [tabC]) := by
  intro ro F H w hs hok hsat
  obtain ⟨H1, H2, rfl, ⟨rfl, ht⟩, h2⟩ := hs
  have h2 : H2 = [] := h2
  subst h2
  refine (h ro F w ht (by simpa using hsat)).mono ?_
  rintro e w' ⟨rfl, rfl⟩
  have hs1 := (show Sat E ro F w by simpa using hsat).alloc (.cells (xs.map fun x => Value.string ⟨x.toArray⟩).toArray T)
  obtain ⟨hs2, hle, hro⟩ := hs1.freeze
  refine ⟨vT (some ⟨w.heap.size, 0, none⟩) xs.length xs, [tabC], _, [], rfl, ⟨_, _, rfl, rfl⟩, hle, ?_, ⟨[], [], rfl, ⟨rfl, ht.mono hle⟩, rfl⟩, hs2⟩
  simp only [SV.ok]
  refine ⟨Nat.le_refl _, fun i j hi hj => ⟨⟨_, rfl, ?_⟩, ?_⟩⟩
  · obtain rfl : j = 0 := by omega
    have hadd : Addr.add ⟨w.heap.size, 0, none⟩ (i * 1 + 0) = ⟨w.heap.size, i, none⟩ := by
      rcases i with _ | i
      · rfl
      · simp [Addr.add]
    rw [hadd]
    unfold roCell
    simp only [hro, rowsT, SV.den]
    simp [List.getD_eq_getElem?_getD, hi]
  · obtain rfl : j = 0 := by omega
    rw [rowsT]
    simp only [SV.ok]
theorem hi9 : (Tryd.prog.info? (Tryd.lays146_ren.t 9)).map (fun i => (i.zero, i.size, i.bytes)) = some (some (.string ByteArray.empty), 1, 16) := by kernel_rfl
theorem c40 (x : List UInt8) (b : UInt8) (hx : x.length < 4294967281) : Spec Tryd.prog E 40 [T x, T [b]] [tabC] (fun v hp => ∃ a cap, v = vT a cap (Cron.splitA b x) ∧ hp = [tabC]) := by
  refine Spec.of_alloc (T := 9) fun ro F w ht hs => ?_
  obtain ⟨m, hm⟩ := ht.maxlen
  have hd : (Lib.splitB ⟨[b].toArray⟩ 0 (Lib.countB ⟨x.toArray⟩ ⟨[b].toArray⟩) ⟨x.toArray⟩).map (·.data.toList) = Cron.splitA b x := by
    rw [Lib.splitB_data]
    exact split_eq b _ x (Nat.le_refl _)
  have hlen : Lib.countB ⟨x.toArray⟩ ⟨[b].toArray⟩ + 1 = (Cron.splitA b x).length := by
    rw [← hd, List.length_map, Lib.splitB_all ⟨[b].toArray⟩ (Nat.le_refl _) 0 _ ⟨x.toArray⟩ rfl]
  refine (Any.strings_Split Tryd.lays146 hi9 ⟨x.toArray⟩ ⟨[b].toArray⟩ m w (by simpa [ByteArray.size] using hx) (hs.cell hm) (Nat.le_refl _)).mono ?_
  rintro e w' ⟨rfl, rfl⟩
  rw [hlen]
  refine ⟨rfl, ?_⟩
  rw [← hd, List.map_map]
  rfl
end Go.SX
