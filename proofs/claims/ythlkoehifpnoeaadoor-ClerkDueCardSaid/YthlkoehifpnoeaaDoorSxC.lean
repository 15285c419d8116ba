/- Compact code: reads. What each comes to in a symbolic state, and that the model agrees. -/
import Derived.Test.YthlkoehifpnoeaaDoorSxB
import Derived.IntWalk
import Derived.WalkSpells
namespace Go.SX

inductive Opd where
  | t (n : Nat)
  | c (v : Value)
  | f (n : Nat)
  deriving Inhabited

inductive SRd where
  | mv (x : Opd)
  | pick (c a b : Opd)
  | nchk (x : Opd)
  | fadd (x : Opd) (off : Nat)
  | fld (x : Opd) (off : Nat) (n : Option Nat)
  | load (x : Opd) (n : Option Nat)
  | bin (cls : Nat) (o : BinOp) (x y : Opd)
  | un (o : UnOp) (x : Opd)
  | ext (x : Opd) (i : Nat)
  | len (str : Bool) (x : Opd)
  | cap (x : Opd)
  | mn (x y : Opd)
  | mx (x y : Opd)
  | idx (x i : Opd) (sz : Nat)
  | sidx (x i : Opd)
  | slc (x : Opd) (lo hi mx : Option Opd) (sz : Nat)
  | sslc (x : Opd) (lo hi : Option Opd)
  | mkfn (fn : Fn) (first cap : List Opd)
  | build (z : List Value) (ps : List (Nat × Nat × Opd))
  | conv (k : IntKind) (x : Opd)
  deriving Inhabited

def copd : Operand → Option Opd
  | .tmp t => some (.t t)
  | .const v => some (.c v)
  | .func f => some (.f f)
  | .global _ => none
def copds : List Operand → Option (List Opd)
  | [] => some []
  | x :: xs => do let y ← copd x; let ys ← copds xs; some (y :: ys)
def copt : Option Operand → Option (Option Opd)
  | none => some none
  | some x => (copd x).map some

def szOf (P : Program) (t : TypeId) : Option Nat := (P.info? t).map (·.size)
def aggOf (P : Program) (t : TypeId) : Option (Option Nat) :=
  match P.underlying t with
  | some (.struct _) | some (.array _ _) => (szOf P t).map some
  | some _ => some none
  | none => none

def binCls (P : Program) (o : BinOp) (t : TypeId) : Option Nat :=
  match P.underlying t with
  | some (.int _) | some .string => some 0
  | some .bool => match o with | .eql | .neq => some 1 | _ => none
  | some (.pointer _) => match o with | .eql | .neq => some 2 | _ => none
  | some (.slice _) => match o with | .eql | .neq => some 3 | _ => none
  | some (.map _ _) => match o with | .eql | .neq => some 4 | _ => none
  | _ => none

def cparts (pl : Array (Nat × Nat)) : List (Nat × Operand) → Option (List (Nat × Nat × Opd))
  | [] => some []
  | (i, x) :: ps =>
    match pl[i]?, copd x, cparts pl ps with
    | some (off, n), some y, some r => some ((off, n, y) :: r)
    | _, _, _ => none

def crd (P : Program) : Op → Option SRd
  | .move x | .assign x => (copd x).map .mv
  | .pick c a b => do some (.pick (← copd c) (← copd a) (← copd b))
  | .nilCheck x => (copd x).map .nchk
  | .fieldAddr s x f =>
    match P.underlying s with
    | some (.struct fs) => match fs[f]? with
      | some fl => match szOf P fl.type with
        | some (_ + 1) => (copd x).map fun y => .fadd y fl.offset
        | _ => none
      | none => none
    | _ => none
  | .field s x f =>
    match P.underlying s with
    | some (.struct fs) => match fs[f]? with
      | some fl => do let n ← aggOf P fl.type; let y ← copd x; some (.fld y fl.offset n)
      | none => none
    | _ => none
  | .load t x => do let n ← aggOf P t; let y ← copd x; some (.load y n)
  | .binOp o t x y _ => do let c ← binCls P o t; let x ← copd x; let y ← copd y; some (.bin c o x y)
  | .unOp o _ x => (copd x).map (.un o)
  | .extract x i => (copd x).map fun y => .ext y i
  | .indexAddr t x i =>
    match P.underlying t with
    | some (.slice e) => match szOf P e with
      | some (n + 1) => do let x ← copd x; let i ← copd i; some (.idx x i (n + 1))
      | _ => none
    | _ => none
  | .index t x i =>
    match P.underlying t with
    | some .string => do let x ← copd x; let i ← copd i; some (.sidx x i)
    | _ => none
  | .slice t x lo hi mx =>
    match P.underlying t with
    | some (.slice e) => do let n ← szOf P e; let x ← copd x; let lo ← copt lo; let hi ← copt hi; let mx ← copt mx; some (.slc x lo hi mx n)
    | some .string => match mx with
      | none => do let x ← copd x; let lo ← copt lo; let hi ← copt hi; some (.sslc x lo hi)
      | some _ => none
    | _ => none
  | .makeFunc fn a b => do some (.mkfn fn (← copds a.toList) (← copds b.toList))
  | .build t ps =>
    match P.underlying t, (P.info? t).bind (·.zero) with
    | some (.struct fs), some z => match fs.toList.mapM (fun f => (P.info? f.type).map fun i => (f.offset, i.size)) with
      | some pl => (cparts pl.toArray ps.toList).map (.build z.cells.toList)
      | none => none
    | _, _ => none
  | .convert s d x =>
    match P.underlying s, P.underlying d with
    | some (.int _), some (.int k) => (copd x).map (.conv k)
    | _, _ => none
  | .call { callee := .builtin b, args, argTypes } =>
    match b, args.toList, argTypes.toList with
    | .len, [x], [t] => match P.underlying t with
      | some (.slice _) => (copd x).map (.len false)
      | some .string => (copd x).map (.len true)
      | _ => none
    | .cap, [x], [t] => match P.underlying t with
      | some (.slice _) => (copd x).map .cap
      | _ => none
    | .min, [x, y], _ => do some (.mn (← copd x) (← copd y))
    | .max, [x, y], _ => do some (.mx (← copd x) (← copd y))
    | _, _, _ => none
  | _ => none

/-- a constant as a symbolic value -/
def cst1 : Value → SV
  | .slice none 0 0 => .view none 0 0 1 (fun _ _ => .val undef)
  | v => .val v
theorem cst1_den (v : Value) : (cst1 v).den = v := by
  unfold cst1
  split <;> simp [SV.den]
theorem cst1_ok (ro : RO) (v : Value) : (cst1 v).ok ro := by
  unfold cst1
  split
  · simp only [SV.ok]
    exact ⟨Nat.le_refl _, fun i j hi => absurd hi (by omega)⟩
  · simp only [SV.ok]
def cst : Value → SV
  | .agg cs => .agg (cs.toList.map cst1)
  | v => cst1 v
theorem dens_cst (l : List Value) : SV.dens (l.map cst1) = l := by
  induction l with
  | nil => rfl
  | cons x l ih => simp [SV.dens, cst1_den, ih]
theorem oks_cst (ro : RO) (l : List Value) : SV.oks ro (l.map cst1) := by
  rw [oks_iff]
  rintro x hx
  obtain ⟨v, _, rfl⟩ := List.mem_map.1 hx
  exact cst1_ok ro v
theorem cst_den (v : Value) : (cst v).den = v := by
  unfold cst
  split
  · simp [SV.den, dens_cst]
  · exact cst1_den v
theorem cst_ok (ro : RO) (v : Value) : (cst v).ok ro := by
  unfold cst
  split
  · simp only [SV.ok]
    exact oks_cst ro _
  · exact cst1_ok ro v

def opv (env : List (Nat × SV)) : Opd → Option SV
  | .t n => look env n
  | .c v => some (cst v)
  | .f n => some (.fn (.func n) [] [])
def opvs (env : List (Nat × SV)) : List Opd → Option (List SV)
  | [] => some []
  | x :: xs => match opv env x, opvs env xs with | some y, some ys => some (y :: ys) | _, _ => none

section
variable {C : Ctx} {ro : RO} {H F : Hp} {st : St} {a : Act} {w : World}

theorem opv_ok (g : G C ro H F st a w) {x : Operand} {y : Opd} {s : SV} (hc : copd x = some y) (hs : opv st.env y = some s) : a.eval x = s.den ∧ s.ok ro := by
  cases x with
  | tmp t =>
    simp only [copd, Option.some.injEq] at hc
    subst hc
    have := g.env t s hs
    simp [Act.eval, this.1, this.2]
  | const v =>
    simp only [copd, Option.some.injEq] at hc
    subst hc
    simp only [opv, Option.some.injEq] at hs
    subst hs
    exact ⟨(cst_den v).symm, cst_ok ro v⟩
  | func f =>
    simp only [copd, Option.some.injEq] at hc
    subst hc
    simp only [opv, Option.some.injEq] at hs
    subst hs
    simp [Act.eval, SV.den, SV.dens, SV.ok, SV.oks]
  | global _ => simp [copd] at hc

theorem opvs_ok (g : G C ro H F st a w) : ∀ {xs : List Operand} {ys : List Opd} {ss : List SV}, copds xs = some ys → opvs st.env ys = some ss → xs.map a.eval = SV.dens ss ∧ SV.oks ro ss
  | [], ys, ss, hc, hs => by
    simp only [copds, Option.some.injEq] at hc
    subst hc
    simp only [opvs, Option.some.injEq] at hs
    subst hs
    simp [SV.dens, SV.oks]
  | x :: xs, ys, ss, hc, hs => by
    simp only [copds, Option.bind_eq_bind] at hc
    cases h1 : copd x with
    | none => simp [h1] at hc
    | some y =>
      cases h2 : copds xs with
      | none => simp [h1, h2] at hc
      | some ys' =>
        simp only [h1, h2, Option.bind_some, Option.some.injEq] at hc
        subst hc
        simp only [opvs] at hs
        cases h3 : opv st.env y with
        | none => simp [h3] at hs
        | some s =>
          cases h4 : opvs st.env ys' with
          | none => simp [h3, h4] at hs
          | some ss' =>
            simp only [h3, h4, Option.some.injEq] at hs
            subst hs
            have i1 := opv_ok g h1 h3
            have i2 := opvs_ok g h2 h4
            exact ⟨by simp [SV.dens, i1.1, i2.1], by simp only [SV.oks]; exact ⟨i1.2, i2.2⟩⟩
end

def inI64 (n : Int) : Prop := -9223372036854775808 ≤ n ∧ n ≤ 9223372036854775807
def ar (k : IntKind) (n : Int) : SV × Prop := match k with | .i64 => (.val (.int .i64 n), inI64 n) | k => (.val (.int k (k.wrap n)), True)
def bitsI (o : BinOp) (k : IntKind) (x y : Int) : Int :=
  match o with
  | .and => k.wrap ((BitVec.ofInt k.bits x &&& BitVec.ofInt k.bits y).toNat)
  | .or => k.wrap ((BitVec.ofInt k.bits x ||| BitVec.ofInt k.bits y).toNat)
  | .xor => k.wrap ((BitVec.ofInt k.bits x ^^^ BitVec.ofInt k.bits y).toNat)
  | _ => k.wrap ((BitVec.ofInt k.bits x &&& ~~~BitVec.ofInt k.bits y).toNat)
def shlI (k : IntKind) (x y : Int) : Int := k.wrap (x * 2 ^ (min y.toNat k.bits))
def shrI (k : IntKind) (x y : Int) : Int := x.fdiv (2 ^ (min y.toNat k.bits))

def binI (o : BinOp) (k : IntKind) (x : Int) (k' : IntKind) (y : Int) : Option (SV × Prop) :=
  match o with
  | .add => some ((ar k (x + y)).1, k = k' ∧ (ar k (x + y)).2)
  | .sub => some ((ar k (x - y)).1, k = k' ∧ (ar k (x - y)).2)
  | .mul => some ((ar k (x * y)).1, k = k' ∧ (ar k (x * y)).2)
  | .quo => some ((ar k (x.tdiv y)).1, k = k' ∧ y ≠ 0 ∧ (ar k (x.tdiv y)).2)
  | .rem => some (.val (.int k (x.tmod y)), k = k' ∧ y ≠ 0)
  | .and => some (.val (.int k (bitsI .and k x y)), k = k')
  | .or => some (.val (.int k (bitsI .or k x y)), k = k')
  | .xor => some (.val (.int k (bitsI .xor k x y)), k = k')
  | .andNot => some (.val (.int k (bitsI .andNot k x y)), k = k')
  | .shl => some (.val (.int k (shlI k x y)), 0 ≤ y)
  | .shr => some (.val (.int k (shrI k x y)), 0 ≤ y)
  | .eql => some (.val (.bool (decide (x = y))), k = k')
  | .neq => some (.val (.bool (decide (x ≠ y))), k = k')
  | .lss => some (.val (.bool (decide (x < y))), k = k')
  | .leq => some (.val (.bool (decide (x ≤ y))), k = k')
  | .gtr => some (.val (.bool (decide (y < x))), k = k')
  | .geq => some (.val (.bool (decide (y ≤ x))), k = k')

def strLt (x y : ByteArray) : Bool := Op.bytesLess x.toList y.toList
def binS (o : BinOp) (x y : ByteArray) : Option (SV × Prop) :=
  match o with
  | .add => some (.val (.string (x ++ y)), ((x.size + y.size : Nat) : Int) ≤ 9223372036854775807)
  | .eql => some (.val (.bool (decide (x = y))), True)
  | .neq => some (.val (.bool (decide (x ≠ y))), True)
  | .lss => some (.val (.bool (strLt x y)), True)
  | .leq => some (.val (.bool (strLt x y || decide (x = y))), True)
  | .gtr => some (.val (.bool (!(strLt x y || decide (x = y)))), True)
  | .geq => some (.val (.bool (!strLt x y)), True)
  | _ => none

/-- is it nil? (of pointers, slices, maps) -/
def isNil (cls : Nat) : SV → Option Bool
  | .ptr .. => bif cls == 2 then some false else none
  | .ep .. => bif cls == 2 then some false else none
  | .rp .. => bif cls == 2 then some false else none
  | .val (.pointer a) => bif cls == 2 then some a.isNone else none
  | .val (.map a) => bif cls == 4 then some a.isNone else none
  | .osl _ nl .. => bif cls == 3 then some nl else none
  | .view a .. => bif cls == 3 then some a.isNone else none
  | _ => none
def binN (cls : Nat) (o : BinOp) (x y : SV) : Option (SV × Prop) :=
  match isNil cls x, isNil cls y with
  | some b, some true => match o with | .eql => some (.val (.bool b), True) | .neq => some (.val (.bool (!b)), True) | _ => none
  | _, _ => none

def binV (cls : Nat) (o : BinOp) (x y : SV) : Option (SV × Prop) :=
  match x, y with
  | .val (.int k x), .val (.int k' y) => bif cls == 0 then binI o k x k' y else none
  | .val (.string x), .val (.string y) => bif cls == 0 then binS o x y else none
  | .val (.bool x), .val (.bool y) => bif cls == 1 then (match o with | .eql => some (.val (.bool (x == y)), True) | .neq => some (.val (.bool (!(x == y))), True) | _ => none) else none
  | x, y => binN cls o x y

def addCond (c : Prop) : Option (SV × Prop) → Option (SV × Prop)
  | some (s, p) => some (s, c ∧ p)
  | none => none

/-- the bool in a value that a guard 'g' covers, and what must hold for it to be there -/
def bpart : SV → Option (Bool × Bool)
  | .val (.bool b) => some (b, true)
  | .cnd q (.val (.bool b)) => some (b, q)
  | _ => none

def cellsOf : SV → Option (List SV)
  | .agg xs => some xs
  | .tup _ => none
  | .cnd .. => none
  | .val (.agg _) => none
  | .val (.tuple _) => none
  | s => some [s]

def getL : List SV → Nat → Option SV
  | [], _ => none
  | x :: _, 0 => some x
  | _ :: xs, n + 1 => getL xs n
def takeL : List SV → Nat → Option (List SV)
  | _, 0 => some []
  | [], _ + 1 => none
  | x :: xs, n + 1 => match takeL xs n with | some ys => some (x :: ys) | none => none
def dropL : List SV → Nat → List SV
  | xs, 0 => xs
  | [], _ + 1 => []
  | _ :: xs, n + 1 => dropL xs n
/-- 'ys' laid over 'xs' from the n-th place on -/
def overL : List SV → Nat → List SV → Option (List SV)
  | xs, 0, [] => some xs
  | x :: xs, n + 1, ys => match overL xs n ys with | some r => some (x :: r) | none => none
  | _ :: xs, 0, y :: ys => match overL xs 0 ys with | some r => some (y :: r) | none => none
  | [], _, _ => none

def funL (g : Nat → SV) : Nat → Nat → List SV
  | _, 0 => []
  | j, n + 1 => g j :: funL g (j + 1) n

def partV (cs : List SV) (off : Nat) : Option Nat → Option SV
  | none => getL cs off
  | some n => match takeL (dropL cs off) n with | some l => some (.agg l) | none => none

def ldV (heap : List Chunk) (x : SV) (n : Option Nat) : Option (SV × Prop) :=
  match x with
  | .ptr c b off => match getC heap c with
    | .cells b' _ cs => match n with
      | none => match getL cs off with | some s => some (s, b = b') | none => none
      | some n => match takeL (dropL cs off) n with | some l => some (.agg l, b = b') | none => none
    | _ => none
  | .ep c b off sz i j => match getC heap c with
    | .row _ b' _ off' sz' m _ f => match n with
      | none => some (f i j, b = b' ∧ off = off' ∧ sz = sz' ∧ i < m ∧ j < sz)
      | some n => some (.agg (funL (f i) j n), b = b' ∧ off = off' ∧ sz = sz' ∧ i < m ∧ j + n ≤ sz)
    | _ => none
  | .rp _ _ m g j => match n with
    | none => some (g j, j < m)
    | some n => some (.agg (funL g j n), j + n ≤ m)
  | _ => none

def intOf : SV → Option Int
  | .val (.int _ i) => some i
  | _ => none

def idxV (heap : List Chunk) (x i : SV) (sz : Nat) : Option (SV × Prop) :=
  match intOf i with
  | none => none
  | some i => match x with
    | .view a n _ sz' f => some (.rp a (i.toNat * sz) sz (f i.toNat) 0, 0 ≤ i ∧ i < n ∧ sz = sz')
    | .osl c nl b off n _ => match getC heap c with
      | .row nl' _ _ _ _ m _ _ => some (.ep c b off sz i.toNat 0, 0 ≤ i ∧ i < n ∧ nl = nl' ∧ n ≤ m)
      | _ => none
    | _ => none

def bt (s : ByteArray) (i : Int) : Int := ((s.data.toList.getD i.toNat 0).toNat : Int)

def ivOf (env : List (Nat × SV)) (d : Int) : Option Opd → Option Int
  | none => some d
  | some x => match opv env x with | some s => intOf s | none => none

def slcV (env : List (Nat × SV)) (x : SV) (lo hi mx : Option Opd) (sz : Nat) : Option (SV × Prop) :=
  match x with
  | .view a n cap sz' f =>
    match ivOf env 0 lo, ivOf env n hi, ivOf env cap mx with
    | some l, some h, some m => some (.view (if m = l then a else a.map (·.add (l.toNat * sz))) (h.toNat - l.toNat) (m.toNat - l.toNat) sz (fun i => f (i + l.toNat)),
        0 ≤ l ∧ l ≤ h ∧ h ≤ m ∧ m ≤ cap ∧ h ≤ n ∧ sz = sz' ∧ (mx.isSome = true → hi.isSome = true))
    | _, _, _ => none
  | .osl c nl b off n cap =>
    match ivOf env 0 lo, ivOf env n hi, ivOf env cap mx with
    | some l, some h, some m => some (.osl c nl b (if m = l then off else off + l.toNat * sz) (h.toNat - l.toNat) (m.toNat - l.toNat),
        0 ≤ l ∧ l ≤ h ∧ h ≤ m ∧ m ≤ cap ∧ h ≤ n ∧ (mx.isSome = true → hi.isSome = true))
    | _, _, _ => none
  | _ => none

def sslV (env : List (Nat × SV)) (x : SV) (lo hi : Option Opd) : Option (SV × Prop) :=
  match x with
  | .val (.string s) =>
    match ivOf env 0 lo, ivOf env s.size hi with
    | some l, some h => some (.val (.string (s.extract l.toNat h.toNat)), 0 ≤ l ∧ l ≤ h ∧ h ≤ s.size)
    | _, _ => none
  | _ => none

def buildV (env : List (Nat × SV)) : List SV → List (Nat × Nat × Opd) → Option (List SV)
  | z, [] => some z
  | z, (off, n, x) :: ps =>
    match opv env x with
    | some s => match cellsOf s with
      | some cs => bif cs.length == n then (match overL z off cs with | some z' => buildV env z' ps | none => none) else none
      | none => none
    | none => none

def rdv (st : St) : SRd → Option (SV × Prop)
  | .mv x => match opv st.env x with | some s => some (s, True) | none => none
  | .pick c x y =>
    match opv st.env c, opv st.env x, opv st.env y with
    | some (.val (.bool p)), some x, some y =>
      match bpart x, bpart y with
      | some (b1, q1), some (b2, q2) => some (.val (.bool (bif p then b1 else b2)), (p = true → q1 = true) ∧ (p = false → q2 = true))
      | _, _ => none
    | _, _, _ => none
  | .nchk x =>
    match opv st.env x with
    | some (.ptr c b off) => some (.ptr c b off, True)
    | some (.ep c b off sz i j) => some (.ep c b off sz i j, True)
    | some (.rp a k m g j) => some (.rp a k m g j, True)
    | _ => none
  | .fadd x off =>
    match opv st.env x with
    | some (.ptr c b o) => some (.ptr c b (o + off), True)
    | some (.ep c b o sz i j) => some (.ep c b o sz i (j + off), True)
    | some (.rp a k m g j) => some (.rp a k m g (j + off), True)
    | _ => none
  | .fld x off n =>
    match opv st.env x with
    | some (.agg cs) => match partV cs off n with | some s => some (s, True) | none => none
    | _ => none
  | .load x n => match opv st.env x with | some s => ldV st.heap s n | none => none
  | .bin c o x y => match opv st.env x, opv st.env y with | some x, some y => binV c o x y | _, _ => none
  | .un .not x => match opv st.env x with | some (.val (.bool b)) => some (.val (.bool (!b)), True) | _ => none
  | .un .neg x => match opv st.env x with | some (.val (.int k n)) => some (ar k (0 - n)) | _ => none
  | .un _ _ => none
  | .ext x i => match opv st.env x with | some (.tup cs) => (match getL cs i with | some s => some (s, True) | none => none) | _ => none
  | .len false x => match opv st.env x with
    | some (.view _ n _ _ _) => some (.val (.int .i64 n), True)
    | some (.osl _ _ _ _ n _) => some (.val (.int .i64 n), True)
    | _ => none
  | .len true x => match opv st.env x with
    | some (.val (.string s)) => some (.val (.int .i64 s.size), True)
    | _ => none
  | .cap x => match opv st.env x with
    | some (.view _ _ n _ _) => some (.val (.int .i64 n), True)
    | some (.osl _ _ _ _ _ n) => some (.val (.int .i64 n), True)
    | _ => none
  | .mn x y => match opv st.env x, opv st.env y with | some (.val (.int k x)), some (.val (.int _ y)) => some (.val (.int k (min x y)), True) | _, _ => none
  | .mx x y => match opv st.env x, opv st.env y with | some (.val (.int k x)), some (.val (.int _ y)) => some (.val (.int k (max x y)), True) | _, _ => none
  | .idx x i sz => match opv st.env x, opv st.env i with | some x, some i => idxV st.heap x i sz | _, _ => none
  | .sidx x i => match opv st.env x, opv st.env i with
    | some (.val (.string s)), some (.val (.int _ i)) => some (.val (.int .u8 (bt s i)), 0 ≤ i ∧ i < s.size)
    | _, _ => none
  | .slc x lo hi mx sz => match opv st.env x with | some x => slcV st.env x lo hi mx sz | none => none
  | .sslc x lo hi => match opv st.env x with | some x => sslV st.env x lo hi | none => none
  | .mkfn fn x y => match opvs st.env x, opvs st.env y with | some x, some y => some (.fn fn x y, True) | _, _ => none
  | .build z ps => match buildV st.env (z.map cst1) ps with | some cs => some (.agg cs, True) | none => none
  | .conv k x => match opv st.env x with | some (.val (.int _ n)) => some (ar k n) | _ => none
end Go.SX
