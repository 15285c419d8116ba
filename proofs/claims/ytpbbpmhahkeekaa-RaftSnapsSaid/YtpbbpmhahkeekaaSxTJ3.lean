/- Joined texts: PM T8 T9 T10 T11 T12 T13 T14 T15. -/
import Derived.Test.YtpbbpmhahkeekaaSxTJ2
/- Raft, plainly: a node, and what it does; a group of nodes. -/
namespace Go.SX.Rf

structure En where
  ix : Int
  tm : Int
  kd : Int
  d : List UInt8
  deriving DecidableEq, Inhabited
structure Me where
  ix : Int
  tm : Int
  vs : List Int
  deriving DecidableEq, Inhabited
structure Ha where
  tm : Int
  vote : Int
  cm : Int
  deriving DecidableEq, Inhabited
structure Ms where
  kd : Int
  fr : Int := 0
  to : Int
  tm : Int := 0
  ix : Int := 0
  lt : Int := 0
  es : List En := []
  cm : Int := 0
  sq : Int := 0
  ok : Bool := false
  mt : Int := 0
  me : Me := ⟨0, 0, []⟩
  d : List UInt8 := []
  deriving DecidableEq, Inhabited
structure Pe where
  nx : Int
  mt : Int
  hd : Int
  deriving DecidableEq, Inhabited
structure Wa where
  ctx : Int
  ix : Int
  rd : Int
  deriving DecidableEq, Inhabited
structure Nd where
  me : Me
  d : List UInt8
  log : List En
  first : List Int
  fresh : Int
  ticks : Int
  taken : Int
  draw : Int
  beats : Int
  id : Int
  hd : Ha
  told : Ha
  applied : Int
  role : Int
  lead : Int
  votes : List Int
  peers : Option (List (Int × Pe))
  round : Int
  waits : List Wa
  reads : List (Int × Int)
  msgs : List Ms
  snap : Bool
  deriving Inhabited

def isId (n : Int) : Bool := decide (0 ≤ n) && decide (n ≤ 1073741823)
def rising : List Int → Bool
  | [] => true
  | [x] => isId x
  | x :: y :: r => isId x && decide (x < y) && rising (y :: r)
def areVoters (l : List Int) : Bool := rising l && (decide (1 ≤ l.length) && decide (l.length ≤ 7))
def beN (l : List UInt8) : Nat := l.foldl (fun n x => n * 256 + x.toNat) 0
/-- numbers of eight bytes -/
def ints8 : Nat → List UInt8 → List Int
  | 0, _ => []
  | k + 1, b => (if beN (b.take 8) < 2 ^ 63 then (beN (b.take 8) : Int) else (beN (b.take 8) : Int) - 2 ^ 64) :: ints8 k (b.drop 8)
def readV (b : List UInt8) : List Int × Bool :=
  match b with
  | [] => ([], false)
  | x :: r => if r.length = 8 * x.toNat then (ints8 x.toNat r, areVoters (ints8 x.toNat r)) else ([], false)
def be8 (v : Int) : List UInt8 := (List.range 8).map fun i => UInt8.ofNat ((v / 2 ^ (8 * (7 - i))) % 256).toNat
def written (l : List Int) : List UInt8 := UInt8.ofNat l.length :: l.flatMap be8
def may (e : En) : Bool := decide (0 ≤ e.kd) && decide (e.kd ≤ 2) && decide (e.d.length ≤ 65536) && (decide (e.kd ≠ 2) || (readV e.d).2)
def row : List En → Int → Int → Int → Bool
  | [], _, _, _ => true
  | e :: r, ix, from_, to => decide (ix < e.ix) && decide (e.ix - 1 = ix) && decide (from_ ≤ e.tm) && decide (e.tm ≤ to) && may e && row r e.ix e.tm to

namespace Nd
def last (n : Nd) : Int := n.me.ix + n.log.length
def term (n : Nd) (i : Int) : Int :=
  if 0 < i - n.me.ix ∧ i - n.me.ix ≤ n.log.length then (n.log.getD (i - n.me.ix - 1).toNat default).tm else if i = n.me.ix ∧ 0 < i then n.me.tm else 0
def chg (n : Nd) (u : Int) : Int := n.log.foldl (fun r e => bif decide (e.kd = 2) && decide (e.ix ≤ u) then e.ix else r) 0
def votersAt (n : Nd) (u : Int) : List Int :=
  if 0 < n.chg u then (readV (n.log.getD (n.chg u - n.me.ix - 1).toNat default).d).1 else if 0 < n.me.ix then n.me.vs else n.first
def voters (n : Nd) : List Int := n.votersAt n.last
def voter (n : Nd) : Bool := n.voters.contains n.id
def others (n : Nd) : List Int := n.voters.filter fun v => decide (v ≠ n.id)
def most (n : Nd) (p : Int → Bool) : Bool := decide (n.voters.length < 2 * (n.voters.filter p).length)
def send (n : Nd) (m : Ms) : Nd := { n with msgs := n.msgs ++ [{ m with fr := n.id, tm := n.hd.tm }] }
def lay (n : Nd) (l : List En) : Nd :=
  match l with
  | [] => n
  | e :: _ => { n with log := n.log.take (e.ix - n.me.ix - 1).toNat ++ l, fresh := if n.fresh = 0 ∨ e.ix < n.fresh then e.ix else n.fresh }
def fromE (n : Nd) (i k : Int) : List En := (n.log.drop (min (max (i - n.me.ix - 1) 0) n.log.length).toNat).take k.toNat
def restart (n : Nd) (m : Me) (d : List UInt8) : Nd :=
  { n with me := m, d := d, log := if m.ix ≤ n.last ∧ n.me.ix < m.ix ∧ n.term m.ix = m.tm then n.log.drop (m.ix - n.me.ix).toNat else [] }
def anew (n : Nd) : Nd := { n with ticks := 0, taken := n.draw }
def follow (n : Nd) : Nd :=
  { n with ticks := if n.role ≠ 0 then 0 else n.ticks, taken := if n.role ≠ 0 then n.draw else n.taken, role := 0, lead := -1, votes := [], peers := none, waits := [], round := 0 }
def peer (n : Nd) (v : Int) : Pe := (((n.peers.getD []).find? fun (p : Int × Pe) => p.1 == v).map (·.2)).getD ⟨0, 0, 0⟩
def setPeer (n : Nd) (v : Int) (p : Pe) : Nd := { n with peers := n.peers.map fun (l : List (Int × Pe)) => l.map fun q => if q.1 = v then (v, p) else q }
def put (n : Nd) (kd : Int) (d : List UInt8) : Nd := n.lay [⟨n.last + 1, n.hd.tm, kd, d⟩]
def one (n : Nd) (v : Int) : Nd :=
  let p := n.peer v
  if 0 < n.me.ix ∧ p.nx ≤ n.me.ix then n.send { kd := 5, to := v, sq := n.round, me := n.me, d := n.d }
  else n.send { kd := 3, to := v, ix := p.nx - 1, lt := n.term (p.nx - 1), es := n.fromE p.nx 8, cm := n.hd.cm, sq := n.round }
def all (n : Nd) : Nd := n.others.foldl (fun n v => n.one v) n
def look1 (n : Nd) (i : Int) : Nd :=
  let n1 := ({ n with hd := { n.hd with cm := i } } : Nd).all
  if n1.chg n1.last ≤ i ∧ n1.voter = false then n1.follow else n1
/-- from an index on down -/
def lookI (n : Nd) : Nat → Int → Nd
  | 0, _ => n
  | k + 1, i => if n.hd.cm < i ∧ n.term i = n.hd.tm then (if n.most fun v => decide (v = n.id) || decide (i ≤ (n.peer v).mt) then n.look1 i else n.lookI k (i - 1)) else n
def look (n : Nd) : Nd := if n.role ≠ 2 then n else n.lookI (n.last - n.hd.cm).toNat n.last
def elected (n : Nd) : Nd :=
  if n.most fun v => n.votes.contains v then
    let n1 := { n with role := 2, lead := n.id, beats := 0, peers := some (n.others.map fun v => (v, (⟨n.last + 1, 0, 0⟩ : Pe))) }
    (n1.put 1 []).all.look
  else n
def stand (n : Nd) : Nd :=
  let n1 := n.follow
  let n2 := ({ n1 with hd := { n1.hd with tm := n1.hd.tm + 1, vote := n1.id }, role := 1, votes := [n1.id] } : Nd).anew
  (n2.others.foldl (fun n v => n.send { kd := 1, to := v, ix := n.last, lt := n.term n.last }) n2).elected
def tick (n : Nd) (draw : Int) : Nd :=
  let n := { n with draw := (draw.tmod 10 + 10).tmod 10 }
  if n.role = 2 then
    (if 3 ≤ n.beats + 1 then ({ n with beats := 0 } : Nd).all else { n with beats := n.beats + 1 })
  else
    let n := { n with ticks := n.ticks + 1 }
    if 10 + n.taken ≤ n.ticks ∧ n.voter then n.stand else n
def confirmI (n : Nd) : Nat → Nd
  | 0 => n
  | k + 1 => match n.waits with
    | [] => n
    | w :: ws => if n.most fun v => decide (v = n.id) || decide (w.rd ≤ (n.peer v).hd) then ({ n with reads := n.reads ++ [(w.ctx, w.ix)], waits := ws } : Nd).confirmI k else n
def confirm (n : Nd) : Nd := n.confirmI n.waits.length
def propose (n : Nd) (d : List UInt8) : (Int × Int × Int) × Nd :=
  if n.role ≠ 2 then ((0, 0, 21), n) else if 65536 < d.length then ((0, 0, 5), n) else if 64 ≤ n.last - n.hd.cm then ((0, 0, 14), n)
  else ((n.last + 1, n.hd.tm, 0), (n.put 0 d).all.look)
def differ (a b : List Int) : Nat := ((a ++ b).filter fun v => !a.contains v || !b.contains v).length
def change (n : Nd) (vs : List Int) : (Int × Int) × Nd :=
  if n.role ≠ 2 then ((0, 21), n) else if areVoters vs = false ∨ differ vs n.voters ≠ 1 then ((0, 1), n)
  else if n.hd.cm < n.chg n.last ∨ n.term n.hd.cm ≠ n.hd.tm then ((0, 22), n)
  else
    let i := n.last + 1
    let n1 := n.put 2 (written vs)
    let n2 := { n1 with peers := some (n1.others.map fun v => (v, match (n.peers.getD []).find? fun (p : Int × Pe) => p.1 == v with | some p => p.2 | none => (⟨i, 0, 0⟩ : Pe))) }
    ((i, 0), n2.all.look)
def read (n : Nd) (ctx : Int) : Int × Nd :=
  if n.role ≠ 2 then (21, n) else if n.term n.hd.cm ≠ n.hd.tm then (23, n) else if 64 ≤ n.waits.length then (4, n)
  else (0, ({ n with round := n.round + 1, waits := n.waits ++ [⟨ctx, n.hd.cm, n.round + 1⟩] } : Nd).all.confirm)
def compact (n : Nd) (ix : Int) (d : List UInt8) : Int × Nd :=
  if ix ≤ n.me.ix ∨ n.applied < ix then (1, n) else if 8388608 < d.length then (5, n) else (0, n.restart ⟨ix, n.term ix, n.votersAt ix⟩ d)
structure Rd where
  hard : Option Ha
  snap : Option (Me × List UInt8)
  es : List En
  ms : List Ms
  cs : List En
  rs : List (Int × Int)
def ready (n : Nd) : Rd × Nd :=
  (⟨if n.hd ≠ n.told then some n.hd else none, if n.snap then some (n.me, n.d) else none, if n.fresh = 0 then [] else n.fromE n.fresh n.log.length, n.msgs, n.fromE (n.applied + 1) (n.hd.cm - n.applied), n.reads⟩,
   { n with fresh := 0, told := n.hd, applied := n.hd.cm, msgs := [], reads := [], snap := false })
def fine (n : Nd) (m : Ms) : Bool :=
  !(decide (m.to ≠ n.id) || decide (m.kd < 1) || decide (5 < m.kd) || decide (m.fr = n.id) || !isId m.fr || decide (m.tm < 0) || decide (2 ^ 62 < m.tm)) &&
  !(decide (m.kd = 5) && (decide (m.me.ix < 1) || decide (999999999999 < m.me.ix) || !areVoters m.me.vs || decide (m.me.tm < 0) || decide (m.tm < m.me.tm) || decide (8388608 < m.d.length))) && Rf.row m.es m.ix m.lt m.tm
def old (n : Nd) (m : Ms) : Nd :=
  if m.kd = 1 then n.send { kd := 2, to := m.fr } else if m.kd = 3 ∨ m.kd = 5 then n.send { kd := 4, to := m.fr, mt := n.last, sq := m.sq } else n
def grants (n : Nd) (m : Ms) : Bool := (decide (n.hd.vote = -1) || decide (n.hd.vote = m.fr)) && (decide (n.term n.last < m.lt) || decide (m.lt = n.term n.last) && decide (n.last ≤ m.ix))
def vote (n : Nd) (m : Ms) : Nd :=
  let n1 := if n.grants m then (let n2 := { n with hd := { n.hd with vote := m.fr } }; if n.role ≠ 2 then n2.anew else n2) else n
  n1.send { kd := 2, to := m.fr, ok := n.grants m }
def heard (n : Nd) (m : Ms) : Nd :=
  let p := n.peer m.fr
  let p := { p with hd := max p.hd m.sq }
  let p := if m.ok then { p with mt := max p.mt (min m.mt n.last) } else if m.mt < p.nx - 1 then { p with nx := m.mt + 1 } else p
  let p := { p with nx := max p.nx (p.mt + 1) }
  let n1 := (n.setPeer m.fr p).look
  let n2 := if n1.role = 2 then n1.confirm else n1
  if n2.role = 2 ∧ p.mt < n2.last then n2.one m.fr else n2
def take (n : Nd) (m : Ms) : Int × Nd :=
  if m.me.ix ≤ n.hd.cm then (n.hd.cm, n) else (m.me.ix, let n1 := n.restart m.me m.d; { n1 with hd := { n1.hd with cm := m.me.ix }, applied := m.me.ix, snap := true })
/-- the first entry that the log lacks -/
def lacks (n : Nd) : List En → List En
  | [] => []
  | e :: r => if n.last < e.ix ∨ n.term e.ix ≠ e.tm then e :: r else n.lacks r
def append (n : Nd) (m : Ms) : (Bool × Int) × Nd :=
  if m.ix < n.hd.cm then ((true, n.hd.cm), n) else if n.last < m.ix ∨ n.term m.ix ≠ m.lt then ((false, min n.last (m.ix - 1)), n)
  else
    let n1 := n.lay (n.lacks m.es)
    ((true, m.ix + m.es.length), { n1 with hd := { n1.hd with cm := max n1.hd.cm (min m.cm (m.ix + m.es.length)) } })
def led (n : Nd) (m : Ms) : Nd :=
  if n.role = 2 then n
  else
    let n1 := ({ n.follow with lead := m.fr } : Nd).anew
    if m.kd = 5 then (n1.take m).2.send { kd := 4, to := m.fr, sq := m.sq, ok := true, mt := (n1.take m).1 }
    else (n1.append m).2.send { kd := 4, to := m.fr, sq := m.sq, ok := (n1.append m).1.1, mt := (n1.append m).1.2 }
def step (n : Nd) (m : Ms) : Nd :=
  if n.fine m = false then n
  else
    let n := if n.hd.tm < m.tm then ({ n with hd := { n.hd with tm := m.tm, vote := -1 } } : Nd).follow else n
    if m.tm < n.hd.tm then n.old m
    else if m.kd = 1 then n.vote m
    else if m.kd = 2 then (if n.role = 1 ∧ m.ok ∧ n.votes.contains m.fr = false ∧ n.voters.contains m.fr then ({ n with votes := n.votes ++ [m.fr] } : Nd).elected else n)
    else if m.kd = 4 then (if ((n.peers.getD []).find? fun (p : Int × Pe) => p.1 == m.fr).isSome ∧ n.role = 2 then n.heard m else n)
    else n.led m
end Nd
def fits (id : Int) (vs : List Int) (h : Ha) (m : Me) (log : List En) : Bool :=
  isId id && areVoters vs && (decide (0 ≤ h.tm) && decide (h.tm ≤ 2 ^ 62)) && decide (-1 ≤ h.vote) && decide (0 ≤ h.cm) && (decide (0 ≤ m.ix) && decide (m.ix ≤ 2 ^ 62)) && (decide (0 ≤ m.tm) && decide (m.tm ≤ 2 ^ 62)) &&
  (decide (m.ix = 0) || areVoters m.vs) && row log m.ix m.tm (2 ^ 62)
def Nd.new (id : Int) (vs : List Int) (h : Ha) (m : Me) (d : List UInt8) (log : List En) : Nd :=
  let n : Nd := { me := m, d := d, log := log, first := vs, fresh := 0, ticks := 0, taken := 0, draw := 0, beats := 0, id := id, hd := h, told := h, applied := m.ix, role := 0, lead := -1, votes := [], peers := none, round := 0, waits := [], reads := [], msgs := [], snap := false }
  let t := max (max h.tm m.tm) (n.term n.last)
  { n with hd := ⟨if h.tm < t then t else h.tm, if h.tm < t then -1 else h.vote, min (max h.cm m.ix) n.last⟩ }

/-- what a node has saved -/
structure Sv where
  h : Ha
  m : Me
  d : List UInt8
  l : List En
  deriving Inhabited
structure Gr where
  R : List Nd
  S : List Sv
  net : List Ms
  done : List (List En)
  all : List En
  lead : List Int
  N : Nat
namespace Gr
def voters (g : Gr) : List Int := (List.range g.N).map fun (i : Nat) => (i : Int)
def back (g : Gr) (i : Nat) : Gr :=
  let s := g.S.getD i default
  { g with R := g.R.set i (Nd.new i g.voters s.h s.m s.d s.l), done := g.done.set i (if 0 < s.m.ix then g.all.take s.m.ix.toNat else []) }
def new (k : Nat) : Gr :=
  let vs : List Int := (List.range k).map fun (i : Nat) => (i : Int)
  ⟨(List.range k).map fun (i : Nat) => Nd.new i vs ⟨0, -1, 0⟩ ⟨0, 0, []⟩ [] [], (List.range k).map fun _ => ⟨⟨0, -1, 0⟩, ⟨0, 0, []⟩, [], []⟩, [], (List.range k).map fun _ => [], [], [], k⟩
/-- what a node tells of entries is laid down -/
def saveE : Sv → List En → Option Sv
  | s, [] => some s
  | s, e :: r => if e.ix - s.m.ix - 1 < 0 ∨ s.l.length < e.ix - s.m.ix - 1 then none else saveE { s with l := s.l.take (e.ix - s.m.ix - 1).toNat ++ [e] } r
def doE : List En × List En → List En → Option (List En × List En)
  | s, [] => some s
  | (dn, al), e :: r =>
    if e.ix ≠ dn.length + 1 then none
    else
      let al := if (al.length : Int) < e.ix then al ++ [e] else al
      let a := al.getD (e.ix - 1).toNat default
      if a.tm ≠ e.tm ∨ a.kd ≠ e.kd ∨ a.d ≠ e.d then none else doE (dn ++ [e], al) r
def stay (l : List En) (m : Me) : List En := match l.findIdx? fun e => decide (e.ix = m.ix) && decide (e.tm = m.tm) with | some j => l.drop (j + 1) | none => []
def settle1 (g : Gr) (i : Nat) : Option Gr :=
  let (o, n) := (g.R.getD i default).ready
  let s := g.S.getD i default
  match (match o.snap with
    | some (m, d) => if (g.all.length : Int) < m.ix then none else some (({ s with m := m, d := d, l := stay s.l m } : Sv), g.all.take m.ix.toNat)
    | none => some (s, g.done.getD i [])) with
  | none => none
  | some (s, dn) =>
    match saveE s o.es with
    | none => none
    | some s =>
      match (match o.hard with
        | some h => if h.tm < s.h.tm ∨ (h.tm = s.h.tm ∧ 0 ≤ s.h.vote ∧ h.vote ≠ s.h.vote) ∨ h.cm < s.h.cm then none else some { s with h := h }
        | none => some s) with
      | none => none
      | some s =>
        match doE (dn, g.all) o.cs with
        | none => none
        | some (dn, al) => some { g with R := g.R.set i n, S := g.S.set i s, net := g.net ++ o.ms, done := g.done.set i dn, all := al }
def settle (g : Gr) (i : Nat) : Option Gr :=
  match ((g.settle1 i).bind fun g => g.settle1 i).bind fun g => g.settle1 i with
  | none => none
  | some g =>
    let n := g.R.getD i default
    if n.role = 2 then
      let t := n.hd.tm.toNat
      let ld := g.lead ++ List.replicate (min t 4999 + 1 - g.lead.length) (-1)
      if t < 5000 then (if 0 ≤ ld.getD t 0 ∧ ld.getD t 0 ≠ (i : Int) then none else some { g with lead := ld.set t i })
      else some { g with lead := ld }
    else some g
def tickI (g : Gr) (i : Nat) (draw : Int) : Gr := { g with R := g.R.set i ((g.R.getD i default).tick draw) }
def stepI (g : Gr) (i : Nat) (m : Ms) : Gr := { g with R := g.R.set i ((g.R.getD i default).step m) }
def quietT : List Nat → Gr → Option Gr
  | [], g => some g
  | i :: r, g => ((g.tickI i ((i * 7 % 10 : Nat) : Int)).settle i).bind (quietT r)
def quietM : List Ms → Gr → Option Gr
  | [], g => some g
  | m :: r, g => if m.to < 0 ∨ (g.N : Int) ≤ m.to then quietM r g else ((g.stepI m.to.toNat m).settle m.to.toNat).bind (quietM r)
def quiet (g : Gr) : Option Gr := (quietT (List.range g.N) g).bind fun g => quietM g.net { g with net := [] }
def quiets : Nat → Gr → Option Gr
  | 0, g => some g
  | k + 1, g => g.quiet.bind (quiets k)
end Gr
end Go.SX.Rf

/- Raft: a node, plainly; one of the others out of the bag and back. -/
namespace Go.SX
open Go.Proofs
set_option maxRecDepth 1000000
variable {E : Env}

def Ent.pl (e : Ent) : Rf.En := ⟨e.ix, e.tm, e.kd, e.d.xs⟩
def MsL.pl (m : MsL) : Rf.Ms := { kd := m.kd, fr := m.fr, to := m.to, tm := m.tm, ix := m.ix, lt := m.lt, es := m.es.xs.map Ent.pl, cm := m.cm, sq := m.sq, ok := m.ok, mt := m.mt, me := ⟨m.mi, m.mm, m.mv.xs⟩, d := m.d.xs }
def PeL.pl (p : PeL) : Rf.Pe := ⟨p.nx, p.mt, p.hd⟩
/-- the node in plain words -/
def NL.nd (n : NL) : Rf.Nd := { me := ⟨n.s.mIx, n.s.mTm, n.o.mv⟩, d := n.dt.xs, log := n.s.es.map Ent.pl, first := n.o.fv, fresh := n.s.fresh, ticks := n.s.ticks, taken := n.s.taken, draw := n.s.draw, beats := n.s.beats, id := n.s.id, hd := ⟨n.s.hT, n.s.hV, n.s.hC⟩, told := ⟨n.s.tT, n.s.tV, n.s.tC⟩, applied := n.s.applied, role := n.s.role, lead := n.s.leader, votes := n.votes, peers := n.pm.map fun _ => n.peers.map fun p => (p.id, p.pl), round := n.s.round, waits := n.waits.map fun w => ⟨w.1, w.2.1, w.2.2⟩, reads := n.reads, msgs := n.msgs.map MsL.pl, snap := n.s.snap }
theorem nd_anew (n : NL) : n.anew.nd = n.nd.anew := rfl
theorem nd_followed (n : NL) : n.followed.nd = n.nd.follow := rfl
theorem nd_last (n : NL) : n.nd.last = n.rs.last := by
  simp [NL.nd, Rf.Nd.last, RS.last, NL.rs]
theorem nd_term (n : NL) (i : Int) : n.nd.term i = n.rs.term i := by
  show (if 0 < i - n.s.mIx ∧ i - n.s.mIx ≤ ((n.s.es.map Ent.pl).length : Int) then ((n.s.es.map Ent.pl).getD (i - n.s.mIx - 1).toNat default).tm else if i = n.s.mIx ∧ 0 < i then n.s.mTm else 0) = (if 0 < i - n.s.mIx ∧ i - n.s.mIx ≤ n.s.es.length then (n.s.es.getD (i - n.s.mIx - 1).toNat default).tm else if i = n.s.mIx ∧ 0 < i then n.s.mTm else 0)
  rw [List.length_map]
  by_cases h : 0 < i - n.s.mIx ∧ i - n.s.mIx ≤ n.s.es.length
  · rw [if_pos h, if_pos h]
    have hlt : (i - n.s.mIx - 1).toNat < n.s.es.length := by omega
    rw [List.getD_eq_getElem?_getD, List.getD_eq_getElem?_getD, List.getElem?_map, List.getElem?_eq_getElem hlt]
    rfl
  · rw [if_neg h, if_neg h]

def fndP : List PeL → Int → Option Nat
  | [], _ => none
  | p :: r, x => if p.id = x then some 0 else (fndP r x).map (· + 1)
theorem look_pm : ∀ (L : List PeL) (x : Int), lookE (L.map fun p => (p.id, SV.ptr 0 p.b 0)) x = (fndP L x).map fun i => .ptr 0 (L.getD i default).b 0
  | [], _ => rfl
  | p :: r, x => by
    simp only [List.map_cons, lookE, fndP]
    rw [look_pm r x]
    split
    · rfl
    · cases fndP r x <;> rfl
theorem fndP_some : ∀ {L : List PeL} {x : Int} {i : Nat}, fndP L x = some i → ∃ p, L[i]? = some p ∧ p.id = x
  | [], _, _, h => by cases h
  | p :: r, x, i, h => by
    unfold fndP at h
    split at h
    · rename_i hp
      injection h with h
      subst h
      exact ⟨p, rfl, hp⟩
    · cases hr : fndP r x with
      | none => rw [hr] at h; cases h
      | some k =>
        rw [hr] at h
        injection h with h
        subst h
        obtain ⟨q, h1, h2⟩ := fndP_some hr
        exact ⟨q, by simpa using h1, h2⟩
theorem getC_mapP {L : List PeL} {i : Nat} {p : PeL} (h : L[i]? = some p) : getC (L.map peC) i = peC p := by
  induction L generalizing i with
  | nil => simp at h
  | cons q r ih =>
    cases i with
    | zero => simp at h; subst h; rfl
    | succ i => exact ih (by simpa using h)
theorem setC_mapP {L : List PeL} {i : Nat} {p : PeL} (hi : i < L.length) : setC (setC (L.map peC) i .emp) i (peC p) = (L.set i p).map peC := by
  induction L generalizing i with
  | nil => simp at hi
  | cons x L ih =>
    cases i with
    | zero => rfl
    | succ i =>
      show peC x :: setC (setC (L.map peC) i .emp) i (peC p) = peC x :: (L.set i p).map peC
      rw [ih (by simpa using hi)]
theorem getC_setC : ∀ {cs : List Chunk} {i : Nat} {d : Chunk}, i < cs.length → getC (setC cs i d) i = d
  | [], _, _, h => by simp at h
  | _ :: _, 0, _, _ => rfl
  | _ :: cs, i + 1, d, h => getC_setC (cs := cs) (by simpa using h)
/-- one of the others out of the bag -/
theorem Sees.peer {hp : List Chunk} {c i : Nat} {L : List PeL} {p : PeL} (hc : getC hp c = sepC (L.map peC)) (hi : L[i]? = some p) : Sees hp (setC hp c (sepC (setC (L.map peC) i .emp)) ++ [peC p]) := by
  have hlt := (List.getElem?_eq_some_iff.1 hi).1
  refine Sees.trans (Sees.take c i hc (by simpa using hlt)) ?_
  rw [getC_mapP hi]
  exact Sees.refl _
/-- and laid back, another -/
theorem Sees.peerBack {hp : List Chunk} {c i : Nat} {L : List PeL} {p p' : PeL} (hc : getC hp c = sepC (setC (L.map peC) i .emp)) (hi : L[i]? = some p) : Sees (hp ++ [peC p']) (setC hp c (sepC ((L.set i p').map peC))) := by
  have hlt := (List.getElem?_eq_some_iff.1 hi).1
  refine Sees.trans (Sees.give (d := peC p') c i hc (by rw [setC_len]; simpa using hlt) (getC_setC (by simpa using hlt))) ?_
  rw [setC_mapP hlt]
  exact Sees.refl _
end Go.SX

/- Raft: what one of the others lacks is sent. -/
namespace Go.SX
open Go.Proofs
set_option maxRecDepth 1000000
variable {E : Env}

def NL.sent (n : NL) (w : Rw) (l : List MsL) : NL := { n with wm := w, msgs := n.msgs ++ l }
/-- what 'one' and the like need of a node -/
structure NL.small (n : NL) : Prop where
  sm : n.rs.small
  fd : ∀ e ∈ n.s.es, e.d.xs.length ≤ 2 ^ 40
  dl : n.dt.xs.length ≤ 2 ^ 40
  ml : n.o.mv.length ≤ 7
  ms : n.msgs.length ≤ 2 ^ 30
theorem find_pl : ∀ (L : List PeL) (v : Int), (L.map fun p => (p.id, p.pl)).find? (fun q => q.1 == v) = (fndP L v).map fun i => ((L.getD i default).id, (L.getD i default).pl)
  | [], _ => rfl
  | p :: r, v => by
    have ih := find_pl r v
    simp only [List.map_cons, List.find?_cons, fndP]
    by_cases h : p.id = v
    · rw [if_pos h]
      simp [h]
    · rw [if_neg h]
      have : (p.id == v) = false := by simpa using h
      rw [this, ih]
      cases fndP r v <;> rfl
theorem peer_nd {n : NL} {v : Int} {M i : Nat} {p : PeL} (hpm : n.pm = some M) (hf : fndP n.peers v = some i) (hi : n.peers[i]? = some p) : n.nd.peer v = p.pl := by
  have hpd : n.peers.getD i default = p := by rw [List.getD_eq_getElem?_getD, hi]; rfl
  have e : n.nd.peers = some (n.peers.map fun p => (p.id, p.pl)) := by simp only [NL.nd, hpm]; rfl
  unfold Rf.Nd.peer
  rw [e, Option.getD_some, find_pl, hf]
  simp only [Option.map_some, hpd, Option.getD_some]
theorem set_sameP {L : List PeL} {i : Nat} {p : PeL} (h : L[i]? = some p) : L.set i p = L := by
  obtain ⟨h1, h2⟩ := List.getElem?_eq_some_iff.1 h
  rw [← h2]
  exact List.set_getElem_self h1
theorem Same.pl {es es' : List Ent} (h : Same es es') : es'.map Ent.pl = es.map Ent.pl := by
  have := congrArg (List.map fun c : Int × Int × Int × List UInt8 => (⟨c.1, c.2.1, c.2.2.1, c.2.2.2⟩ : Rf.En)) h
  simp only [List.map_map] at this
  exact this
set_option maxHeartbeats 2000000 in
theorem c69n (b : Nat) (n : NL) (v : Int) (M i : Nat) (p : PeL) (hn : n.small) (hpm : n.pm = some M) (hf : fndP n.peers v = some i) (hi : n.peers[i]? = some p) (hp0 : 1 ≤ p.nx) (hp1 : p.nx ≤ 2 ^ 60) :
    Spec Try.prog E 69 [.ptr 0 b 0, I v] (nO b n) (fun _ hp => ∃ (w : Rw) (m : MsL), (n.sent w [m]).nd = n.nd.one v ∧ hp = nO b (n.sent w [m])) := by
  refine Spec.see2 ?_
  generalize hP : SeeP _ = P
  obtain ⟨hs, hfd, hdl, hml, hms⟩ := hn
  have hi64 : inI64 (p.nx - 1) := by simp only [inI64]; omega
  have hone : n.nd.one v = if 0 < n.nd.me.ix ∧ p.pl.nx ≤ n.nd.me.ix then n.nd.send { kd := 5, to := v, sq := n.nd.round, me := n.nd.me, d := n.nd.d } else n.nd.send { kd := 3, to := v, ix := p.pl.nx - 1, lt := n.nd.term (p.pl.nx - 1), es := n.nd.fromE p.pl.nx 8, cm := n.nd.hd.cm, sq := n.nd.round } := by
    unfold Rf.Nd.one
    rw [peer_nd hpm hf hi]
  have hps : n.peers.set i p = n.peers := set_sameP hi
  have fin : ∀ (r : SV) (w' : Rw) (m' : MsL), ({ n with wm := w', msgs := n.msgs ++ [m'] } : NL).nd = n.nd.one v → P r ([rC b { n.rs with msgs := w'.sv 1 (n.msgs.length + 1) }, n.wv.ch 3 1 encI n.votes, n.ww.ch 100 3 encW n.waits, n.wr.ch 48 2 encQ n.reads, w'.ch 54 15 encM (n.msgs ++ [m']), mpC kvI M (n.peers.map fun p => (p.id, .ptr 0 p.b 0)), sepC (setC (n.peers.map peC) i .emp)] ++ [peC p]) := by
    intro r w' m' he
    rw [← hP]
    refine ⟨r, _, rfl, fun _ h => h, Sees.trans (Sees.peerBack (c := 6) (L := n.peers) (p := p) (p' := p) rfl hi) ?_, w', m', he, rfl⟩
    rw [hps]
    simp only [nO, NL.rs, NL.sent, hpm, pmC, List.length_append, List.length_singleton]
    exact Sees.cons (fun ro H h => ⟨H, [], by simp, h⟩) (Sees.refl _)
  refine spec_of (keep := k69) (args' := [.ptr 0 b 0, I v]) Try.func69 rfl Try.ntmps69 s69_ok (by simp) ⟨rfl, fun _ h => h⟩ (fun _ _ h => h) (go_ok _ 100 _ _ ?_)
  have hrp : n.rs.peers = .val (.map (some M)) := by simp only [NL.rs, hpm]
  simp only [go_sem, s69, k69, hrp, hpm, pmC, Nat.reduceBEq, Nat.reduceAdd, Nat.zero_add, Try.results69]
  refine safe_oth (oth_lookup1 (K := kvI) (x := v) (b := M) (es := n.peers.map fun p => (p.id, .ptr 0 p.b 0)) (z := .pointer none) (mo := .t 8) (ko := .t 9) 5 rfl rfl Try.underlying92 (by kernel_rfl) rfl rfl rfl (by kernel_rfl)) trivial ?_
  rw [look_pm, hf]
  have hpd : n.peers.getD i default = p := by rw [List.getD_eq_getElem?_getD, hi]; rfl
  refine go_ok _ 2 _ _ ?_
  simp only [go_sem, Option.map_some, Option.getD_some, hpd, Nat.reduceBEq]
  refine safe_env (env' := [(0, .ptr 0 b 0), (1, I v), (4, .ptr 7 p.b 0)]) ⟨seen _ _ _ rfl, seen _ _ _ rfl, seenP _ _ _ _ _ _ rfl rfl, trivial⟩ ?_
  refine safe_sees (Sees.peer (c := 6) (i := i) (L := n.peers) (p := p) rfl hi) ?_
  refine go_ok _ 100 _ _ ?_
  simp only [go_sem, peC, List.cons_append, List.nil_append, Nat.reduceBEq, Nat.reduceAdd, Nat.zero_add, Try.results69]
  refine ⟨fun h => by rw [h]; rfl, fun h => ?_, fun h => ⟨by simp only [inI64]; omega, by simp only [inI64]; omega, ?_⟩⟩
  · have h1 : 0 < n.rs.mIx ∧ p.nx ≤ n.rs.mIx := by simpa using h
    refine (stp_call [] (args := [.agg [I n.s.mIx, I n.s.mTm, vI n.o.ma n.o.mc n.o.mv]]) rfl rfl rfl ⟨_, Try.func35, rfl, rfl⟩ (c35 _ _ _ _ n.o.mv (by omega)) rfl (fun _ h => h) rfl (fun _ _ h => h) ?_).safe trivial
    rintro w hp ⟨rfl, a1, k1, rfl⟩
    refine ⟨by simp only [recheck, recheck1, go_sem, Nat.reduceBEq, Nat.reduceAdd, Nat.zero_add], ?_⟩
    refine (stp_call [] (args := [vB n.dt.a n.dt.cap n.dt.xs]) rfl rfl rfl ⟨_, Try.func36, rfl, rfl⟩ (c36 _ _ n.dt.xs (by omega)) rfl (fun _ h => h) rfl (fun _ _ h => h) ?_).safe trivial
    rintro w hp ⟨rfl, a2, k2, rfl⟩
    refine ⟨by simp only [recheck, recheck1, go_sem, Nat.reduceBEq, Nat.reduceAdd, Nat.zero_add], go_ok _ 100 _ _ ?_⟩
    simp only [go_sem, Nat.reduceBEq, Nat.reduceAdd, Nat.zero_add, Try.results69, reduceCtorEq]
    refine (stp_call [0, 4] (args := [.ptr 0 b 0, .agg (encM ({ kd := 5, fr := 0, to := v, tm := 0, ix := 0, lt := 0, es := ⟨none, 0, []⟩, cm := 0, sq := n.s.round, ok := false, mt := 0, mi := n.s.mIx, mm := n.s.mTm, mv := ⟨a1, k1, n.o.mv⟩, d := ⟨a2, k2, n.dt.xs⟩ } : MsL))]) rfl rfl rfl ⟨_, Try.func71, rfl, rfl⟩ (c71 b { n.rs with msgs := n.wm.sv 1 n.msgs.length } n.wm n.msgs ({ kd := 5, fr := 0, to := v, tm := 0, ix := 0, lt := 0, es := ⟨none, 0, []⟩, cm := 0, sq := n.s.round, ok := false, mt := 0, mi := n.s.mIx, mm := n.s.mTm, mv := ⟨a1, k1, n.o.mv⟩, d := ⟨a2, k2, n.dt.xs⟩ } : MsL) rfl hms) rfl (fun ro h => ?_) rfl (fun _ _ h => h) ?_).safe trivial
    · simp only [List.nil_append, List.append_nil, SV.oks, SV.ok, encM, true_and, and_true] at h ⊢
      exact ⟨⟨Nat.le_refl _, fun i j hi => absurd hi (by simp)⟩, h.2⟩
    rintro w hp ⟨w', rfl⟩
    refine ⟨trivial, go_ok _ 100 _ _ ?_⟩
    simp only [go_sem, Nat.reduceBEq, Nat.reduceAdd, Nat.zero_add, Try.results69, reduceCtorEq]
    refine fin _ w' _ ?_
    rw [hone]
    refine Eq.trans ?_ (if_pos (show 0 < n.nd.me.ix ∧ p.pl.nx ≤ n.nd.me.ix from h1)).symm
    simp only [NL.nd, Rf.Nd.send, List.map_append, List.map_cons, List.map_nil]
    rfl
  · refine (stp_call [0] (args := [.ptr 0 b 0, I (p.nx - 1)]) rfl rfl rfl ⟨_, Try.func39, rfl, rfl⟩ (c39 b n.rs (p.nx - 1) hs (by omega) (by omega)) rfl (fun _ h => h) rfl (fun _ _ h => h) ?_).safe trivial
    rintro w hp ⟨rfl, rfl⟩
    refine ⟨by
      simp only [recheck, recheck1, go_sem, Nat.reduceBEq, Nat.reduceAdd, Nat.zero_add]
      exact hi64, ?_⟩
    refine (stp_call [0] (args := [.ptr 0 b 0, I p.nx, I 8]) rfl rfl rfl ⟨_, Try.func45, rfl, rfl⟩ (c45 b n.rs p.nx 8 hs hfd (by omega) (by omega) (by omega)) rfl (fun _ h => h) rfl (fun _ _ h => h) ?_).safe trivial
    rintro w hp ⟨rfl, a1, k1, es', rfl, hsame⟩
    refine ⟨by
      simp only [recheck, recheck1, go_sem, Nat.reduceBEq, Nat.reduceAdd, Nat.zero_add]
      exact hi64, go_ok _ 100 _ _ ?_⟩
    simp only [go_sem, Nat.reduceBEq, Nat.reduceAdd, Nat.zero_add, Try.results69, reduceCtorEq]
    refine (stp_call [0, 4] (args := [.ptr 0 b 0, .agg (encM ({ kd := 3, fr := 0, to := v, tm := 0, ix := p.nx - 1, lt := n.rs.term (p.nx - 1), es := ⟨a1, k1, es'⟩, cm := n.s.hC, sq := n.s.round, ok := false, mt := 0, mi := 0, mm := 0, mv := ⟨none, 0, []⟩, d := ⟨none, 0, []⟩ } : MsL))]) rfl rfl rfl ⟨_, Try.func71, rfl, rfl⟩ (c71 b { n.rs with msgs := n.wm.sv 1 n.msgs.length } n.wm n.msgs ({ kd := 3, fr := 0, to := v, tm := 0, ix := p.nx - 1, lt := n.rs.term (p.nx - 1), es := ⟨a1, k1, es'⟩, cm := n.s.hC, sq := n.s.round, ok := false, mt := 0, mi := 0, mm := 0, mv := ⟨none, 0, []⟩, d := ⟨none, 0, []⟩ } : MsL) rfl hms) rfl (fun ro h => ?_) rfl (fun _ _ h => h) ?_).safe trivial
    · simp only [List.nil_append, List.append_nil, SV.oks, SV.ok, encM, true_and, and_true] at h ⊢
      exact ⟨h.1, ⟨Nat.le_refl _, fun i j hi => absurd hi (by simp)⟩, ⟨Nat.le_refl _, fun i j hi => absurd hi (by simp)⟩⟩
    rintro w hp ⟨w', rfl⟩
    refine ⟨trivial, go_ok _ 100 _ _ ?_⟩
    simp only [go_sem, Nat.reduceBEq, Nat.reduceAdd, Nat.zero_add, Try.results69, reduceCtorEq]
    have h1 : ¬ (0 < n.rs.mIx ∧ p.nx ≤ n.rs.mIx) := by simpa using h
    refine fin _ w' _ ?_
    have hes : es'.map Ent.pl = n.nd.fromE p.nx 8 := by
      rw [hsame.pl]
      simp only [Rf.Nd.fromE, NL.nd, List.map_take, List.map_drop, List.length_map]
      rfl
    rw [hone]
    refine Eq.trans ?_ (if_neg (show ¬ (0 < n.nd.me.ix ∧ p.pl.nx ≤ n.nd.me.ix) from h1)).symm
    rw [show n.nd.fromE p.pl.nx 8 = es'.map Ent.pl from hes.symm, nd_term]
    simp only [NL.nd, Rf.Nd.send, List.map_append, List.map_cons, List.map_nil]
    rfl
end Go.SX

/- Raft: to all the others. -/
namespace Go.SX
open Go.Proofs
set_option maxRecDepth 1000000
variable {E : Env}

theorem sent_nil (n : NL) : n.sent n.wm [] = n := by
  cases n
  simp [NL.sent]
theorem sent_sent (n : NL) (w w' : Rw) (l l' : List MsL) : (n.sent w l).sent w' l' = n.sent w' (l ++ l') := by
  simp [NL.sent]
theorem NL.small.sent {n : NL} (h : n.small) {w : Rw} {l : List MsL} (hl : (n.msgs ++ l).length ≤ 2 ^ 30) : (n.sent w l).small := ⟨⟨h.sm.m0, h.sm.m1, h.sm.len⟩, h.fd, h.dl, h.ml, hl⟩
/-- a leader knows of the others -/
def NL.knows (n : NL) (vs : List Int) : Prop := ∃ M, n.pm = some M ∧ ∀ v ∈ vs, ∃ i p, fndP n.peers v = some i ∧ n.peers[i]? = some p ∧ 1 ≤ p.nx ∧ p.nx ≤ 2 ^ 60
structure W41 (n : NL) (vs : List Int) where
  k : Nat
  w : Rw
  l : List MsL
  hk : k ≤ vs.length
  hl : l.length = k
  nd : (n.sent w l).nd = (vs.take k).foldl (fun n v => n.one v) n.nd
theorem c41n (b : Nat) (n : NL) (hn : n.small) (hg : n.rs.good n.o) (hms : n.msgs.length ≤ 2 ^ 29) (hkn : n.knows (n.rs.others n.o)) :
    Spec Try.prog E 41 [.ptr 0 b 0] (nO b n) (fun _ hp => ∃ (w : Rw) (l : List MsL), l.length = (n.rs.others n.o).length ∧ (n.sent w l).nd = (n.rs.others n.o).foldl (fun n v => n.one v) n.nd ∧ hp = nO b (n.sent w l)) := by
  refine Spec.see2 ?_
  generalize hP : SeeP _ = P
  obtain ⟨M, hpm, hkn⟩ := hkn
  refine spec_of (keep := k41) (args' := [.ptr 0 b 0]) Try.func41 rfl Try.ntmps41 s41_ok (by simp) ⟨rfl, fun _ h => h⟩ (fun _ _ h => h) (go_ok _ 100 _ _ ?_)
  simp only [go_sem, s41, k41, Nat.reduceBEq, Nat.reduceAdd, Nat.zero_add, Try.results41]
  refine (stp_call [0] rfl rfl rfl ⟨_, Try.func63, rfl, rfl⟩ (c63 7 b n.rs n.o hg) rfl (fun _ h => h) rfl (fun _ _ h => h) ?_).safe trivial
  rintro v hp ⟨nl, b', off, cap', rfl, rfl⟩
  have hvl := hg.vlen n.rs.last
  have hol : (n.rs.others n.o).length ≤ 7 := Nat.le_trans (List.length_filter_le _ _) hvl.2
  generalize n.rs.others n.o = vs at *
  refine ⟨trivial, go_ok _ 100 _ _ ?_⟩
  simp only [go_sem, List.cons_append, List.nil_append, Nat.reduceBEq, Nat.reduceAdd, Nat.zero_add, Try.results41]
  refine safe_loop (ι := W41 n vs) (fun g => ⟨[(0, .ptr 0 b 0), (5, .osl 7 nl b' off vs.length cap'), (6, I vs.length), (7, I g.k)], nO b (n.sent g.w g.l) ++ [.row nl b' 3 off 1 vs.length cap' (rowsV encI vs)]⟩) (fun g => vs.length - g.k)
    ⟨0, n.wm, [], Nat.zero_le _, rfl, by rw [sent_nil]; rfl⟩ (Sub.front (X := []) ⟨rfl, rfl, rfl, rfl, trivial⟩ (by simp only [sent_nil]; rfl)) ?_
  rintro ⟨k, w, l, hk, hl, hnd⟩
  refine go_ok _ 100 _ _ ?_
  simp only [go_sem, List.cons_append, List.nil_append, Nat.reduceBEq, Nat.reduceAdd, Nat.zero_add, Int.toNat_natCast, Try.results41]
  refine ⟨fun h => ?_, fun h => ?_⟩
  · have hlt : k < vs.length := by simpa using h
    have hmem : vs.getD k 0 ∈ vs := by rw [List.getD_eq_getElem?_getD, List.getElem?_eq_getElem hlt]; exact List.getElem_mem hlt
    obtain ⟨i, p, hf, hi, hp0, hp1⟩ := hkn _ hmem
    refine ⟨by omega, by omega, ?_⟩
    refine (stp_call [0, 1, 2, 3, 4, 5, 6] (args := [.ptr 0 b 0, I (vs.getD k 0)]) rfl rfl rfl ⟨_, Try.func69, rfl, rfl⟩ (c69n b (n.sent w l) (vs.getD k 0) M i p (hn.sent (by simp; omega)) hpm hf hi hp0 hp1) rfl (fun _ h => h) rfl (fun _ _ h => h) ?_).safe trivial
    rintro r hp ⟨w', m, hnd', rfl⟩
    rw [sent_sent] at hnd' ⊢
    refine ⟨trivial, go_ok _ 100 _ _ ?_⟩
    simp only [go_sem, List.cons_append, List.nil_append, Nat.reduceBEq, Nat.reduceAdd, Nat.zero_add, Try.results41]
    refine ⟨by simp only [inI64]; omega, ?_⟩
    refine safe_lend ⟨k + 1, w', l ++ [m], hlt, by simp [hl], ?_⟩ (by simp only; omega) (Sub.front (X := []) ⟨rfl, rfl, rfl, rfl, trivial⟩ rfl)
    rw [List.take_add_one, List.getElem?_eq_getElem hlt, List.foldl_append, ← hnd, hnd']
    simp [List.getD_eq_getElem?_getD, hlt]
  · have hkl : k = vs.length := by have := of_decide_eq_false h; omega
    subst hkl
    rw [List.take_length] at hnd
    rw [← hP]
    exact ⟨_, nO b (n.sent w l), rfl, fun _ h => h, Sees.left (a := nO b (n.sent w l)) (X := [_]), w, l, hl, hnd, rfl⟩
end Go.SX

/- Raft: are they most? -/
namespace Go.SX
open Go.Proofs
set_option maxRecDepth 1000000
variable {E : Env}

theorem c73b (b fid : Nat) (n : NL) (cap : List SV) (x y : Chunk) (pd : Int → Bool) (hg : n.rs.good n.o) (hb : ∃ fn, Try.prog.funcs[fid]? = some fn ∧ fn.body.isSome = true ∧ (fn.name == "runtime.NumGoroutine") = false)
    (hc : ∀ v ∈ n.rs.vs n.o, Spec Try.prog E fid (I v :: cap) (nO b n ++ [x, y]) (fun r hp => r = Bl (pd v) ∧ hp = nO b n ++ [x, y])) (hcap : ∀ ro, SV.oks ro cap) :
    Spec Try.prog E 73 [.ptr 0 b 0, .fn (.func fid) [] cap] (nO b n ++ [x, y]) (fun r hp => r = Bl (decide ((n.rs.vs n.o).length < 2 * ((n.rs.vs n.o).filter pd).length)) ∧ hp = nO b n ++ [x, y]) := by
  refine Spec.see2 ?_
  generalize hP : SeeP _ = P
  refine spec_of (keep := k73) (args' := [.ptr 0 b 0, .fn (.func fid) [] cap]) Try.func73 rfl Try.ntmps73 s73_ok (by simp) ⟨rfl, fun _ h => h⟩ (fun _ _ h => h) (go_ok _ 100 _ _ ?_)
  simp only [go_sem, s73, k73, List.cons_append, List.nil_append, Nat.reduceBEq, Nat.reduceAdd, Nat.zero_add, Try.results73]
  refine (stp_call [0] rfl rfl rfl ⟨_, Try.func26, rfl, rfl⟩ (c26 9 b n.rs n.o hg) rfl (fun _ h => h) rfl (fun _ _ h => h) ?_).safe trivial
  rintro v hp ⟨nl, b', off, cap', rfl, rfl⟩
  have hvl : (n.rs.vs n.o).length ≤ 7 := (hg.vlen n.rs.last).2
  generalize n.rs.vs n.o = vs at *
  refine ⟨trivial, go_ok _ 100 _ _ ?_⟩
  simp only [go_sem, List.cons_append, List.nil_append, Nat.reduceBEq, Nat.reduceAdd, Nat.zero_add, Try.results73]
  refine safe_loop (ι := {k : Nat // k ≤ vs.length}) (fun k => ⟨[(1, .fn (.func fid) [] cap), (5, I ((vs.take k.1).filter pd).length), (6, .osl 9 nl b' off vs.length cap'), (11, .osl 9 nl b' off vs.length cap'), (12, I vs.length), (13, I k.1)], nO b n ++ [x, y] ++ [.row nl b' 3 off 1 vs.length cap' (rowsV encI vs)]⟩) (fun k => vs.length - k.1)
    ⟨0, Nat.zero_le _⟩ (Sub.front (X := []) ⟨rfl, rfl, rfl, rfl, rfl, rfl, trivial⟩ rfl) ?_
  rintro ⟨k, hk⟩
  refine go_ok _ 100 _ _ ?_
  simp only [go_sem, List.cons_append, List.nil_append, Nat.reduceBEq, Nat.reduceAdd, Nat.zero_add, Int.toNat_natCast, Try.results73]
  have hfl : ((vs.take k).filter pd).length ≤ 7 := Nat.le_trans (List.length_filter_le _ _) (by simp; omega)
  refine ⟨fun h => ?_, fun h => ?_⟩
  · have hlt : k < vs.length := by simpa using h
    have hmem : vs.getD k 0 ∈ vs := by rw [List.getD_eq_getElem?_getD, List.getElem?_eq_getElem hlt]; exact List.getElem_mem hlt
    have htk : (vs.take (k + 1)).filter pd = (vs.take k).filter pd ++ if pd (vs.getD k 0) then [vs.getD k 0] else [] := by
      rw [List.take_add_one, List.getElem?_eq_getElem hlt, List.filter_append]
      congr 1
      simp only [Option.toList_some, List.getD_eq_getElem?_getD, List.getElem?_eq_getElem hlt, Option.getD_some, List.filter_cons, List.filter_nil]
    refine ⟨by omega, by omega, ?_⟩
    refine (stp_call [0, 1, 2, 3, 4, 5, 6, 7, 8] (args := I (vs.getD k 0) :: cap) rfl rfl rfl hb (hc _ hmem) (by simp [SV.dens]) (fun ro h => ?_) rfl (fun _ _ h => h) ?_).safe trivial
    · simp only [SV.oks, SV.ok, true_and]
      exact hcap ro
    rintro r hp ⟨rfl, rfl⟩
    refine ⟨trivial, go_ok _ 100 _ _ ?_⟩
    simp only [go_sem, List.cons_append, List.nil_append, Nat.reduceBEq, Nat.reduceAdd, Nat.zero_add, Try.results73]
    refine ⟨fun hp => ⟨by simp only [inI64]; omega, by simp only [inI64]; omega, ?_⟩, fun hp => ⟨by simp only [inI64]; omega, ?_⟩⟩
    · exact safe_lend ⟨k + 1, hlt⟩ (by simp only; omega) (Sub.front (X := []) ⟨rfl, by simp only [htk, hp, if_true, List.length_append, List.length_singleton]; rfl, rfl, rfl, rfl, rfl, trivial⟩ rfl)
    · exact safe_lend ⟨k + 1, hlt⟩ (by simp only; omega) (Sub.front (X := []) ⟨rfl, by simp only [htk, hp, Bool.false_eq_true, if_false, List.append_nil]; rfl, rfl, rfl, rfl, rfl, trivial⟩ rfl)
  · have hkl : k = vs.length := by have := of_decide_eq_false h; omega
    subst hkl
    rw [List.take_length] at hfl ⊢
    refine ⟨by simp only [inI64]; omega, ?_⟩
    rw [← hP]
    have e : decide ((vs.length : Int) < 2 * ((vs.filter pd).length : Int)) = decide (vs.length < 2 * (vs.filter pd).length) := by
      apply Bool.eq_iff_iff.2
      simp only [decide_eq_true_eq]
      omega
    rw [e]
    exact ⟨_, nO b n ++ [x, y], rfl, fun _ h => h, Sees.left (a := nO b n ++ [x, y]) (X := [_]), rfl, rfl⟩
theorem c73a (b fid : Nat) (n : NL) (cap : List SV) (x : Chunk) (pd : Int → Bool) (hg : n.rs.good n.o) (hb : ∃ fn, Try.prog.funcs[fid]? = some fn ∧ fn.body.isSome = true ∧ (fn.name == "runtime.NumGoroutine") = false)
    (hc : ∀ v ∈ n.rs.vs n.o, Spec Try.prog E fid (I v :: cap) (nO b n ++ [x]) (fun r hp => r = Bl (pd v) ∧ hp = nO b n ++ [x])) (hcap : ∀ ro, SV.oks ro cap) :
    Spec Try.prog E 73 [.ptr 0 b 0, .fn (.func fid) [] cap] (nO b n ++ [x]) (fun r hp => r = Bl (decide ((n.rs.vs n.o).length < 2 * ((n.rs.vs n.o).filter pd).length)) ∧ hp = nO b n ++ [x]) := by
  refine Spec.see2 ?_
  generalize hP : SeeP _ = P
  refine spec_of (keep := k73) (args' := [.ptr 0 b 0, .fn (.func fid) [] cap]) Try.func73 rfl Try.ntmps73 s73_ok (by simp) ⟨rfl, fun _ h => h⟩ (fun _ _ h => h) (go_ok _ 100 _ _ ?_)
  simp only [go_sem, s73, k73, List.cons_append, List.nil_append, Nat.reduceBEq, Nat.reduceAdd, Nat.zero_add, Try.results73]
  refine (stp_call [0] rfl rfl rfl ⟨_, Try.func26, rfl, rfl⟩ (c26 8 b n.rs n.o hg) rfl (fun _ h => h) rfl (fun _ _ h => h) ?_).safe trivial
  rintro v hp ⟨nl, b', off, cap', rfl, rfl⟩
  have hvl : (n.rs.vs n.o).length ≤ 7 := (hg.vlen n.rs.last).2
  generalize n.rs.vs n.o = vs at *
  refine ⟨trivial, go_ok _ 100 _ _ ?_⟩
  simp only [go_sem, List.cons_append, List.nil_append, Nat.reduceBEq, Nat.reduceAdd, Nat.zero_add, Try.results73]
  refine safe_loop (ι := {k : Nat // k ≤ vs.length}) (fun k => ⟨[(1, .fn (.func fid) [] cap), (5, I ((vs.take k.1).filter pd).length), (6, .osl 8 nl b' off vs.length cap'), (11, .osl 8 nl b' off vs.length cap'), (12, I vs.length), (13, I k.1)], nO b n ++ [x] ++ [.row nl b' 3 off 1 vs.length cap' (rowsV encI vs)]⟩) (fun k => vs.length - k.1)
    ⟨0, Nat.zero_le _⟩ (Sub.front (X := []) ⟨rfl, rfl, rfl, rfl, rfl, rfl, trivial⟩ rfl) ?_
  rintro ⟨k, hk⟩
  refine go_ok _ 100 _ _ ?_
  simp only [go_sem, List.cons_append, List.nil_append, Nat.reduceBEq, Nat.reduceAdd, Nat.zero_add, Int.toNat_natCast, Try.results73]
  have hfl : ((vs.take k).filter pd).length ≤ 7 := Nat.le_trans (List.length_filter_le _ _) (by simp; omega)
  refine ⟨fun h => ?_, fun h => ?_⟩
  · have hlt : k < vs.length := by simpa using h
    have hmem : vs.getD k 0 ∈ vs := by rw [List.getD_eq_getElem?_getD, List.getElem?_eq_getElem hlt]; exact List.getElem_mem hlt
    have htk : (vs.take (k + 1)).filter pd = (vs.take k).filter pd ++ if pd (vs.getD k 0) then [vs.getD k 0] else [] := by
      rw [List.take_add_one, List.getElem?_eq_getElem hlt, List.filter_append]
      congr 1
      simp only [Option.toList_some, List.getD_eq_getElem?_getD, List.getElem?_eq_getElem hlt, Option.getD_some, List.filter_cons, List.filter_nil]
    refine ⟨by omega, by omega, ?_⟩
    refine (stp_call [0, 1, 2, 3, 4, 5, 6, 7] (args := I (vs.getD k 0) :: cap) rfl rfl rfl hb (hc _ hmem) (by simp [SV.dens]) (fun ro h => ?_) rfl (fun _ _ h => h) ?_).safe trivial
    · simp only [SV.oks, SV.ok, true_and]
      exact hcap ro
    rintro r hp ⟨rfl, rfl⟩
    refine ⟨trivial, go_ok _ 100 _ _ ?_⟩
    simp only [go_sem, List.cons_append, List.nil_append, Nat.reduceBEq, Nat.reduceAdd, Nat.zero_add, Try.results73]
    refine ⟨fun hp => ⟨by simp only [inI64]; omega, by simp only [inI64]; omega, ?_⟩, fun hp => ⟨by simp only [inI64]; omega, ?_⟩⟩
    · exact safe_lend ⟨k + 1, hlt⟩ (by simp only; omega) (Sub.front (X := []) ⟨rfl, by simp only [htk, hp, if_true, List.length_append, List.length_singleton]; rfl, rfl, rfl, rfl, rfl, trivial⟩ rfl)
    · exact safe_lend ⟨k + 1, hlt⟩ (by simp only; omega) (Sub.front (X := []) ⟨rfl, by simp only [htk, hp, Bool.false_eq_true, if_false, List.append_nil]; rfl, rfl, rfl, rfl, rfl, trivial⟩ rfl)
  · have hkl : k = vs.length := by have := of_decide_eq_false h; omega
    subst hkl
    rw [List.take_length] at hfl ⊢
    refine ⟨by simp only [inI64]; omega, ?_⟩
    rw [← hP]
    have e : decide ((vs.length : Int) < 2 * ((vs.filter pd).length : Int)) = decide (vs.length < 2 * (vs.filter pd).length) := by
      apply Bool.eq_iff_iff.2
      simp only [decide_eq_true_eq]
      omega
    rw [e]
    exact ⟨_, nO b n ++ [x], rfl, fun _ h => h, Sees.left (a := nO b n ++ [x]) (X := [_]), rfl, rfl⟩
end Go.SX

/- Raft: the closures of 'most': does most vote for it, have most got it, have most heard? -/
namespace Go.SX
open Go.Proofs
set_option maxRecDepth 1000000
variable {E : Env}

theorem c76o (nl : Bool) (b off cap : Nat) (xs : List Int) (x : Int) (hl : xs.length < 2 ^ 62) : Spec Try.prog E 76 [.osl 0 nl b off xs.length cap, I x] [.row nl b 3 off 1 xs.length cap (rowsV encI xs)] (fun v hp => ∃ r : Int, v = I r ∧ (0 ≤ r ↔ x ∈ xs) ∧ hp = [.row nl b 3 off 1 xs.length cap (rowsV encI xs)]) := by
  refine spec_of (keep := k76) (args' := [.osl 0 nl b off xs.length cap, I x]) Try.func76 rfl Try.ntmps76 s76_ok (by simp) ⟨rfl, fun _ h => h⟩ (fun _ _ h => h) (go_ok _ 100 _ _ ?_)
  simp only [go_sem, s76, k76, Nat.reduceBEq, Nat.reduceAdd, Nat.zero_add]
  refine safe_loop (fun i : {i : Nat // i ≤ xs.length ∧ ∀ k, k < i → x ≠ xs.getD k 0} => ⟨[(0, .osl 0 nl b off xs.length cap), (1, I x), (7, I xs.length), (8, I i.1)], [.row nl b 3 off 1 xs.length cap (rowsV encI xs)]⟩) (fun i => xs.length - i.1) ⟨0, by omega, by omega⟩
    (Sub.front (by simp [envSub, look]) rfl) ?_
  rintro ⟨i, hi, hall⟩
  refine go_ok _ 100 _ _ ?_
  simp only [go_sem, Nat.reduceBEq, Nat.reduceAdd, Nat.zero_add, Try.results76]
  rw [Int.toNat_natCast]
  refine ⟨fun h => ?_, fun h => ⟨-1, rfl, ?_⟩⟩
  · have hlt : i < xs.length := by simpa using h
    refine ⟨by omega, by omega, fun h => ⟨i, rfl, ⟨fun _ => ?_, fun _ => by omega⟩⟩, fun h => ⟨by simp only [inI64]; omega, ?_⟩⟩
    · have : x = xs.getD i 0 := by simpa using h
      rw [this, List.getD_eq_getElem?_getD, List.getElem?_eq_getElem hlt]
      exact List.getElem_mem _
    · have h : x ≠ xs.getD i 0 := by simpa using h
      refine safe_lend ⟨i + 1, hlt, fun k hk => ?_⟩ (by simp only; omega) (Sub.front (by simp [envSub, look]) rfl)
      rcases Nat.lt_or_eq_of_le (Nat.lt_succ_iff.1 hk) with h1 | rfl
      · exact hall k h1
      · exact h
  · have hi' : i = xs.length := by simp at h; omega
    refine ⟨fun h => by omega, fun hm => ?_⟩
    obtain ⟨k, hk, rfl⟩ := List.getElem_of_mem hm
    exact absurd (by simp [List.getD_eq_getElem?_getD, hk]) (hall k (by omega))

theorem c54o (nl : Bool) (b off cap : Nat) (xs : List Int) (x : Int) (hl : xs.length < 2 ^ 62) : Spec Try.prog E 54 [.osl 0 nl b off xs.length cap, I x] [.row nl b 3 off 1 xs.length cap (rowsV encI xs)] (fun v hp => v = Bl (decide (x ∈ xs)) ∧ hp = [.row nl b 3 off 1 xs.length cap (rowsV encI xs)]) := by
  refine spec_of (keep := k54) (args' := [.osl 0 nl b off xs.length cap, I x]) Try.func54 rfl Try.ntmps54 s54_ok (by simp) ⟨rfl, fun _ h => h⟩ (fun _ _ h => h) (go_ok _ 100 _ _ ?_)
  simp only [go_sem, s54, k54, Nat.reduceBEq, Nat.reduceAdd, Nat.zero_add]
  refine (stp_call [0] rfl rfl rfl ⟨_, Try.func76, rfl, rfl⟩ (c76o nl b off cap xs x hl) rfl (fun _ h => h) rfl (fun _ _ h => h) ?_).safe trivial
  rintro v hp ⟨r, rfl, hr, rfl⟩
  refine ⟨trivial, go_ok _ 100 _ _ ?_⟩
  simp only [go_sem, Nat.reduceBEq, Try.results54]
  simp [hr]


theorem c77n (b bx : Nat) (n : NL) (v : Int) (hv : n.votes.length ≤ 2 ^ 30) : Spec Try.prog E 77 [I v, .ptr 7 bx 0] (nO b n ++ [.cells bx 24 [.ptr 0 b 0]]) (fun r hp => r = Bl (decide (v ∈ n.votes)) ∧ hp = nO b n ++ [.cells bx 24 [.ptr 0 b 0]]) := by
  refine spec_of (keep := k77) (args' := [I v, .ptr 7 bx 0]) Try.func77 rfl Try.ntmps77 s77_ok (by simp) ⟨rfl, fun _ h => h⟩ (fun _ _ h => h) (go_ok _ 100 _ _ ?_)
  have hvt : n.rs.votes = n.wv.sv 1 n.votes.length := rfl
  simp only [go_sem, s77, k77, hvt, List.cons_append, List.nil_append, Nat.reduceBEq, Nat.reduceAdd, Nat.zero_add]
  refine (stp_call [1] (args := [.osl 0 n.wv.nl n.wv.b n.wv.off n.votes.length n.wv.cap, I v]) rfl rfl rfl ⟨_, Try.func54, rfl, rfl⟩ (c54o n.wv.nl n.wv.b n.wv.off n.wv.cap n.votes v (by omega)) rfl (fun _ h => h) rfl (fun _ _ h => h) ?_).safe trivial
  rintro r hp ⟨rfl, rfl⟩
  refine ⟨trivial, go_ok _ 100 _ _ ?_⟩
  simp only [go_sem, Nat.reduceBEq, Nat.reduceAdd, Nat.zero_add, Try.results77]
end Go.SX

/- Raft: have most got it? -/
namespace Go.SX
open Go.Proofs
set_option maxRecDepth 1000000
variable {E : Env}

theorem c74n (b bx bi : Nat) (n : NL) (v i : Int) (hk : v ≠ n.s.id → ∃ M j p, n.pm = some M ∧ fndP n.peers v = some j ∧ n.peers[j]? = some p) :
    Spec Try.prog E 74 [I v, .ptr 7 bx 0, .ptr 8 bi 0] (nO b n ++ [.cells bx 24 [.ptr 0 b 0], .cells bi 3 [I i]]) (fun r hp => r = Bl (decide (v = n.s.id) || decide (i ≤ (n.nd.peer v).mt)) ∧ hp = nO b n ++ [.cells bx 24 [.ptr 0 b 0], .cells bi 3 [I i]]) := by
  refine Spec.see2 ?_
  generalize hP : SeeP _ = P
  refine spec_of (keep := k74) (args' := [I v, .ptr 7 bx 0, .ptr 8 bi 0]) Try.func74 rfl Try.ntmps74 s74_ok (by simp) ⟨rfl, fun _ h => h⟩ (fun _ _ h => h) ?_
  by_cases hv : v = n.s.id
  · have e : decide (v = n.rs.id) = true := decide_eq_true hv
    refine go_ok _ 100 _ _ ?_
    simp only [go_sem, s74, k74, e, List.cons_append, List.nil_append, Nat.reduceBEq, Nat.reduceAdd, Nat.zero_add, Try.results74, reduceCtorEq]
    refine ⟨?_, rfl⟩
    rw [← hP]
    exact ⟨_, _, rfl, fun _ h => h, Sees.refl _, by rw [decide_eq_true hv, Bool.true_or], rfl⟩
  · obtain ⟨M, j, p, hpm, hf, hj⟩ := hk hv
    have e : decide (v = n.rs.id) = false := decide_eq_false hv
    have hrp : n.rs.peers = .val (.map (some M)) := by simp only [NL.rs, hpm]
    refine go_ok _ 100 _ _ ?_
    simp only [go_sem, s74, k74, e, hrp, hpm, pmC, List.cons_append, List.nil_append, Nat.reduceBEq, Nat.reduceAdd, Nat.zero_add, Try.results74, reduceCtorEq]
    have hpd : n.peers.getD j default = p := by rw [List.getD_eq_getElem?_getD, hj]; rfl
    refine ⟨?_, rfl⟩
    refine safe_peel (t := 15) rfl ?_
    refine safe_peel (t := 16) rfl ?_
    refine safe_othOn (oth_lookup1 (K := kvI) (x := v) (b := M) (es := n.peers.map fun p => (p.id, .ptr 0 p.b 0)) (z := .pointer none) (mo := .t 15) (ko := .t 16) 5 rfl rfl Try.underlying92 (by kernel_rfl) rfl rfl rfl (by kernel_rfl)) (show 17 < 24 by decide) (by simp only [recheck, recheck1, go_sem, Nat.reduceBEq]) ?_
    rw [look_pm, hf]
    simp only [Option.map_some, Option.getD_some, hpd]
    refine safe_env (env' := [(17, .ptr 9 p.b 0), (21, .cnd true (I i)), (11, Bl false)]) ⟨seenP _ _ _ _ _ _ rfl rfl, seen _ _ _ rfl, seen _ _ _ rfl, trivial⟩ ?_
    refine safe_sees (Sees.peer (c := 6) (i := j) (L := n.peers) (p := p) rfl hj) ?_
    refine go_ok _ 100 _ _ ?_
    simp only [go_sem, peC, List.cons_append, List.nil_append, Nat.reduceBEq, Nat.reduceAdd, Nat.zero_add, Try.results74, reduceCtorEq]
    have fin2 : Sees ([rC b n.rs, n.wv.ch 3 1 encI n.votes, n.ww.ch 100 3 encW n.waits, n.wr.ch 48 2 encQ n.reads, n.wm.ch 54 15 encM n.msgs, mpC kvI M (n.peers.map fun p => (p.id, .ptr 0 p.b 0)), sepC (setC (n.peers.map peC) j .emp), .cells bx 24 [.ptr 0 b 0], .cells bi 3 [I i]] ++ [peC p]) (nO b n ++ [.cells bx 24 [.ptr 0 b 0], .cells bi 3 [I i]]) := by
      refine Sees.trans (Sees.peerBack (c := 6) (L := n.peers) (p := p) (p' := p) rfl hj) ?_
      rw [set_sameP hj]
      simp only [nO, hpm, pmC]
      exact Sees.refl _
    rw [← hP]
    exact ⟨_, _, rfl, fun _ h => h, fin2, by rw [decide_eq_false hv, Bool.false_or, peer_nd hpm hf hj]; rfl, rfl⟩
theorem c75n (b bx bi : Nat) (n : NL) (v x y i : Int) (hk : v ≠ n.s.id → ∃ M j p, n.pm = some M ∧ fndP n.peers v = some j ∧ n.peers[j]? = some p) :
    Spec Try.prog E 75 [I v, .ptr 7 bx 0, .ptr 8 bi 0] (nO b n ++ [.cells bx 24 [.ptr 0 b 0], .cells bi 100 [I x, I y, I i]]) (fun r hp => r = Bl (decide (v = n.s.id) || decide (i ≤ (n.nd.peer v).hd)) ∧ hp = nO b n ++ [.cells bx 24 [.ptr 0 b 0], .cells bi 100 [I x, I y, I i]]) := by
  refine Spec.see2 ?_
  generalize hP : SeeP _ = P
  refine spec_of (keep := k75) (args' := [I v, .ptr 7 bx 0, .ptr 8 bi 0]) Try.func75 rfl Try.ntmps75 s75_ok (by simp) ⟨rfl, fun _ h => h⟩ (fun _ _ h => h) ?_
  by_cases hv : v = n.s.id
  · have e : decide (v = n.rs.id) = true := decide_eq_true hv
    refine go_ok _ 100 _ _ ?_
    simp only [go_sem, s75, k75, e, List.cons_append, List.nil_append, Nat.reduceBEq, Nat.reduceAdd, Nat.zero_add, Try.results75, reduceCtorEq]
    refine ⟨?_, rfl⟩
    rw [← hP]
    exact ⟨_, _, rfl, fun _ h => h, Sees.refl _, by rw [decide_eq_true hv, Bool.true_or], rfl⟩
  · obtain ⟨M, j, p, hpm, hf, hj⟩ := hk hv
    have e : decide (v = n.rs.id) = false := decide_eq_false hv
    have hrp : n.rs.peers = .val (.map (some M)) := by simp only [NL.rs, hpm]
    refine go_ok _ 100 _ _ ?_
    simp only [go_sem, s75, k75, e, hrp, hpm, pmC, List.cons_append, List.nil_append, Nat.reduceBEq, Nat.reduceAdd, Nat.zero_add, Try.results75, reduceCtorEq]
    have hpd : n.peers.getD j default = p := by rw [List.getD_eq_getElem?_getD, hj]; rfl
    refine ⟨?_, rfl⟩
    refine safe_peel (t := 15) rfl ?_
    refine safe_peel (t := 16) rfl ?_
    refine safe_othOn (oth_lookup1 (K := kvI) (x := v) (b := M) (es := n.peers.map fun p => (p.id, .ptr 0 p.b 0)) (z := .pointer none) (mo := .t 15) (ko := .t 16) 5 rfl rfl Try.underlying92 (by kernel_rfl) rfl rfl rfl (by kernel_rfl)) (show 17 < 25 by decide) (by simp only [recheck, recheck1, go_sem, Nat.reduceBEq]) ?_
    rw [look_pm, hf]
    simp only [Option.map_some, Option.getD_some, hpd]
    refine safe_env (env' := [(17, .ptr 9 p.b 0), (22, .cnd true (I i)), (11, Bl false)]) ⟨seenP _ _ _ _ _ _ rfl rfl, seen _ _ _ rfl, seen _ _ _ rfl, trivial⟩ ?_
    refine safe_sees (Sees.peer (c := 6) (i := j) (L := n.peers) (p := p) rfl hj) ?_
    refine go_ok _ 100 _ _ ?_
    simp only [go_sem, peC, List.cons_append, List.nil_append, Nat.reduceBEq, Nat.reduceAdd, Nat.zero_add, Try.results75, reduceCtorEq]
    have fin2 : Sees ([rC b n.rs, n.wv.ch 3 1 encI n.votes, n.ww.ch 100 3 encW n.waits, n.wr.ch 48 2 encQ n.reads, n.wm.ch 54 15 encM n.msgs, mpC kvI M (n.peers.map fun p => (p.id, .ptr 0 p.b 0)), sepC (setC (n.peers.map peC) j .emp), .cells bx 24 [.ptr 0 b 0], .cells bi 100 [I x, I y, I i]] ++ [peC p]) (nO b n ++ [.cells bx 24 [.ptr 0 b 0], .cells bi 100 [I x, I y, I i]]) := by
      refine Sees.trans (Sees.peerBack (c := 6) (L := n.peers) (p := p) (p' := p) rfl hj) ?_
      rw [set_sameP hj]
      simp only [nO, hpm, pmC]
      exact Sees.refl _
    rw [← hP]
    exact ⟨_, _, rfl, fun _ h => h, fin2, by rw [decide_eq_false hv, Bool.false_or, peer_nd hpm hf hj]; rfl, rfl⟩
end Go.SX

/- Raft: who votes, by the plain model. -/
namespace Go.SX
open Go.Proofs
set_option maxRecDepth 1000000

theorem ints8_eq : ∀ (k : Nat) (r : List UInt8), (∀ c, c < k → Rf.beN ((r.drop (8 * c)).take 8) < 2 ^ 63) → Rf.ints8 k r = (List.range k).map fun c => ((Rf.beN ((r.drop (8 * c)).take 8) : Nat) : Int)
  | 0, _, _ => rfl
  | k + 1, r, h => by
    have h0 := h 0 (by omega)
    have ih := ints8_eq k (r.drop 8) fun c hc => by
      have := h (c + 1) (by omega)
      rw [List.drop_drop, show 8 + 8 * c = 8 * (c + 1) by omega]
      exact this
    rw [Rf.ints8, ih, List.range_succ_eq_map, List.map_cons, List.map_map]
    simp only [Nat.mul_zero, List.drop_zero] at h0 ⊢
    rw [if_pos h0]
    congr 1
    refine List.map_congr_left fun c _ => ?_
    simp only [Function.comp_apply, List.drop_drop]
    rw [show 8 + 8 * c = 8 * (c + 1) by omega]
theorem beN_rf (l : List UInt8) : Rf.beN l = beN l := rfl
theorem readV_eq {xs : List UInt8} (hb : badB xs = false) (hk : ∀ c, beN (chunk8 xs c) < 2 ^ 63) : (Rf.readV xs).1 = rdV xs := by
  cases xs with
  | nil => simp [badB] at hb
  | cons x r =>
    have hl : r.length = 8 * x.toNat := by
      simp only [badB, Bool.or_eq_false_iff, decide_eq_false_iff_not, ne_eq, Decidable.not_not, List.length_cons, List.getD_cons_zero] at hb
      omega
    rw [rdV, hb]
    simp only [Rf.readV, if_pos hl, Bool.false_eq_true, if_false, outsB]
    have hd : ∀ c, (r.drop (8 * c)).take 8 = chunk8 (x :: r) c := fun c => by
      rw [chunk8, Nat.add_comm 1 (8 * c), List.drop_succ_cons]
    rw [ints8_eq _ _ fun c _ => by rw [hd]; exact hk c]
    rw [show ((x :: r).length - 1) / 8 = x.toNat by rw [List.length_cons, Nat.add_sub_cancel, hl, Nat.mul_div_cancel_left _ (by decide)]]
    refine List.map_congr_left fun c _ => ?_
    rw [hd, beN_rf]
theorem nd_chg (n : NL) (u : Int) : n.nd.chg u = chg n.rs.es u := by
  show (n.s.es.map Ent.pl).foldl _ 0 = n.s.es.foldl _ 0
  rw [List.foldl_map]
  rfl
theorem nd_votersAt {n : NL} (hg : n.rs.good n.o) (u : Int) : n.nd.votersAt u = n.rs.votersAt n.o u := by
  unfold Rf.Nd.votersAt RS.votersAt
  rw [nd_chg]
  by_cases h : 0 < chg n.rs.es u
  · rw [if_pos h, if_pos h]
    rcases hg.chg u with h1 | ⟨j, hj, h1, h2⟩
    · omega
    have hm : n.rs.es.getD j default ∈ n.rs.es := by rw [List.getD_eq_getElem?_getD, List.getElem?_eq_getElem hj]; exact List.getElem_mem hj
    have e : (chg n.rs.es u - n.rs.mIx - 1).toNat = j := by rw [h1]; omega
    have e2 : (chg n.rs.es u - n.nd.me.ix - 1).toNat = j := e
    have e3 : (n.nd.log.getD j default).d = (n.rs.es.getD j default).d.xs := by
      have hj' : j < n.s.es.length := hj
      show ((n.s.es.map Ent.pl).getD j default).d = (n.s.es.getD j default).d.xs
      rw [List.getD_eq_getElem?_getD, List.getD_eq_getElem?_getD, List.getElem?_map, List.getElem?_eq_getElem hj']
      rfl
    rw [e, e2, e3]
    exact readV_eq (hg.rd _ hm h2).1 (hg.ok _ hm).2
  · rw [if_neg h, if_neg h]
    rfl
theorem nd_voters {n : NL} (hg : n.rs.good n.o) : n.nd.voters = n.rs.vs n.o := by
  unfold Rf.Nd.voters RS.vs
  rw [nd_votersAt hg, nd_last]
theorem nd_others {n : NL} (hg : n.rs.good n.o) : n.nd.others = n.rs.others n.o := by
  unfold Rf.Nd.others RS.others othersL
  rw [nd_voters hg]
  rfl
end Go.SX

/- Raft: an entry is put, by the plain model. -/
namespace Go.SX
open Go.Proofs
set_option maxRecDepth 1000000

/-- the node with another log -/
def NL.logged (n : NL) (la : Option Addr) (lc : Nat) (es : List Ent) (fresh : Int) : NL := { n with s := { n.s with la := la, lc := lc, es := es, fresh := fresh } }
theorem logged_rs (n : NL) (la : Option Addr) (lc : Nat) (es : List Ent) (fresh : Int) : (n.logged la lc es fresh).rs = { n.rs with la := la, lc := lc, es := es, fresh := fresh } := rfl
theorem nd_put (n : NL) {kd : Int} {a la : Option Addr} {cap lc : Nat} {xs : List UInt8} {es' : List Ent} (h : Same (n.rs.es ++ [⟨n.rs.last + 1, n.rs.hT, kd, ⟨a, cap, xs⟩⟩]) es') :
    (n.logged la lc es' (if n.rs.fresh = 0 ∨ n.rs.last + 1 < n.rs.fresh then n.rs.last + 1 else n.rs.fresh)).nd = n.nd.put kd xs := by
  unfold Rf.Nd.put Rf.Nd.lay
  rw [nd_last]
  have e1 : (n.rs.last + 1 - n.nd.me.ix - 1).toNat = n.nd.log.length := by
    show (n.rs.mIx + (n.rs.es.length : Int) + 1 - n.rs.mIx - 1).toNat = (n.s.es.map Ent.pl).length
    rw [List.length_map]
    show (n.rs.mIx + (n.s.es.length : Int) + 1 - n.rs.mIx - 1).toNat = n.s.es.length
    omega
  simp only [e1, List.take_length]
  have e2 : es'.map Ent.pl = n.nd.log ++ [⟨n.rs.last + 1, n.nd.hd.tm, kd, xs⟩] := by
    rw [h.pl, List.map_append]
    rfl
  rw [← e2]
  rfl
end Go.SX
