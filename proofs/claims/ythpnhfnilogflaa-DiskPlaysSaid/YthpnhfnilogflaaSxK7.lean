/- The disk: the names, sorted. -/
import Derived.Test.YthpnhfnilogflaaSxK6
import Derived.Test.YthpnhfnilogflaaSxY
namespace Go.SX
open Go.Proofs
set_option maxRecDepth 1000000
variable {E : Env}

/-- a round over a map: any entry that is still to come -/
def kstep (es : List (List UInt8 × SV)) (dn : List Nat) (v : List SV) (dn' : List Nat) : Prop := ∃ i x u, es[i]? = some (x, u) ∧ i ∉ dn ∧ v = [T x] ∧ dn' = dn ++ [i]
def kdone (es : List (List UInt8 × SV)) (dn : List Nat) : Prop := ∀ i, i < es.length → i ∈ dn
def kbox (bx M : Nat) (es : List (List UInt8 × SV)) : List Chunk := [.cells bx 66 [.val (.map (some M))], mpC kvS M es]

theorem c48 (bx c M : Nat) (es : List (List UInt8 × SV)) : IterSpecG Try.prog E 48 [.ptr c bx 0] (sepC (kbox bx M es)) [] (kstep es) (kdone es) := by
  intro l J Jx hY
  refine Spec.see2 ?_
  generalize hP : SeeP (fun _ h => (∃ i, kdone es i ∧ h = [sepC (kbox bx M es), .abs (J i)]) ∨ h = [sepC (kbox bx M es), .abs Jx]) = P
  have fin : ∀ v r dn (X : HP), (X = Jx ∨ ∃ i, kdone es i ∧ X = J i) → P v [.cells bx 66 [.val (.map (some M))], mpI kvS M es r dn, .abs X] := by
    intro v r dn X hX
    rw [← hP]
    refine ⟨v, [sepC (kbox bx M es), .abs X], rfl, fun _ h => h, ?_, ?_⟩
    · refine Sees.trans (Sees.same (Sees.cons (y := mpC kvS M es) (fun ro H h => ?_) (Sees.refl [.abs X]))) (Sees.app (Sees.bag (kbox bx M es)) (Sees.refl [.abs X]))
      obtain ⟨H', e, h'⟩ := mpI_mpC h
      exact ⟨H', _, by rw [← e], h'⟩
    · rcases hX with rfl | ⟨i, hi, rfl⟩
      · exact .inr rfl
      · exact .inl ⟨i, hi, rfl⟩
  refine spec_of (keep := k48) (args' := [.fn (.yield l) [] [], .ptr 0 bx 0]) Try.func48 rfl Try.ntmps48 s48_ok (by simp) ⟨rfl, fun _ h => by simp only [SV.oks, SV.ok] at h ⊢; exact ⟨⟨trivial, trivial⟩, trivial, trivial⟩⟩ (fun _ _ h => h) ?_
  refine safe_sees (hp' := kbox bx M es ++ [.abs (J [])]) (Sees.app (Sees.unbag (kbox bx M es)) (Sees.refl [.abs (J [])])) (go_ok _ 100 _ _ ?_)
  simp only [go_sem, s48, k48, kbox, Nat.reduceBEq, Nat.zero_add, List.cons_append, List.nil_append]
  refine (stp_maprange (K := kvS) (mo := .t 4) (b := M) (es := es) 1 rfl Try.underlying66 rfl rfl fun r => ?_).safeE rfl
  refine ⟨trivial, go_ok _ 100 _ _ ?_⟩
  simp only [go_sem, Nat.reduceBEq]
  refine safe_loop (ι := {dn : List Nat // dn.Nodup ∧ ∀ i ∈ dn, i < es.length}) (fun dn => ⟨[(0, .fn (.yield l) [] []), (5, .val (.pointer (some ⟨r, 0, none⟩)))], [.cells bx 66 [.val (.map (some M))], mpI kvS M es r dn.1, .abs (J dn.1)]⟩) (fun dn => es.length - dn.1.length) ⟨[], List.nodup_nil, by simp⟩
    (Sub.front (X := []) ⟨rfl, rfl, trivial⟩ rfl) ?_
  rintro ⟨dn, hnd, hlt⟩
  refine go_ok _ 100 _ _ ?_
  simp only [go_sem]
  refine (stp_mapnext (K := kvS) (ito := .t 5) (b := M) (es := es) (r := r) (dn := dn) 1 rfl rfl rfl (fun hall => ?_) (fun i x v hx hni => ?_)).safeE rfl
  · refine ⟨trivial, go_ok _ 100 _ _ ?_⟩
    simp only [go_sem, Nat.reduceBEq, Try.results48]
    exact fin _ r dn _ (.inr ⟨dn, hall, rfl⟩)
  · refine ⟨trivial, go_ok _ 100 _ _ ?_⟩
    simp only [go_sem, Nat.reduceBEq, Try.results48]
    refine ⟨?_, fun h => absurd h (by decide)⟩
    refine safe_oth (oth_entry (K := kvS) (ito := .t 5) (b := M) (es := es) (r := r) (dn := dn) (i := i) 1 rfl rfl rfl hx) trivial ?_
    refine go_ok _ 100 _ _ ?_
    simp only [go_sem, Nat.reduceBEq]
    refine (stp_yield [2] rfl rfl (hY dn [T x] (dn ++ [i]) ⟨i, x, v, hx, hni, rfl, rfl⟩) (by simp [SV.dens, SV.den, kvS]) (fun _ h => ?_) rfl (fun _ _ h => h) ?_).safe trivial
    · simp [SV.oks, SV.ok]
    · have hil : i < es.length := (List.getElem?_eq_some_iff.1 hx).1
      have hdn' : (dn ++ [i]).Nodup ∧ ∀ j ∈ dn ++ [i], j < es.length := ⟨List.nodup_append.2 ⟨hnd, by simp, fun a ha b hb => by simp at hb; subst hb; exact fun e => hni (e ▸ ha)⟩, fun j hj => by
        rcases List.mem_append.1 hj with hj | hj
        · exact hlt j hj
        · simp at hj; subst hj; exact hil⟩
      have hlen : (dn ++ [i]).length ≤ es.length := by
        obtain ⟨q, hq⟩ := nodup_split hdn'.1 (l' := List.range es.length) (fun j hj => List.mem_range.2 (hdn'.2 j hj))
        have := hq.length_eq
        simp at this ⊢
        omega
      rintro v' hp (⟨rfl, rfl⟩ | ⟨rfl, rfl⟩)
      · refine ⟨trivial, go_ok _ 100 _ _ ?_⟩
        simp only [go_sem, Nat.reduceBEq, Try.results48]
        refine safe_lend ⟨dn ++ [i], hdn'⟩ ?_ (Sub.front (X := []) ⟨rfl, rfl, trivial⟩ rfl)
        simp only [List.length_append, List.length_singleton] at hlen ⊢
        omega
      · refine ⟨trivial, go_ok _ 100 _ _ ?_⟩
        simp only [go_sem, Nat.reduceBEq, Try.results48]
        exact ⟨fin _ r (dn ++ [i]) _ (.inl rfl), fun h => absurd h (by decide)⟩

theorem c40 (M : Nat) : Spec Try.prog E 40 [.val (.map (some M))] [] (fun v hp => ∃ bx, v = .fn (.func 48) [] [.ptr 0 bx 0] ∧ hp = [.cells bx 66 [.val (.map (some M))]]) := by
  refine spec_of (keep := k40) (args' := [.val (.map (some M))]) Try.func40 rfl Try.ntmps40 s40_ok (by simp) ⟨rfl, fun _ h => h⟩ (fun _ _ h => h) (go_ok _ 100 _ _ ?_)
  simp only [go_sem, s40, k40, Nat.reduceBEq, Try.results40]
  exact fun b => ⟨b, rfl, rfl⟩

/-- the keys as they came -/
def keyAt (es : List (List UInt8 × SV)) (i : Nat) : List UInt8 := ((es.map (·.1)).getD i [])
def s49a : SCode := .ops [(.rd 5 (.mv (.t 7)), [])]
def s49b : SCode := .block 1 (.ops [(.rd 8 (.load (.t 2) none), []), (.rd 9 (.mv (.t 5)), []), (.bsl 10 9 1 1 [.string ⟨#[]⟩] [(0, (1, .t 9))], []), (.app 11 9 1 16 [.string ⟨#[]⟩] (.t 8) (.t 10), []), (.store (.t 2) (.t 11) 1, [])])
/-- the keys met so far, in memory -/
def collC (b2 : Nat) (es : List (List UInt8 × SV)) (dn : List Nat) : Chunk :=
  exC fun q : Bool × Nat × Nat × Nat => andC (dn.Nodup ∧ ∀ i ∈ dn, i < es.length) (sepC [.cells b2 31 [.osl 0 q.1 q.2.1 q.2.2.1 (dn.map (keyAt es)).length q.2.2.2], .row q.1 q.2.1 9 q.2.2.1 1 (dn.map (keyAt es)).length q.2.2.2 (rowsV encT (dn.map (keyAt es)))])
theorem Sees.coll {b2 hint : Nat} {es : List (List UInt8 × SV)} {dn : List Nat} {nl : Bool} {b off cap : Nat} (h : dn.Nodup ∧ ∀ i ∈ dn, i < es.length) :
    Sees [.cells b2 31 [.osl hint nl b off (dn.map (keyAt es)).length cap], .row nl b 9 off 1 (dn.map (keyAt es)).length cap (rowsV encT (dn.map (keyAt es)))] [collC b2 es dn] := fun ro H hs => by
  refine ⟨H, [], by simp, H, [], by simp, ⟨(nl, b, off, cap), h, H, List.Perm.refl _, ?_⟩, rfl⟩
  obtain ⟨H1, H2, e, h1, h2⟩ := hs
  exact ⟨H1, H2, e, cells1_see rfl (fun _ _ => by simp only [SV.ok]) ro H1 h1, h2⟩
theorem c49 (bx M : Nat) (es : List (List UInt8 × SV)) (hl : es.length ≤ 2 ^ 30) : Spec Try.prog E 49 [nilS, .fn (.func 48) [] [.ptr 0 bx 0]] (kbox bx M es) (fun v hp => ∃ dn nl b off cap, kdone es dn ∧ dn.Nodup ∧ (∀ i ∈ dn, i < es.length) ∧ v = .osl 2 nl b off (dn.map (keyAt es)).length cap ∧ hp = kbox bx M es ++ [.row nl b 9 off 1 (dn.map (keyAt es)).length cap (rowsV encT (dn.map (keyAt es)))]) := by
  refine Spec.see2 ?_
  generalize hP : SeeP (fun v hp => ∃ dn nl b off cap, kdone es dn ∧ dn.Nodup ∧ (∀ i ∈ dn, i < es.length) ∧ v = .osl 2 nl b off (dn.map (keyAt es)).length cap ∧ hp = kbox bx M es ++ [.row nl b 9 off 1 (dn.map (keyAt es)).length cap (rowsV encT (dn.map (keyAt es)))]) = P
  refine spec_of (keep := k49) (args' := [nilS, .fn (.func 48) [] [.ptr 0 bx 0]]) Try.func49 rfl Try.ntmps49 s49_ok (by simp) ⟨rfl, fun _ h => h⟩ (fun _ _ h => h) ?_
  refine safe_sees (hp' := [sepC (kbox bx M es)]) (Sees.bag _) (go_ok _ 100 _ _ ?_)
  simp only [go_sem, s49, k49, nilS, Nat.reduceBEq, Nat.zero_add]
  intro b2
  refine safe_rangeG (sa := s49a) (sb := s49b) (c := 0) (lb := [.ptr 0 bx 0]) (gf := 48) (n := ([] : List Nat)) (step := kstep es) (dn := kdone es) (HI := fun dn => [.emp, collC b2 es dn]) (ι := Empty) (XH := fun x => x.elim) (κ := Bool × Nat × Nat × Nat)
    (stA := fun dn v q => ⟨[(2, .ptr 2 b2 0), (5, v.getD 0 default)], [.emp, .emp, .cells b2 31 [.osl 3 q.1 q.2.1 q.2.2.1 (dn.map (keyAt es)).length q.2.2.2], .row q.1 q.2.1 9 q.2.2.1 1 (dn.map (keyAt es)).length q.2.2.2 (rowsV encT (dn.map (keyAt es))), pureC (dn.Nodup ∧ ∀ i ∈ dn, i < es.length)]⟩) Jump.ret (scj := .ret) rfl rfl rfl ⟨_, Try.func48, rfl, rfl⟩ ?_ ?_ rfl (by simp) ?_ ⟨by simp, by simp⟩ ?_ (c48 bx 0 M es) ?_ ?_ ?_
  · show comp Try.prog 13 _ = _
    kernel_rfl
  · show comp Try.prog 13 _ = _
    kernel_rfl
  · rintro ro H ⟨H1, H2, e, h1, H3, H4, e2, h3, h4⟩
    refine ⟨H1, H2, e, h1, H3, H4, e2, ⟨(true, 0, 0, 0), ⟨List.nodup_nil, by simp⟩, H3, List.Perm.refl _, H3, [], by simp, ?_, [], [], rfl, rowB_nil ro 0 9 0 1 _, rfl⟩, h4⟩
    exact cells1_see (s := .view none 0 0 1 (fun _ _ => .val undef)) (s' := .osl 0 true 0 0 0 0) rfl (fun _ _ => by simp only [SV.ok]) ro H3 h3
  · rintro dn v dn' ⟨i, x, u, _, _, rfl, _⟩
    rfl
  · rintro dn v dn' ⟨i, x, u, hx, hni, rfl, rfl⟩ l
    refine ⟨?_, fun q => ?_⟩
    · refine safe_ex 1 rfl fun q => safe_and 1 rfl fun hdn => safe_unbag 1 rfl ?_
      refine safe_sees (hp' := [.emp, .emp, .cells b2 31 [.osl 3 q.1 q.2.1 q.2.2.1 (dn.map (keyAt es)).length q.2.2.2], .row q.1 q.2.1 9 q.2.2.1 1 (dn.map (keyAt es)).length q.2.2.2 (rowsV encT (dn.map (keyAt es))), pureC (dn.Nodup ∧ ∀ i ∈ dn, i < es.length)])
        (Sees.same (Sees.same (Sees.cons (fun ro H h => ⟨H, [], by simp, cells1_see rfl (fun _ _ => by simp only [SV.ok]) ro H h⟩) (Sees.same (Sees.new (fun ro => ⟨rfl, hdn⟩) (Sees.refl [])))))) ?_
      refine safe_env (env' := [(7, T x), (2, .ptr 2 b2 0)]) ⟨seen _ _ _ rfl, seenP _ _ _ _ _ _ rfl rfl, trivial⟩ (go_ok _ 100 _ _ ?_)
      simp only [go_sem, s49a, inRd, Nat.reduceBEq]
      exact safe_bot fun ro0 F a w hg => ⟨rfl, q, (Sub.front (X := []) (by exact ⟨rfl, rfl, trivial⟩) rfl : Sub _ _).gam hg⟩
    · refine safe_pure 4 rfl fun hdn => go_ok _ 100 _ _ ?_
      have hil : i < es.length := (List.getElem?_eq_some_iff.1 hx).1
      have hkey : keyAt es i = x := by simp [keyAt, List.getD_eq_getElem?_getD, hx]
      have hdn' : (dn ++ [i]).Nodup ∧ ∀ j ∈ dn ++ [i], j < es.length := ⟨List.nodup_append.2 ⟨hdn.1, by simp, fun a ha b hb => by simp at hb; subst hb; exact fun e => hni (e ▸ ha)⟩, fun j hj => by
        rcases List.mem_append.1 hj with hj | hj
        · exact hdn.2 j hj
        · simp at hj; subst hj; exact hil⟩
      have hlen : dn.length ≤ es.length := by
        obtain ⟨q, hq⟩ := nodup_split hdn.1 (l' := List.range es.length) (fun j hj => List.mem_range.2 (hdn.2 j hj))
        have := hq.length_eq
        simp at this
        omega
      have hmap : (dn ++ [i]).map (keyAt es) = dn.map (keyAt es) ++ [x] := by simp [hkey]
      simp only [go_sem, s49b, inRd, Nat.reduceBEq, Nat.reduceAdd, Nat.zero_add, List.getD_cons_zero]
      intro bb
      refine (stp_app2 (c := 3) (b := q.2.1) (off := q.2.2.1) (nl := q.1) (n := (dn.map (keyAt es)).length) (cap := q.2.2.2) (x := .osl 5 false bb 0 1 1) (gx := litF 1 [T x]) (m := 1) (f := rowsV encT (dn.map (keyAt es))) (f2 := rowsV encT ((dn ++ [i]).map (keyAt es))) (N := ((dn ++ [i]).map (keyAt es)).length) rfl rfl rfl rfl ⟨rfl, rfl, rfl, rfl, Nat.le_refl _⟩ ?_ ?_ (by simp) (fun i' j hi hj => ?_) fun nl' b' off' cap' => ?_).safe trivial
      · intro i' j hi hj
        obtain rfl : i' = 0 := by omega
        obtain rfl : j = 0 := by omega
        simp [litF, one, Value.oneCell']
      · simp
        omega
      · rw [hmap]
        exact app_one (enc := encT) i' j (by rw [hmap] at hi; simpa using hi) hj
      refine ⟨trivial, go_ok _ 100 _ _ ?_⟩
      simp only [go_sem, Nat.reduceBEq, Nat.zero_add]
      refine safe_bot fun ro0 F a w hg => .inl ⟨rfl, hg.memSees ?_⟩
      refine Sees.same (Sees.emp (Sees.trans (Sees.left (a := [_, _]) (X := [_, _])) ?_))
      exact Sees.coll hdn'
  · intro d dn hdone
    refine safe_ex 1 rfl fun q => safe_and 1 rfl fun hdn => safe_unbag 1 rfl ?_
    refine safe_sees (hp' := [.emp, .emp, sepC (kbox bx M es), dfrC d, .cells b2 31 [.osl 5 q.1 q.2.1 q.2.2.1 (dn.map (keyAt es)).length q.2.2.2], .row q.1 q.2.1 9 q.2.2.1 1 (dn.map (keyAt es)).length q.2.2.2 (rowsV encT (dn.map (keyAt es)))])
      (Sees.same (Sees.same (Sees.same (Sees.same (Sees.cons (fun ro H h => ⟨H, [], by simp, cells1_see rfl (fun _ _ => by simp only [SV.ok]) ro H h⟩) (Sees.refl [_])))))) ?_
    refine safe_env (env' := [(2, .ptr 4 b2 0)]) ⟨seenP _ _ _ _ _ _ rfl rfl, trivial⟩ (go_ok _ 100 _ _ ?_)
    simp only [go_sem, withD, Nat.reduceBEq, Try.results49]
    refine safe_retD (c := 3) (l := [.osl 5 q.1 q.2.1 q.2.2.1 (dn.map (keyAt es)).length q.2.2.2]) (vc := True) rfl rfl ?_ trivial ?_ rfl
    · simp only [retC, Try.results49, go_sem, Nat.reduceBEq]
    · rw [← hP]
      refine ⟨.osl 2 q.1 q.2.1 q.2.2.1 (dn.map (keyAt es)).length q.2.2.2, _, rfl, fun _ _ => by simp only [SV.ok], ?_, dn, q.1, q.2.1, q.2.2.1, q.2.2.2, hdone, hdn.1, hdn.2, rfl, rfl⟩
      exact Sees.emp (Sees.emp (Sees.app (a := [sepC (kbox bx M es)]) (Sees.unbag (kbox bx M es)) (Sees.emp (Sees.trans (Sees.perm (List.Perm.swap _ _ _)) (Sees.left (a := [_]) (X := [_]))))))
  · rintro d ⟨⟩
end Go.SX
