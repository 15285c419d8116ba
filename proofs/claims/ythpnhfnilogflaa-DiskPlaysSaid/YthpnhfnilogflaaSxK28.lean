/- The document's disk: a list of files with one more, in its place. -/
import Derived.Test.YthpnhfnilogflaaSxK25
import Derived.Test.YthpnhfnilogflaaSxZA
namespace Go.SX
open Go.Proofs
set_option maxRecDepth 1000000
variable {E : Env}

def ltB (x y : List UInt8) : Bool := strLt ⟨x.toArray⟩ ⟨y.toArray⟩
def placeR (l : List RF) (x : List UInt8) : Nat := (l.takeWhile fun g => ltB g.nm x).length
def withR (l : List RF) (f : RF) : List RF :=
  (withoutR l f.nm).take (placeR (withoutR l f.nm) f.nm) ++ [f] ++ (withoutR l f.nm).drop (placeR (withoutR l f.nm) f.nm)
theorem placeR_le (l : List RF) (x : List UInt8) : placeR l x ≤ l.length := (List.takeWhile_sublist _).length_le
theorem placeR_eq {x : List UInt8} : ∀ {l : List RF} {p : Nat}, p ≤ l.length → (∀ i, i < p → ltB (l.getD i default).nm x = true) → (p < l.length → ltB (l.getD p default).nm x = false) → placeR l x = p
  | [], p, h, _, _ => by simp at h; subst h; rfl
  | g :: r, 0, _, _, h => by
    have := h (by simp)
    simp only [List.getD_cons_zero] at this
    simp [placeR, this]
  | g :: r, p + 1, h, h1, h2 => by
    have h0 := h1 0 (by omega)
    simp only [List.getD_cons_zero] at h0
    have ih := placeR_eq (x := x) (l := r) (p := p) (by simpa using h) (fun i hi => by simpa using h1 (i + 1) (by omega)) (fun hp => by simpa using h2 (by simpa using hp))
    simp only [placeR] at ih ⊢
    rw [List.takeWhile_cons, if_pos h0, List.length_cons, ih]

set_option maxHeartbeats 1000000 in
theorem c43 (c : Nat) (nl : Bool) (fb off cap : Nat) (l : List RF) (f : RF) (hl : l.length ≤ 2 ^ 30) : Spec Try.prog E 43 [.osl 0 nl fb off l.length cap, .agg (encR f)] [.row nl fb 82 off 3 l.length cap (rowsV encR l)]
    (fun v hp => ∃ nl' fb' off' cap', v = .osl c nl' fb' off' (withR l f).length cap' ∧ hp = [.row nl' fb' 82 off' 3 (withR l f).length cap' (rowsV encR (withR l f))]) := by
  refine Spec.sees (Post := fun v hp => ∃ nl' fb' off' cap' A X, v = .osl 3 nl' fb' off' (withR l f).length cap' ∧ hp = A ++ [.row nl' fb' 82 off' 3 (withR l f).length cap' (rowsV encR (withR l f))] ++ X) ?_ ?_
  · refine spec_of (keep := k43) (args' := [.osl 0 nl fb off l.length cap, .agg (encR f)]) Try.func43 rfl Try.ntmps43 s43_ok (by simp) ⟨rfl, fun _ h => h⟩ (fun _ _ h => h) (go_ok _ 100 _ _ ?_)
    simp only [go_sem, s43, k43, encR, Nat.reduceBEq, Nat.zero_add]
    intro b3
    refine (stp_call [0] (args := [.osl 0 nl fb off l.length cap, T f.nm]) rfl rfl rfl ⟨_, Try.func45, rfl, rfl⟩ (c45 2 nl fb off cap l f.nm hl) rfl (fun _ h => h) rfl (fun _ _ h => h) ?_).safe trivial
    rintro v hp ⟨nl2, fb2, off2, cap2, rfl, rfl⟩
    have hll := Nat.le_trans (without_le l f.nm) hl
    have hw : withR l f = (withoutR l f.nm).take (placeR (withoutR l f.nm) f.nm) ++ [f] ++ (withoutR l f.nm).drop (placeR (withoutR l f.nm) f.nm) := rfl
    generalize withoutR l f.nm = l' at hll hw ⊢
    refine ⟨trivial, go_ok _ 100 _ _ ?_⟩
    simp only [go_sem, List.cons_append, List.nil_append, Nat.reduceBEq]
    refine safe_loop (ι := {p : Nat // p ≤ l'.length ∧ ∀ i, i < p → ltB (l'.getD i default).nm f.nm = true}) (fun p => ⟨[(0, .osl 2 nl2 fb2 off2 l'.length cap2), (3, .ptr 1 b3 0), (5, I p.1)], [.row nl fb 82 off 3 l.length cap (rowsV encR l), .cells b3 82 (encR f), .row nl2 fb2 82 off2 3 l'.length cap2 (rowsV encR l')]⟩) (fun p => l'.length - p.1)
      ⟨0, Nat.zero_le _, fun i hi => absurd hi (by omega)⟩ (Sub.front (X := []) ⟨rfl, rfl, rfl, trivial⟩ rfl) ?_
    rintro ⟨p, hp, hlt⟩
    refine go_ok _ 20 _ _ ?_
    simp only [go_sem, encR, Nat.reduceBEq, Nat.zero_add, Int.toNat_natCast]
    refine ⟨fun h => ?_, fun h => ?_, fun h => ?_, fun h => ?_, fun h => ?_⟩
    · have hp' : p < l'.length := by simpa using h
      exact ⟨by rw [h]; rfl, by omega, by omega, Nat.le_refl _⟩
    · have hp' : p < l'.length := by simpa using h
      exact ⟨h, hp', by decide⟩
    · rw [h]; rfl
    · simp only [Bool.and_eq_true] at h
      have hp' : p < l'.length := by simpa using h.1
      refine go_ok _ 100 _ _ ?_
      simp only [go_sem, Nat.reduceBEq]
      refine ⟨by simp only [inI64]; omega, ?_⟩
      refine safe_lend ⟨p + 1, hp', fun i hi => ?_⟩ (by simp only; omega) (Sub.front (X := []) ⟨rfl, rfl, rfl, trivial⟩ rfl)
      rcases Nat.lt_or_ge i p with h3 | h3
      · exact hlt i h3
      · obtain rfl : i = p := by omega
        exact h.2
    · have hpl : placeR l' f.nm = p := placeR_eq hp hlt fun hp' => by
        simp only [Bool.and_eq_false_iff] at h
        rcases h with h | h
        · have := of_decide_eq_false h; omega
        · exact h
      rw [hpl] at hw
      refine safe_rowcap (c := 2) (n := l'.length) (cap := cap2) rfl fun hcap => ?_
      refine safe_frzA (c := 2) (rowsV encR l') rfl (fun _ _ _ _ => rfl) (by simp [frzOk, frzOk1]) ?_
      refine go_ok _ 100 _ _ ?_
      simp only [go_sem, Nat.reduceBEq, Int.toNat_natCast]
      have z0 : Int.toNat 0 = 0 := rfl
      simp only [z0, Nat.sub_zero, Nat.add_zero]
      refine ⟨by and_intros; all_goals (first | omega | rfl | (intro; omega) | trivial), ?_⟩
      refine (stp_appn (gx := rowsV encR l') (m := p) (sz0 := 1) rfl rfl rfl rfl (by omega) fun nl3 b4 off3 cap3 => ?_).safe trivial
      refine ⟨trivial, ?_⟩
      have htl : (l'.take p).length = p := by simp; omega
      refine safe_sees (hp' := [.row nl fb 82 off 3 l.length cap (rowsV encR l), .cells b3 82 [T f.nm, vB f.a f.cap f.xs, I f.syn], .emp, .row nl3 b4 82 off3 3 p cap3 (rowsV encR (l'.take p))]) (Sees.same (Sees.same (Sees.same (Sees.cons (fun ro H h => ⟨H, [], by simp, row_congr (fun i j hi hj => ?_) h⟩) (Sees.refl []))))) ?_
      · simp only [rowsV, List.getD_eq_getElem?_getD, List.getElem?_take, hi, if_true]
      refine go_ok _ 100 _ _ ?_
      simp only [go_sem, Nat.reduceBEq, Nat.reduceAdd, Nat.zero_add]
      intro b5
      refine (stp_app2 (c := 3) (b := b4) (off := off3) (nl := nl3) (n := p) (cap := cap3) (x := .osl 4 false b5 0 1 1) (gx := litF 3 (encR f)) (m := 1) (f := rowsV encR (l'.take p)) (f2 := rowsV encR (l'.take p ++ [f])) (N := p + 1) rfl rfl rfl rfl ⟨rfl, rfl, rfl, rfl, Nat.le_refl _⟩
          (fun i j hi hj => ?_) (by omega) rfl (fun i j hi hj => by have := app_one (enc := encR) (sz := 3) (ys := l'.take p) (y := f) i j (by rw [htl]; exact hi) hj; rw [htl] at this; exact this) fun nl6 b6 off6 cap6 => ?_).safe trivial
      · obtain rfl : i = 0 := by omega
        rcases j with _ | _ | _ | j <;> first | omega | (simp [litF, encR, one, Value.oneCell'])
      refine ⟨trivial, go_ok _ 100 _ _ ?_⟩
      simp only [go_sem, Nat.reduceBEq, Int.toNat_natCast]
      have hgx : (fun i => rowsV encR l' (i + p)) = rowsV encR (l'.drop p) := by
        funext i j
        simp only [rowsV, List.getD_eq_getElem?_getD, List.getElem?_drop, Nat.add_comm]
      rw [hgx]
      refine ⟨by omega, ?_⟩
      have hwl : (withR l f).length = l'.length + 1 := by rw [hw]; simp; omega
      have hdl : (l'.drop p).length = l'.length - p := by simp
      have htf : (l'.take p ++ [f]).length = p + 1 := by simp; omega
      refine (stp_app2 (c := 3) (b := b6) (off := off6) (nl := nl6) (n := p + 1) (cap := cap6) (gx := rowsV encR (l'.drop p)) (m := l'.length - p) (f := rowsV encR (l'.take p ++ [f])) (f2 := rowsV encR (withR l f)) (N := (withR l f).length) rfl rfl rfl rfl rfl
          (onesR rfl _ _) (by omega) (by omega) (fun i j hi hj => by have := app_rows (enc := encR) (sz := 3) (ys := l'.take p ++ [f]) (zs := l'.drop p) i j (by rw [htf, hdl]; omega) hj; rw [htf] at this; rw [this, hw]) fun nl7 b7 off7 cap7 => ?_).safe trivial
      refine ⟨trivial, go_ok _ 100 _ _ ?_⟩
      simp only [go_sem, Nat.reduceBEq, Try.results43]
      exact ⟨nl7, b7, off7, cap7, [_, _, _], [_], rfl, rfl⟩
  · rintro v hp ⟨nl', fb', off', cap', A, X, rfl, rfl⟩
    refine ⟨.osl c nl' fb' off' (withR l f).length cap', _, rfl, fun _ _ => by simp only [SV.ok], ?_, nl', fb', off', cap', rfl, rfl⟩
    exact Sees.trans Sees.left (Sees.trans (Sees.perm List.perm_append_comm) Sees.left)
end Go.SX

/- The document's disk: Append. -/
namespace Go.SX
open Go.Proofs
set_option maxRecDepth 1000000
variable {E : Env}

theorem cells_seeL {b : Nat} {T : TypeId} {cs cs' : List SV} (h1 : SV.dens cs' = SV.dens cs) (h2 : ∀ ro, SV.oks ro cs → SV.oks ro cs') (ro : RO) (H : Hp) (h : (Chunk.cells b T cs).sat ro H) : (Chunk.cells b T cs').sat ro H :=
  ⟨by rw [h1]; exact h.1, h2 ro h.2⟩
theorem mem_le_sum : ∀ {l : List Nat} {x : Nat}, x ∈ l → x ≤ l.sum
  | [], _, h => by simp at h
  | y :: l, x, h => by
    rw [List.sum_cons]
    rcases List.mem_cons.1 h with rfl | h
    · omega
    · have := mem_le_sum h; omega
def RS.ps (r : RS) : PS := ⟨r.room, r.did, r.left, r.dead, r.L.map RF.fs⟩
def PS.rbegun (p : PS) : PS := if p.dead then p else if 0 < p.left then (if p.left - 1 = 0 then { p with left := p.left - 1, dead := true } else { p with left := p.left - 1, ops := p.ops + 1 }) else { p with ops := p.ops + 1 }
theorem rbegun_ps (r : RS) : r.begun.ps = r.ps.rbegun := by
  unfold RS.begun PS.rbegun
  rw [show r.ps.dead = r.dead from rfl, show r.ps.left = r.left from rfl]
  split
  · rfl
  · split
    · split <;> rfl
    · rfl
theorem rbegun_same (r : RS) : r.begun.room = r.room ∧ r.begun.L = r.L ∧ r.begun.nl = r.nl ∧ r.begun.fb = r.fb ∧ r.begun.off = r.off ∧ r.begun.cap = r.cap := by
  unfold RS.begun
  split
  · exact ⟨rfl, rfl, rfl, rfl, rfl, rfl⟩
  · split
    · split <;> exact ⟨rfl, rfl, rfl, rfl, rfl, rfl⟩
    · exact ⟨rfl, rfl, rfl, rfl, rfl, rfl⟩
theorem used_ps (r : RS) : (r.L.map fun f => f.xs.length).sum = sumF r.ps.fs := by
  unfold sumF RS.ps
  rw [List.map_map]
  rfl
def withoutF (l : List FS) (x : List UInt8) : List FS := l.filter fun f => decide (f.nm ≠ x)
def placeF (l : List FS) (x : List UInt8) : Nat := (l.takeWhile fun g => ltB g.nm x).length
def withF (l : List FS) (f : FS) : List FS := (withoutF l f.nm).take (placeF (withoutF l f.nm) f.nm) ++ [f] ++ (withoutF l f.nm).drop (placeF (withoutF l f.nm) f.nm)
theorem without_fs (l : List RF) (x : List UInt8) : (withoutR l x).map RF.fs = withoutF (l.map RF.fs) x := by
  unfold withoutR withoutF
  rw [List.filter_map]
  rfl
theorem place_fs (l : List RF) (x : List UInt8) : placeR l x = placeF (l.map RF.fs) x := by
  unfold placeR placeF
  rw [List.takeWhile_map, List.length_map]
  rfl
theorem with_fs (l : List RF) (f : RF) : (withR l f).map RF.fs = withF (l.map RF.fs) f.fs := by
  unfold withR withF
  rw [List.map_append, List.map_append, List.map_take, List.map_drop, without_fs, place_fs, without_fs]
  rfl
theorem fndR_get : ∀ (l : List RF) (x : List UInt8), (fndR l x = none ∧ getF (l.map RF.fs) x = none) ∨ ∃ i, fndR l x = some i ∧ i < l.length ∧ getF (l.map RF.fs) x = some (l.getD i default).fs
  | [], _ => .inl ⟨rfl, rfl⟩
  | f :: r, x => by
    unfold fndR
    simp only [List.map_cons, getF]
    by_cases h : f.nm = x
    · rw [if_pos h, if_pos (show f.fs.nm = x from h)]
      exact .inr ⟨0, rfl, by simp, rfl⟩
    · rw [if_neg h, if_neg (show ¬ f.fs.nm = x from h)]
      rcases fndR_get r x with ⟨h1, h2⟩ | ⟨i, h1, h2, h3⟩
      · exact .inl ⟨by rw [h1]; rfl, h2⟩
      · exact .inr ⟨i + 1, by rw [h1]; rfl, by simp; omega, by rw [h3]; simp⟩
def PS.rapp (p : PS) (x ys : List UInt8) : Int × PS :=
  if p.rbegun.dead then (13, p.rbegun) else if nameB x = false then (1, p.rbegun) else if p.room - sumF p.fs < ys.length then (14, p.rbegun)
  else (0, { p.rbegun with fs := withF p.fs (match getF p.fs x with | none => ⟨x, ys, 0⟩ | some f => { f with xs := f.xs ++ ys }) })
/-- what holds of the document's disk behind n calls -/
structure RInv (r : RS) (n : Nat) : Prop where
  r0 : 0 ≤ r.room
  r1 : r.room < 2 ^ 63
  us : sumF r.ps.fs ≤ 1100 * n
  d0 : 0 ≤ r.did
  d1 : r.did ≤ n
  lf : inI64 r.left
  ln : r.L.length ≤ n
theorem RInv.begun {r : RS} {n : Nat} (h : RInv r n) : RInv r.begun (n + 1) := by
  obtain ⟨q1, q2, _⟩ := rbegun_same r
  have hfs : r.begun.ps.fs = r.ps.fs := by simp only [RS.ps, q2]
  have hl := h.lf
  simp only [inI64] at hl
  refine ⟨by rw [q1]; exact h.r0, by rw [q1]; exact h.r1, by rw [hfs]; have := h.us; omega, ?_, ?_, ?_, by rw [q2]; have := h.ln; omega⟩
  all_goals have := h.d0
  all_goals have := h.d1
  all_goals unfold RS.begun
  all_goals (repeat' split) <;> first | omega | (simp only [inI64]; omega)

def ROp (b : Nat) (r : Int × PS) (v : SV) (hp : List Chunk) : Prop := v = I r.1 ∧ ∃ r' : RS, r'.ps = r.2 ∧ hp = rO b r'
set_option maxHeartbeats 2000000 in
theorem c24 (b n : Nat) (r : RS) (x ys : List UInt8) (a : Option Addr) (cap : Nat) (hr : RInv r n) (hn : n ≤ 2 ^ 19) (hx : x.length < 2 ^ 62) (hy : ys.length ≤ 1100) :
    Spec Try.prog E 24 [.ptr 0 b 0, T x, vB a cap ys] (rO b r) (ROp b (r.ps.rapp x ys)) := by
  refine Spec.see2 ?_
  generalize hP : SeeP (ROp b (r.ps.rapp x ys)) = P
  have fin : ∀ v hp hp', Sees hp hp' → ROp b (r.ps.rapp x ys) v hp' → P v hp := fun v hp hp' h1 h2 => by rw [← hP]; exact ⟨v, hp', rfl, fun _ h => h, h1, h2⟩
  refine spec_of (keep := k24) (args' := [.ptr 0 b 0, T x, vB a cap ys]) Try.func24 rfl Try.ntmps24 s24_ok (by simp) ⟨rfl, fun _ h => h⟩ (fun _ _ h => h) (go_ok _ 100 _ _ ?_)
  simp only [go_sem, s24, k24, Nat.reduceBEq, Nat.reduceAdd, Nat.zero_add]
  refine (stp_call [0, 1] (args := [.ptr 0 b 0]) rfl rfl rfl ⟨_, Try.func41, rfl, rfl⟩ (c41 b r ⟨hr.d0, by have := hr.d1; omega⟩ hr.lf) rfl (fun _ h => h) rfl (fun _ _ h => h) ?_).safe trivial
  rintro v hp ⟨rfl, rfl⟩
  have hb := hr.begun
  obtain ⟨q1, q2, _⟩ := rbegun_same r
  have eps := rbegun_ps r
  have hroom : r.ps.room = r.begun.room := q1.symm
  have hfs : r.ps.fs = r.begun.L.map RF.fs := by rw [q2]; rfl
  have happ : r.ps.rapp x ys = if r.begun.dead then (13, r.begun.ps) else if nameB x = false then (1, r.begun.ps) else if r.begun.room - sumF r.begun.ps.fs < ys.length then (14, r.begun.ps)
      else (0, { r.begun.ps with fs := withF r.begun.ps.fs (match getF r.begun.ps.fs x with | none => ⟨x, ys, 0⟩ | some f => { f with xs := f.xs ++ ys }) }) := by
    unfold PS.rapp
    rw [← eps, hroom, hfs]
    rfl
  rw [happ] at fin
  clear happ eps hroom hfs q1 q2
  generalize r.begun = r1 at fin hb ⊢
  refine ⟨trivial, go_ok _ 100 _ _ ?_⟩
  simp only [go_sem, Bool.not_not, Nat.reduceBEq, Try.results24]
  refine ⟨fun hd => ?_, fun hd => ?_⟩
  · rw [hd] at fin
    exact fin _ _ _ (Sees.refl _) ⟨rfl, r1, rfl, rfl⟩
  rw [hd] at fin
  simp only [Bool.false_eq_true, if_false] at fin
  refine (stp_call [] (args := [T x]) rfl rfl rfl ⟨_, Try.func34, rfl, rfl⟩ (c34 x hx) rfl (fun _ h => h) rfl (fun _ _ h => h) ?_).safe trivial
  rintro v hp ⟨rfl, rfl⟩
  cases hnm : nameB x with
  | false =>
    rw [hnm] at fin
    refine ⟨trivial, go_ok _ 100 _ _ ?_⟩
    simp only [go_sem, Bool.not_false, reduceCtorEq, Nat.reduceBEq, Nat.zero_add, Try.results24]
    exact fin _ _ _ (Sees.refl _) ⟨rfl, r1, rfl, rfl⟩
  | true =>
    rw [hnm] at fin
    simp only [Bool.true_eq_false, if_false] at fin
    refine ⟨trivial, go_ok _ 100 _ _ ?_⟩
    simp only [go_sem, Bool.not_true, Nat.reduceBEq, Nat.zero_add, Try.results24]
    have hus := hb.us
    have hln := hb.ln
    refine (stp_call [0, 1] (args := [.ptr 0 b 0]) rfl rfl rfl ⟨_, Try.func32, rfl, rfl⟩ (c32 b r1 (by rw [used_ps]; omega) (by omega)) rfl (fun _ h => h) rfl (fun ro H h => h) ?_).safe trivial
    rintro v hp ⟨rfl, rfl⟩
    rw [used_ps]
    refine ⟨by simp only [go_sem, Nat.reduceBEq, Nat.zero_add], go_ok _ 100 _ _ ?_⟩
    simp only [go_sem, Nat.reduceBEq, Nat.reduceAdd, Nat.zero_add, Try.results24]
    have hr0 := hb.r0
    have hr1 := hb.r1
    refine ⟨by simp only [inI64]; omega, fun hful => ?_, fun hfit => ?_⟩
    · have hful : r1.room - sumF r1.ps.fs < ys.length := by simpa using hful
      rw [if_pos hful] at fin
      exact fin _ _ _ (Sees.refl _) ⟨rfl, r1, rfl, rfl⟩
    have hfit := of_decide_eq_false hfit
    rw [if_neg hfit] at fin
    intro b7
    refine (stp_call [0, 1] (args := [.ptr 0 b 0, T x]) rfl rfl rfl ⟨_, Try.func42, rfl, rfl⟩ (c42 b r1 x (by omega)) rfl (fun _ h => h) rfl (fun _ _ h => h) ?_).safe trivial
    rintro v hp ⟨rfl, rfl⟩
    refine ⟨trivial, go_ok _ 7 _ _ ?_⟩
    simp only [go_sem, Nat.reduceBEq]
    refine safe_code_mid (ι := {f : RF // f.xs.length ≤ 2 ^ 31 ∧ (match getF r1.ps.fs x with | none => (⟨x, ys, 0⟩ : FS) | some f => { f with xs := f.xs ++ ys }) = ⟨f.nm, f.xs ++ ys, f.syn⟩}) (fun f => ⟨[(0, .ptr 0 b 0), (2, vB a cap ys), (7, .ptr 2 b7 0)], rO b r1 ++ [.cells b7 82 (encR f.1)]⟩) ?_ ?_
    · rintro ⟨f, hfl, hf⟩
      rw [hf] at fin
      refine go_ok _ 100 _ _ ?_
      simp only [go_sem, encR, List.cons_append, List.nil_append, Nat.reduceBEq, Nat.reduceAdd, Nat.zero_add]
      intro b3
      refine (stp_app2 (c := 3) (b := b3) (off := 0) (nl := false) (n := 0) (cap := 0) (x := vB f.a f.cap f.xs) (gx := rowsV encB f.xs) (m := f.xs.length) (f := litF 1 []) (f2 := rowsV encB f.xs) (N := f.xs.length) rfl rfl rfl rfl rfl (onesF_rows fun x => ⟨rfl, by simp [encB, ones, one, Value.oneCell']⟩) (by omega) (by simp) (fun i j hi hj => by rw [appF_zero]) fun nl1 bo1 off1 cap1 => ?_).safe trivial
      refine ⟨trivial, go_ok _ 1 _ _ ?_⟩
      simp only [go_sem, Nat.reduceBEq]
      refine (stp_app2 (c := 3) (b := bo1) (off := off1) (nl := nl1) (n := f.xs.length) (cap := cap1) (x := vB a cap ys) (gx := rowsV encB ys) (m := ys.length) (f := rowsV encB f.xs) (f2 := rowsV encB (f.xs ++ ys)) (N := (f.xs ++ ys).length) rfl rfl rfl rfl rfl (onesF_rows fun x => ⟨rfl, by simp [encB, ones, one, Value.oneCell']⟩) (by omega) (by simp) (fun i j hi hj => app_rows i j (by simpa using hi) hj) fun nl2 bo2 off2 cap2 => ?_).safe trivial
      refine ⟨trivial, ?_⟩
      refine safe_prune [0, 2, 7, 44] ?_
      simp only [prune, go_sem, Nat.reduceBEq]
      refine safe_frzA (c := 3) (rowsV encB (f.xs ++ ys)) rfl (fun _ _ _ _ => rfl) (by simp [frzOk, frzOk1]) ?_
      refine go_ok _ 100 _ _ ?_
      simp only [go_sem, Nat.reduceBEq, Nat.zero_add]
      let f' : RF := ⟨f.nm, if nl2 then none else some ⟨bo2, off2, none⟩, cap2, f.xs ++ ys, f.syn⟩
      refine (stp_call [1] (args := [.osl 0 r1.nl r1.fb r1.off r1.L.length r1.cap, .agg (encR f')]) rfl rfl rfl ⟨_, Try.func43, rfl, rfl⟩ (c43 1 r1.nl r1.fb r1.off r1.cap r1.L f' (by omega)) rfl (fun _ h => by simp only [SV.oks, SV.ok, encR] at h ⊢; exact h) rfl (fun ro H h => h) ?_).safe trivial
      rintro v hp ⟨nl3, fb3, off3, cap3, rfl, rfl⟩
      refine ⟨by simp only [go_sem, Nat.reduceBEq], go_ok _ 100 _ _ ?_⟩
      simp only [go_sem, Nat.reduceBEq, Nat.zero_add, Try.results24]
      refine fin _ _ (rO b { r1 with nl := nl3, fb := fb3, off := off3, cap := cap3, L := withR r1.L f' }) (Sees.left (a := rO b { r1 with nl := nl3, fb := fb3, off := off3, cap := cap3, L := withR r1.L f' }) (X := [_, _])) ⟨rfl, _, ?_, rfl⟩
      simp only [RS.ps, with_fs]
      rfl
    · intro hrest
      rcases fndR_get r1.L x with ⟨h1, h2⟩ | ⟨i, h1, h2, h3⟩
      · have hat : atV r1.L x = -1 := by rw [atV, h1]
        rw [hat]
        have q : decide ((0 : Int) ≤ -1) = false := by decide
        refine go_ok _ 2 _ _ ?_
        simp only [go_sem, q, Nat.reduceBEq]
        refine safe_sees (hp' := rO b r1 ++ [.cells b7 82 (encR ⟨x, none, 0, [], 0⟩)]) (Sees.app (Sees.refl (rO b r1)) (Sees.cons (fun ro H h => ⟨H, [], by simp, cells_seeL (cs := [T x, nilS, I 0]) (cs' := encR ⟨x, none, 0, [], 0⟩) rfl (fun ro _ => by simp only [encR, SV.oks, SV.ok]; exact ⟨trivial, ⟨Nat.le_refl _, fun i j hi => absurd hi (by simp)⟩, trivial, trivial⟩) ro H h⟩) (Sees.refl []))) ?_
        refine Safe.sub ?_ (hrest ⟨⟨x, none, 0, [], 0⟩, by simp, by rw [show getF r1.ps.fs x = none from h2]; rfl⟩)
        exact Sub.front (X := []) ⟨rfl, rfl, rfl, trivial⟩ rfl
      · have hat : atV r1.L x = i := by rw [atV, h1]
        rw [hat]
        have q : decide ((0 : Int) ≤ i) = true := by simp
        have hmem : (r1.L.getD i default) ∈ r1.L := by rw [List.getD_eq_getElem?_getD, List.getElem?_eq_getElem h2]; exact List.getElem_mem h2
        have hle : (r1.L.getD i default).xs.length ≤ sumF r1.ps.fs := by
          rw [← used_ps]
          exact mem_le_sum (List.mem_map.2 ⟨_, hmem, rfl⟩)
        refine go_ok _ 11 _ _ ?_
        simp only [go_sem, q, reduceCtorEq, Nat.reduceBEq, Nat.reduceAdd, Nat.zero_add, Int.toNat_natCast]
        refine ⟨by omega, ⟨h2, by decide⟩, ?_⟩
        refine Safe.sub ?_ (hrest ⟨r1.L.getD i default, by omega, by rw [show getF r1.ps.fs x = _ from h3]; rfl⟩)
        exact Sub.front (X := []) ⟨rfl, rfl, rfl, trivial⟩ rfl
end Go.SX

/- The document's disk: Sync, Rename, Remove, Read, List. -/
namespace Go.SX
open Go.Proofs
set_option maxRecDepth 1000000
variable {E : Env}

def oneR (r : RS) (x : List UInt8) : Int × Int := if r.dead then (0, 13) else if nameB x = false then (0, 1) else match fndR r.L x with | none => (0, 2) | some i => (i, 0)
theorem c44 (b n : Nat) (r : RS) (x : List UInt8) (hr : RInv r n) (hn : n ≤ 2 ^ 19) (hx : x.length < 2 ^ 62) :
    Spec Try.prog E 44 [.ptr 0 b 0, T x] (rO b r) (fun v hp => v = .tup [I (oneR r.begun x).1, I (oneR r.begun x).2] ∧ hp = rO b r.begun) := by
  refine spec_of (keep := k44) (args' := [.ptr 0 b 0, T x]) Try.func44 rfl Try.ntmps44 s44_ok (by simp) ⟨rfl, fun _ h => h⟩ (fun _ _ h => h) (go_ok _ 100 _ _ ?_)
  simp only [go_sem, s44, k44, Nat.reduceBEq, Nat.zero_add]
  refine (stp_call [0, 1] (args := [.ptr 0 b 0]) rfl rfl rfl ⟨_, Try.func41, rfl, rfl⟩ (c41 b r ⟨hr.d0, by have := hr.d1; omega⟩ hr.lf) rfl (fun _ h => h) rfl (fun _ _ h => h) ?_).safe trivial
  rintro v hp ⟨rfl, rfl⟩
  have hb := hr.begun
  have hln := hb.ln
  generalize r.begun = r1 at hb hln ⊢
  refine ⟨trivial, go_ok _ 100 _ _ ?_⟩
  simp only [go_sem, Bool.not_not, Nat.reduceBEq, Try.results44]
  refine ⟨fun hd => by rw [oneR, if_pos hd], fun hd => ?_⟩
  refine (stp_call [] (args := [T x]) rfl rfl rfl ⟨_, Try.func34, rfl, rfl⟩ (c34 x hx) rfl (fun _ h => h) rfl (fun _ _ h => h) ?_).safe trivial
  rintro v hp ⟨rfl, rfl⟩
  cases hnm : nameB x with
  | false =>
    refine ⟨trivial, go_ok _ 100 _ _ ?_⟩
    simp only [go_sem, Bool.not_false, reduceCtorEq, Nat.reduceBEq, Try.results44]
    rw [oneR, if_neg (by simp [hd]), if_pos hnm]
  | true =>
    refine ⟨trivial, go_ok _ 100 _ _ ?_⟩
    simp only [go_sem, Bool.not_true, Nat.reduceBEq, Try.results44]
    refine (stp_call [0, 1] (args := [.ptr 0 b 0, T x]) rfl rfl rfl ⟨_, Try.func42, rfl, rfl⟩ (c42 b r1 x (by omega)) rfl (fun _ h => h) rfl (fun _ _ h => h) ?_).safe trivial
    rintro v hp ⟨rfl, rfl⟩
    refine ⟨trivial, go_ok _ 100 _ _ ?_⟩
    simp only [go_sem, Nat.reduceBEq, Try.results44]
    have ho : oneR r1 x = match fndR r1.L x with | none => (0, 2) | some i => ((i : Int), 0) := by rw [oneR, if_neg (by simp [hd]), if_neg (by simp [hnm])]
    rw [ho]
    unfold atV
    cases hf : fndR r1.L x with
    | none => exact ⟨fun _ => rfl, fun h => absurd h (by decide)⟩
    | some i => exact ⟨fun h => by simp at h; omega, fun _ => rfl⟩

theorem fndR_some : ∀ {l : List RF} {x : List UInt8} {i : Nat}, fndR l x = some i → i < l.length ∧ (l.getD i default).nm = x
  | [], _, _, h => by cases h
  | f :: r, x, i, h => by
    unfold fndR at h
    split at h
    · rename_i hf
      injection h with h
      subst h
      exact ⟨by simp, hf⟩
    · cases hr : fndR r x with
      | none => rw [hr] at h; cases h
      | some j =>
        rw [hr] at h
        injection h with h
        subst h
        obtain ⟨h1, h2⟩ := fndR_some hr
        exact ⟨by simpa using h1, by simpa using h2⟩
theorem synR_some : ∀ {l : List RF} {x : List UInt8} {i : Nat} {f' : RF}, fndR l x = some i → f'.fs = { (l.getD i default).fs with syn := (l.getD i default).xs.length } → (l.set i f').map RF.fs = synF (l.map RF.fs) x
  | [], _, _, _, h, _ => by cases h
  | g :: r, x, i, f', h, he => by
    unfold fndR at h
    split at h
    · rename_i hg
      injection h with h
      subst h
      simp only [List.getD_cons_zero] at he
      simp only [List.set_cons_zero, List.map_cons, synF, if_pos (show g.fs.nm = x from hg), he]
      rfl
    · rename_i hg
      cases hr : fndR r x with
      | none => rw [hr] at h; cases h
      | some j =>
        rw [hr] at h
        injection h with h
        subst h
        simp only [List.getD_cons_succ] at he
        simp only [List.set_cons_succ, List.map_cons, synF, if_neg (show ¬ g.fs.nm = x from hg)]
        rw [synR_some hr he]
def PS.rone (p : PS) (x : List UInt8) (g : List FS → List FS) : Int × PS :=
  if p.rbegun.dead then (13, p.rbegun) else if nameB x = false then (1, p.rbegun) else if getF p.fs x = none then (2, p.rbegun) else (0, { p.rbegun with fs := g p.fs })
theorem rone_cases (r : RS) (x : List UInt8) (g : List FS → List FS) :
    (∃ e, e ≠ 0 ∧ oneR r.begun x = (0, e) ∧ r.ps.rone x g = (e, r.begun.ps)) ∨ ∃ i : Nat, fndR r.begun.L x = some i ∧ oneR r.begun x = ((i : Int), 0) ∧ r.ps.rone x g = (0, { r.begun.ps with fs := g r.begun.ps.fs }) := by
  have hfs : r.ps.fs = r.begun.ps.fs := by simp only [RS.ps, (rbegun_same r).2.1]
  unfold PS.rone oneR
  rw [← rbegun_ps, hfs]
  rw [show r.begun.ps.dead = r.begun.dead from rfl]
  generalize r.begun = r1
  by_cases hd : r1.dead = true
  · rw [if_pos hd, if_pos hd]
    exact .inl ⟨13, by decide, rfl, rfl⟩
  rw [if_neg hd, if_neg hd]
  by_cases hn : nameB x = false
  · rw [if_pos hn, if_pos hn]
    exact .inl ⟨1, by decide, rfl, rfl⟩
  rw [if_neg hn, if_neg hn]
  rcases fndR_get r1.L x with ⟨h1, h2⟩ | ⟨i, h1, _, h3⟩
  · rw [h1, if_pos (show getF r1.ps.fs x = none from h2)]
    exact .inl ⟨2, by decide, rfl, rfl⟩
  · rw [h1, if_neg (show ¬ getF r1.ps.fs x = none by rw [show getF r1.ps.fs x = _ from h3]; simp)]
    exact .inr ⟨i, rfl, rfl, rfl⟩
theorem rows_syn {l : List RF} {i : Nat} {z : Nat} (hi : i < l.length) : ∀ k j, k < l.length → j < 3 → updF (rowsV encR l) i 2 [I z] k j = rowsV encR (l.set i { l.getD i default with syn := z }) k j := by
  intro k j hk hj
  by_cases h : k = i
  · subst h
    have e : (l.set k { l.getD k default with syn := z }).getD k default = { l.getD k default with syn := z } := by simp [List.getD_eq_getElem?_getD, hk]
    rcases j with _ | _ | _ | j
    · simp only [updF, rowsV, e, BEq.rfl]; rfl
    · simp only [updF, rowsV, e, BEq.rfl]; rfl
    · simp only [updF, rowsV, e, BEq.rfl]; rfl
    · omega
  · have e : (l.set i { l.getD i default with syn := z }).getD k default = l.getD k default := by simp [List.getD_eq_getElem?_getD, Ne.symm h]
    have e2 : (k == i) = false := by simpa using h
    simp only [updF, rowsV, e, e2, Bool.false_and, cond_false]
theorem c25 (b n : Nat) (r : RS) (x : List UInt8) (hr : RInv r n) (hn : n ≤ 2 ^ 19) (hx : x.length < 2 ^ 62) : Spec Try.prog E 25 [.ptr 0 b 0, T x] (rO b r) (ROp b (r.ps.rone x (synF · x))) := by
  refine Spec.see2 ?_
  generalize hP : SeeP (ROp b (r.ps.rone x (synF · x))) = P
  have fin : ∀ v hp hp', Sees hp hp' → ROp b (r.ps.rone x (synF · x)) v hp' → P v hp := fun v hp hp' h1 h2 => by rw [← hP]; exact ⟨v, hp', rfl, fun _ h => h, h1, h2⟩
  refine spec_of (keep := k25) (args' := [.ptr 0 b 0, T x]) Try.func25 rfl Try.ntmps25 s25_ok (by simp) ⟨rfl, fun _ h => h⟩ (fun _ _ h => h) (go_ok _ 100 _ _ ?_)
  simp only [go_sem, s25, k25, Nat.reduceBEq, Nat.zero_add]
  refine (stp_call [0, 1] (args := [.ptr 0 b 0, T x]) rfl rfl rfl ⟨_, Try.func44, rfl, rfl⟩ (c44 b n r x hr hn hx) rfl (fun _ h => h) rfl (fun _ _ h => h) ?_).safe trivial
  rintro v hp ⟨rfl, rfl⟩
  rcases rone_cases r x (synF · x) with ⟨e, he, h1, h2⟩ | ⟨i, h0, h1, h2⟩
  · rw [h2] at fin
    rw [h1]
    have q : decide (e = 0) = false := by simpa using he
    refine ⟨trivial, go_ok _ 100 _ _ ?_⟩
    simp only [go_sem, q, Nat.reduceBEq, Nat.reduceAdd, Nat.zero_add, Try.results25]
    exact fin _ _ _ (Sees.refl _) ⟨rfl, r.begun, rfl, rfl⟩
  · rw [h2] at fin
    rw [h1]
    generalize r.begun = r1 at fin h0 ⊢
    obtain ⟨hi, _⟩ := fndR_some h0
    have q : decide ((0 : Int) = 0) = true := by decide
    refine ⟨trivial, go_ok _ 100 _ _ ?_⟩
    simp only [go_sem, reduceCtorEq, Nat.reduceBEq, Nat.reduceAdd, Nat.zero_add, Try.results25, Int.toNat_natCast]
    refine ⟨by omega, ⟨hi, by decide⟩, by omega, ⟨hi, by decide⟩, ?_⟩
    have hl : (r1.L.set i { r1.L.getD i default with syn := (r1.L.getD i default).xs.length }).length = r1.L.length := by simp
    refine fin _ _ (rO b { r1 with L := r1.L.set i { r1.L.getD i default with syn := (r1.L.getD i default).xs.length } }) ?_ ⟨rfl, _, ?_, rfl⟩
    · simp only [rO, hl]
      exact Sees.same (Sees.cons (fun ro H h => ⟨H, [], by simp, row_congr (fun k j hk hj => rows_syn hi k j hk hj) h⟩) (Sees.refl []))
    · simp only [RS.ps]
      rw [synR_some h0 rfl]
theorem Sees.swapR {b : Nat} {r : RS} (x : Chunk) : Sees [.cells b 63 [.osl 2 r.nl r.fb r.off r.L.length r.cap, I r.room, I r.did, I r.left, Bl r.dead], x, .row r.nl r.fb 82 r.off 3 r.L.length r.cap (rowsV encR r.L)] (rO b r) := by
  refine Sees.cons (fun ro H h => ⟨H, [], by simp, cells_seeL (cs := [.osl 2 r.nl r.fb r.off r.L.length r.cap, I r.room, I r.did, I r.left, Bl r.dead]) rfl (fun ro h => by simp only [SV.oks, SV.ok] at h ⊢; exact h) ro H h⟩) ?_
  exact Sees.trans (Sees.perm (List.Perm.swap _ _ _)) (Sees.left (a := [_]) (X := [_]))
theorem c27 (b n : Nat) (r : RS) (x : List UInt8) (hr : RInv r n) (hn : n ≤ 2 ^ 19) (hx : x.length < 2 ^ 62) : Spec Try.prog E 27 [.ptr 0 b 0, T x] (rO b r) (ROp b (r.ps.rone x (withoutF · x))) := by
  refine Spec.see2 ?_
  generalize hP : SeeP (ROp b (r.ps.rone x (withoutF · x))) = P
  have fin : ∀ v hp hp', Sees hp hp' → ROp b (r.ps.rone x (withoutF · x)) v hp' → P v hp := fun v hp hp' h1 h2 => by rw [← hP]; exact ⟨v, hp', rfl, fun _ h => h, h1, h2⟩
  refine spec_of (keep := k27) (args' := [.ptr 0 b 0, T x]) Try.func27 rfl Try.ntmps27 s27_ok (by simp) ⟨rfl, fun _ h => h⟩ (fun _ _ h => h) (go_ok _ 100 _ _ ?_)
  simp only [go_sem, s27, k27, Nat.reduceBEq, Nat.zero_add]
  refine (stp_call [0, 1] (args := [.ptr 0 b 0, T x]) rfl rfl rfl ⟨_, Try.func44, rfl, rfl⟩ (c44 b n r x hr hn hx) rfl (fun _ h => h) rfl (fun _ _ h => h) ?_).safe trivial
  rintro v hp ⟨rfl, rfl⟩
  have hln := hr.begun.ln
  rcases rone_cases r x (withoutF · x) with ⟨e, he, h1, h2⟩ | ⟨i, h0, h1, h2⟩
  · rw [h2] at fin
    rw [h1]
    have q : decide (e = 0) = false := by simpa using he
    refine ⟨trivial, go_ok _ 100 _ _ ?_⟩
    simp only [go_sem, q, Nat.reduceBEq, Nat.zero_add, Try.results27]
    exact fin _ _ _ (Sees.refl _) ⟨rfl, r.begun, rfl, rfl⟩
  · rw [h2] at fin
    rw [h1]
    generalize r.begun = r1 at fin h0 hln ⊢
    have q : decide ((0 : Int) = 0) = true := by decide
    refine ⟨trivial, go_ok _ 100 _ _ ?_⟩
    simp only [go_sem, reduceCtorEq, Nat.reduceBEq, Nat.zero_add, Try.results27]
    refine (stp_call [1] (args := [.osl 0 r1.nl r1.fb r1.off r1.L.length r1.cap, T x]) rfl rfl rfl ⟨_, Try.func45, rfl, rfl⟩ (c45 2 r1.nl r1.fb r1.off r1.cap r1.L x (by omega)) rfl (fun _ h => by simp only [SV.oks, SV.ok] at h ⊢; exact h) rfl (fun ro H h => h) ?_).safe trivial
    rintro v hp ⟨nl3, fb3, off3, cap3, rfl, rfl⟩
    refine ⟨trivial, go_ok _ 100 _ _ ?_⟩
    simp only [go_sem, Nat.reduceBEq, Nat.zero_add, Try.results27]
    refine fin _ _ (rO b { r1 with nl := nl3, fb := fb3, off := off3, cap := cap3, L := withoutR r1.L x }) ?_ ⟨rfl, _, ?_, rfl⟩
    · exact Sees.swapR (r := { r1 with nl := nl3, fb := fb3, off := off3, cap := cap3, L := withoutR r1.L x }) _
    · simp only [RS.ps, without_fs]
def PS.rren (p : PS) (x y : List UInt8) : Int × PS :=
  if p.rbegun.dead then (13, p.rbegun) else if (nameB x && nameB y) = false then (1, p.rbegun) else match getF p.fs x with | none => (2, p.rbegun) | some f => (0, { p.rbegun with fs := withF (withoutF p.fs x) { f with nm := y } })
set_option maxHeartbeats 1000000 in
theorem c26 (b n : Nat) (r : RS) (x y : List UInt8) (hr : RInv r n) (hn : n ≤ 2 ^ 19) (hx : x.length < 2 ^ 62) (hy : y.length < 2 ^ 62) : Spec Try.prog E 26 [.ptr 0 b 0, T x, T y] (rO b r) (ROp b (r.ps.rren x y)) := by
  refine Spec.see2 ?_
  generalize hP : SeeP (ROp b (r.ps.rren x y)) = P
  have fin : ∀ v hp hp', Sees hp hp' → ROp b (r.ps.rren x y) v hp' → P v hp := fun v hp hp' h1 h2 => by rw [← hP]; exact ⟨v, hp', rfl, fun _ h => h, h1, h2⟩
  refine spec_of (keep := k26) (args' := [.ptr 0 b 0, T x, T y]) Try.func26 rfl Try.ntmps26 s26_ok (by simp) ⟨rfl, fun _ h => h⟩ (fun _ _ h => h) (go_ok _ 100 _ _ ?_)
  simp only [go_sem, s26, k26, Nat.reduceBEq, Nat.reduceAdd, Nat.zero_add]
  refine (stp_call [0, 1] (args := [.ptr 0 b 0]) rfl rfl rfl ⟨_, Try.func41, rfl, rfl⟩ (c41 b r ⟨hr.d0, by have := hr.d1; omega⟩ hr.lf) rfl (fun _ h => h) rfl (fun _ _ h => h) ?_).safe trivial
  rintro v hp ⟨rfl, rfl⟩
  have hb := hr.begun
  have hln := hb.ln
  have eps := rbegun_ps r
  have hfs : r.ps.fs = r.begun.ps.fs := by simp only [RS.ps, (rbegun_same r).2.1]
  have hrr : r.ps.rren x y = if r.begun.dead then ((13 : Int), r.begun.ps) else if (nameB x && nameB y) = false then (1, r.begun.ps) else match getF r.begun.ps.fs x with | none => (2, r.begun.ps) | some f => (0, { r.begun.ps with fs := withF (withoutF r.begun.ps.fs x) { f with nm := y } }) := by
    unfold PS.rren
    rw [← eps, hfs]
    rfl
  rw [hrr] at fin
  clear hrr eps hfs
  generalize r.begun = r1 at fin hb hln ⊢
  refine ⟨trivial, go_ok _ 100 _ _ ?_⟩
  simp only [go_sem, Bool.not_not, Nat.reduceBEq, Try.results26]
  refine ⟨fun hd => ?_, fun hd => ?_⟩
  · rw [hd] at fin
    exact fin _ _ _ (Sees.refl _) ⟨rfl, r1, rfl, rfl⟩
  rw [hd] at fin
  simp only [Bool.false_eq_true, if_false] at fin
  refine (stp_call [] (args := [T x]) rfl rfl rfl ⟨_, Try.func34, rfl, rfl⟩ (c34 x hx) rfl (fun _ h => h) rfl (fun _ _ h => h) ?_).safe trivial
  rintro v hp ⟨rfl, rfl⟩
  cases hnx : nameB x with
  | false =>
    rw [hnx] at fin
    refine ⟨trivial, go_ok _ 100 _ _ ?_⟩
    simp only [go_sem, Bool.not_false, reduceCtorEq, Nat.reduceBEq, Try.results26]
    simp only [Bool.false_and, if_true] at fin
    exact ⟨fin _ _ _ (Sees.refl _) ⟨rfl, r1, rfl, rfl⟩, rfl⟩
  | true =>
    refine ⟨trivial, go_ok _ 100 _ _ ?_⟩
    simp only [go_sem, Bool.not_true, reduceCtorEq, Nat.reduceBEq, Try.results26]
    refine ⟨?_, rfl⟩
    refine Stp.safeOn ?_ trivial
    refine stp_call [] (args := [T y]) rfl rfl rfl ⟨_, Try.func34, rfl, rfl⟩ (c34 y hy) rfl (fun _ h => unc_oks h) rfl (fun _ _ h => h) ?_
    rintro v hp ⟨rfl, rfl⟩
    cases hny : nameB y with
    | false =>
      rw [hnx, hny] at fin
      refine ⟨trivial, go_ok _ 100 _ _ ?_⟩
      simp only [go_sem, Bool.not_false, reduceCtorEq, Nat.reduceBEq, Try.results26]
      exact fin _ _ _ (Sees.refl _) ⟨rfl, r1, rfl, rfl⟩
    | true =>
      rw [hnx, hny] at fin
      simp only [Bool.and_self, Bool.true_eq_false, if_false] at fin
      refine ⟨trivial, go_ok _ 100 _ _ ?_⟩
      simp only [go_sem, Bool.not_true, Nat.reduceBEq, Try.results26]
      refine (stp_call [0, 1] (args := [.ptr 0 b 0, T x]) rfl rfl rfl ⟨_, Try.func42, rfl, rfl⟩ (c42 b r1 x (by omega)) rfl (fun _ h => h) rfl (fun _ _ h => h) ?_).safe trivial
      rintro v hp ⟨rfl, rfl⟩
      rcases fndR_get r1.L x with ⟨h1, h2⟩ | ⟨i, h1, h2, h3⟩
      · have hat : atV r1.L x = -1 := by rw [atV, h1]
        rw [hat]
        rw [show getF r1.ps.fs x = none from h2] at fin
        have q : decide ((-1 : Int) < 0) = true := by decide
        refine ⟨trivial, go_ok _ 100 _ _ ?_⟩
        simp only [go_sem, q, reduceCtorEq, Nat.reduceBEq, Nat.reduceAdd, Nat.zero_add, Try.results26]
        exact fin _ _ _ (Sees.refl _) ⟨rfl, r1, rfl, rfl⟩
      · have hat : atV r1.L x = i := by rw [atV, h1]
        rw [hat]
        rw [show getF r1.ps.fs x = _ from h3] at fin
        have q : decide ((i : Int) < 0) = false := by simp
        refine ⟨trivial, go_ok _ 100 _ _ ?_⟩
        simp only [go_sem, q, Nat.reduceBEq, Nat.reduceAdd, Nat.zero_add, Try.results26, Int.toNat_natCast]
        refine ⟨by omega, ⟨h2, by decide⟩, fun b8 => ?_⟩
        generalize r1.L.getD i default = f at fin ⊢
        refine (stp_call [1] (args := [.osl 0 r1.nl r1.fb r1.off r1.L.length r1.cap, T x]) rfl rfl rfl ⟨_, Try.func45, rfl, rfl⟩ (c45 3 r1.nl r1.fb r1.off r1.cap r1.L x (by omega)) rfl (fun _ h => by simp only [SV.oks, SV.ok] at h ⊢; exact h) rfl (fun ro H h => h) ?_).safe trivial
        rintro v hp ⟨nl3, fb3, off3, cap3, rfl, rfl⟩
        have hwl := without_le r1.L x
        refine ⟨by simp only [go_sem, Nat.reduceBEq], ?_⟩
        let f' : RF := ⟨y, f.a, f.cap, f.xs, f.syn⟩
        refine (stp_call [3] (args := [.osl 0 nl3 fb3 off3 (withoutR r1.L x).length cap3, .agg (encR f')]) rfl rfl rfl ⟨_, Try.func43, rfl, rfl⟩ (c43 3 nl3 fb3 off3 cap3 (withoutR r1.L x) f' (by omega)) rfl (fun _ h => by simp only [SV.oks, SV.ok, encR] at h ⊢; exact h) rfl (fun ro H h => h) ?_).safe trivial
        rintro v hp ⟨nl4, fb4, off4, cap4, rfl, rfl⟩
        refine ⟨by simp only [go_sem, Nat.reduceBEq], go_ok _ 100 _ _ ?_⟩
        simp only [go_sem, Nat.reduceBEq, Nat.zero_add, Try.results26]
        refine fin _ _ (rO b { r1 with nl := nl4, fb := fb4, off := off4, cap := cap4, L := withR (withoutR r1.L x) f' }) ?_ ⟨rfl, _, ?_, rfl⟩
        · refine Sees.trans (Sees.perm (b := [.cells b 63 [.osl 3 nl4 fb4 off4 (withR (withoutR r1.L x) f').length cap4, I r1.room, I r1.did, I r1.left, Bl r1.dead], .cells b8 82 (encR f'), .row nl4 fb4 82 off4 3 (withR (withoutR r1.L x) f').length cap4 (rowsV encR (withR (withoutR r1.L x) f')), .row r1.nl r1.fb 82 r1.off 3 r1.L.length r1.cap (rowsV encR r1.L)]) (List.Perm.cons _ ?_)) ?_
          · exact (List.Perm.swap _ _ _).trans (List.Perm.cons _ (List.Perm.swap _ _ _))
          · exact Sees.trans (Sees.left (a := [_, _, _]) (X := [_])) (Sees.swapR (r := { r1 with nl := nl4, fb := fb4, off := off4, cap := cap4, L := withR (withoutR r1.L x) f' }) _)
        · simp only [RS.ps, with_fs, without_fs]
          rfl
def PS.rread (p : PS) (x : List UInt8) : List UInt8 × Int := if p.dead then ([], 13) else if nameB x = false then ([], 1) else match getF p.fs x with | none => ([], 2) | some f => (f.xs, 0)
theorem c28 (b n c : Nat) (r : RS) (x : List UInt8) (hr : RInv r n) (hn : n ≤ 2 ^ 19) (hx : x.length < 2 ^ 62) : Spec Try.prog E 28 [.ptr 0 b 0, T x] (rO b r)
    (fun v hp => ∃ nl b' off cap, v = .tup [.osl c nl b' off (r.ps.rread x).1.length cap, I (r.ps.rread x).2] ∧ hp = rO b r ++ [.row nl b' 5 off 1 (r.ps.rread x).1.length cap (rowsV encB (r.ps.rread x).1)]) := by
  refine Spec.see2 ?_
  generalize hP : SeeP _ = P
  have bad : ∀ (e : Int), r.ps.rread x = ([], e) → P (.tup [.view none 0 0 1 (fun _ _ => .val undef), I e]) (rO b r) := by
    intro e he
    rw [← hP]
    refine ⟨.tup [.osl c true 0 0 0 0, I e], rO b r ++ [.row true 0 5 0 1 0 0 (rowsV encB [])], rfl, fun _ _ => by simp [SV.ok, SV.oks], ?_, true, 0, 0, 0, by rw [he]; rfl, by rw [he]; rfl⟩
    refine Sees.trans (Sees.new (x := .row true 0 5 0 1 0 0 (rowsV encB [])) (fun ro => rowB_nil ro 0 5 0 1 (rowsV encB [])) (Sees.refl (rO b r))) (Sees.perm ?_)
    exact (List.perm_append_singleton _ _).symm
  have hln := hr.ln
  refine spec_of (keep := k28) (args' := [.ptr 0 b 0, T x]) Try.func28 rfl Try.ntmps28 s28_ok (by simp) ⟨rfl, fun _ h => h⟩ (fun _ _ h => h) (go_ok _ 100 _ _ ?_)
  simp only [go_sem, s28, k28, Nat.reduceBEq, Nat.zero_add, Try.results28]
  refine ⟨fun hd => bad 13 (by unfold PS.rread; rw [if_pos (show r.ps.dead = true from hd)]), fun hd => ?_⟩
  refine (stp_call [] (args := [T x]) rfl rfl rfl ⟨_, Try.func34, rfl, rfl⟩ (c34 x hx) rfl (fun _ h => h) rfl (fun _ _ h => h) ?_).safe trivial
  rintro v hp ⟨rfl, rfl⟩
  have hrd : r.ps.rread x = if nameB x = false then (([] : List UInt8), (1 : Int)) else match getF r.ps.fs x with | none => ([], 2) | some f => (f.xs, 0) := by
    unfold PS.rread
    rw [if_neg (show ¬ r.ps.dead = true by rw [show r.ps.dead = r.dead from rfl, hd]; simp)]
  cases hnm : nameB x with
  | false =>
    refine ⟨trivial, go_ok _ 100 _ _ ?_⟩
    simp only [go_sem, Bool.not_false, reduceCtorEq, Nat.reduceBEq, Try.results28]
    exact bad 1 (by rw [hrd, if_pos hnm])
  | true =>
    rw [if_neg (show ¬ nameB x = false by simp [hnm])] at hrd
    refine ⟨trivial, go_ok _ 100 _ _ ?_⟩
    simp only [go_sem, Bool.not_true, Nat.reduceBEq, Try.results28]
    refine (stp_call [0, 1] (args := [.ptr 0 b 0, T x]) rfl rfl rfl ⟨_, Try.func42, rfl, rfl⟩ (c42 b r x (by omega)) rfl (fun _ h => h) rfl (fun _ _ h => h) ?_).safe trivial
    rintro v hp ⟨rfl, rfl⟩
    rcases fndR_get r.L x with ⟨h1, h2⟩ | ⟨i, h1, h2, h3⟩
    · have hat : atV r.L x = -1 := by rw [atV, h1]
      rw [hat]
      have q : decide ((-1 : Int) < 0) = true := by decide
      refine ⟨trivial, go_ok _ 100 _ _ ?_⟩
      simp only [go_sem, q, reduceCtorEq, Nat.reduceBEq, Nat.reduceAdd, Nat.zero_add, Try.results28]
      exact bad 2 (by rw [hrd, show getF r.ps.fs x = none from h2])
    · have hat : atV r.L x = i := by rw [atV, h1]
      rw [hat]
      have q : decide ((i : Int) < 0) = false := by simp
      have hmem : (r.L.getD i default) ∈ r.L := by rw [List.getD_eq_getElem?_getD, List.getElem?_eq_getElem h2]; exact List.getElem_mem h2
      have hle : (r.L.getD i default).xs.length ≤ sumF r.ps.fs := by
        rw [← used_ps]
        exact mem_le_sum (List.mem_map.2 ⟨_, hmem, rfl⟩)
      have hus := hr.us
      refine ⟨trivial, go_ok _ 100 _ _ ?_⟩
      simp only [go_sem, q, Nat.reduceBEq, Nat.reduceAdd, Nat.zero_add, Try.results28, Int.toNat_natCast]
      intro b3
      refine ⟨by omega, ⟨h2, by decide⟩, ?_⟩
      rw [show getF r.ps.fs x = _ from h3] at hrd
      generalize r.L.getD i default = f at hle hrd ⊢
      refine (stp_app2 (c := 2) (b := b3) (off := 0) (nl := false) (n := 0) (cap := 0) (x := vB f.a f.cap f.xs) (gx := rowsV encB f.xs) (m := f.xs.length) (f := litF 1 []) (f2 := rowsV encB f.xs) (N := f.xs.length) rfl rfl rfl rfl rfl (onesF_rows fun x => ⟨rfl, by simp [encB, ones, one, Value.oneCell']⟩) (by omega) (by simp) (fun i j hi hj => by rw [appF_zero]) fun nl1 bo1 off1 cap1 => ?_).safe trivial
      refine ⟨trivial, go_ok _ 100 _ _ ?_⟩
      simp only [go_sem, Nat.reduceBEq, Try.results28]
      rw [← hP]
      refine ⟨.tup [.osl c nl1 bo1 off1 f.xs.length cap1, I 0], _, rfl, fun _ _ => by simp [SV.ok, SV.oks], Sees.refl _, nl1, bo1, off1, cap1, ?_, ?_⟩
      · rw [hrd]; rfl
      · rw [hrd]; rfl
end Go.SX

/- The document's disk: List, Crash. -/
namespace Go.SX
open Go.Proofs
set_option maxRecDepth 1000000
variable {E : Env}

theorem safe_rowview {S : Setup} {k : List Frag} {st : St} {c b off sz n cap i j m cap' sz' : Nat} {nl : Bool} {T : TypeId} {f g : Nat → Nat → SV} {ad : Option Addr} (hc : getC st.heap c = .row nl b T off sz n cap f) (hi : i < n) (hj : j < sz) (hf : f i j = .view ad m cap' sz' g) (h : m ≤ cap' → Safe S k st) : Safe S k st := by
  rintro ro0 F a w ⟨ro, H, hle, gg⟩
  obtain ⟨_, arr, fz, _, _, _, _, h4, _⟩ := gg.row hc (by omega)
  have h5 := (h4 i j hi hj).2
  rw [hf] at h5
  simp only [SV.ok] at h5
  exact h h5.1 ro0 F a w ⟨ro, H, hle, gg⟩
def PS.rlist (p : PS) : List (List UInt8) × Int := if p.dead then ([], 13) else (p.fs.map (·.nm), 0)
structure W29 (l : List RF) where
  p : Nat
  nl : Bool
  fb : Nat
  off : Nat
  cap : Nat
  hp : p ≤ l.length
theorem c29 (b n c : Nat) (r : RS) (hr : RInv r n) (hn : n ≤ 2 ^ 19) : Spec Try.prog E 29 [.ptr 0 b 0] (rO b r)
    (fun v hp => ∃ nl b' off cap, v = .tup [.osl c nl b' off (r.ps.rlist).1.length cap, I (r.ps.rlist).2] ∧ hp = rO b r ++ [.row nl b' 9 off 1 (r.ps.rlist).1.length cap (rowsV encT (r.ps.rlist).1)]) := by
  refine Spec.see2 ?_
  generalize hP : SeeP _ = P
  have hln := hr.ln
  refine spec_of (keep := k29) (args' := [.ptr 0 b 0]) Try.func29 rfl Try.ntmps29 s29_ok (by simp) ⟨rfl, fun _ h => h⟩ (fun _ _ h => h) (go_ok _ 100 _ _ ?_)
  simp only [go_sem, s29, k29, Nat.reduceBEq, Nat.zero_add, Try.results29]
  refine ⟨fun hd => ?_, fun hd => ?_⟩
  · rw [← hP]
    have e : r.ps.rlist = ([], 13) := by unfold PS.rlist; rw [if_pos (show r.ps.dead = true from hd)]
    refine ⟨.tup [.osl c true 0 0 0 0, I 13], rO b r ++ [.row true 0 9 0 1 0 0 (rowsV encT [])], rfl, fun _ _ => by simp [SV.ok, SV.oks], ?_, true, 0, 0, 0, by rw [e]; rfl, by rw [e]; rfl⟩
    refine Sees.trans (Sees.new (x := .row true 0 9 0 1 0 0 (rowsV encT [])) (fun ro => rowB_nil ro 0 9 0 1 (rowsV encT [])) (Sees.refl (rO b r))) (Sees.perm ?_)
    exact (List.perm_append_singleton _ _).symm
  · refine safe_nilrow 0 9 0 1 (rowsV encT []) (env' := [(0, .ptr 0 b 0), (2, nilS), (3, I 0), (4, .osl 2 true 0 0 0 0), (5, I 0)]) ⟨rfl, .inl rfl, rfl, .inl rfl, rfl, .inl rfl, rfl, .inr ⟨⟨_, _, rfl⟩, rfl⟩, rfl, .inl rfl, trivial⟩ ?_
    refine safe_loop (ι := W29 r.L) (fun g => ⟨[(0, .ptr 0 b 0), (4, .osl 2 g.nl g.fb g.off ((r.L.take g.p).map (·.nm)).length g.cap), (5, I g.p)], rO b r ++ [.row g.nl g.fb 9 g.off 1 ((r.L.take g.p).map (·.nm)).length g.cap (rowsV encT ((r.L.take g.p).map (·.nm)))]⟩) (fun g => r.L.length - g.p)
      ⟨0, true, 0, 0, 0, Nat.zero_le _⟩ (Sub.front (X := []) ⟨rfl, rfl, rfl, trivial⟩ rfl) ?_
    intro g
    have hgp := g.hp
    refine go_ok _ 100 _ _ ?_
    simp only [go_sem, List.cons_append, List.nil_append, Nat.reduceBEq, Nat.reduceAdd, Nat.zero_add, Try.results29, Int.toNat_natCast]
    refine ⟨fun h => ?_, fun h => ?_⟩
    · have hlt : g.p < r.L.length := by simpa using h
      refine ⟨by omega, ⟨hlt, by decide⟩, fun b2 => ?_⟩
      have hs : (r.L.take (g.p + 1)).map (·.nm) = (r.L.take g.p).map (·.nm) ++ [(r.L.getD g.p default).nm] := by rw [take_succ' hlt, List.map_append]; rfl
      have hw : ((r.L.take g.p).map (·.nm)).length ≤ g.p := by simp; omega
      generalize (r.L.take g.p).map (·.nm) = acc at hs hw ⊢
      generalize (r.L.getD g.p default).nm = x at hs ⊢
      refine (stp_app2 (c := 2) (b := g.fb) (off := g.off) (nl := g.nl) (n := acc.length) (cap := g.cap) (x := .osl 3 false b2 0 1 1) (gx := litF 1 (encT x)) (m := 1) (f := rowsV encT acc) (f2 := rowsV encT (acc ++ [x])) (N := (acc ++ [x]).length) rfl rfl rfl rfl ⟨rfl, rfl, rfl, rfl, Nat.le_refl _⟩
          (fun i j hi hj => ?_) (by omega) (by simp) (fun i j hi hj => app_one i j (by simpa using hi) hj) fun nl' b' off' cap' => ?_).safe trivial
      · obtain rfl : i = 0 := by omega
        obtain rfl : j = 0 := by omega
        simp [litF, encT, one, Value.oneCell']
      refine ⟨trivial, go_ok _ 100 _ _ ?_⟩
      simp only [go_sem, Nat.reduceBEq]
      refine ⟨by simp only [inI64]; omega, ?_⟩
      exact safe_lend ⟨g.p + 1, nl', b', off', cap', hlt⟩ (by simp only; omega) (Sub.front (X := [_]) ⟨rfl, by simp only [hs]; rfl, rfl, trivial⟩ (by simp only [hs]; rfl))
    · have hpl : g.p = r.L.length := by have := of_decide_eq_false h; omega
      rw [hpl, List.take_length, ← hP]
      have e : r.ps.rlist = (r.L.map (·.nm), 0) := by
        unfold PS.rlist
        rw [if_neg (show ¬ r.ps.dead = true by rw [show r.ps.dead = r.dead from rfl, hd]; simp)]
        simp only [RS.ps, List.map_map]
        rfl
      refine ⟨.tup [.osl c g.nl g.fb g.off (r.L.map (·.nm)).length g.cap, I 0], _, rfl, fun _ _ => by simp [SV.ok, SV.oks], Sees.refl _, g.nl, g.fb, g.off, g.cap, by rw [e], by rw [e]; rfl⟩

/-- one file behind a crash, and how many were cut -/
def crash1 (picks : List Int) (s : List FS × Nat) (f : FS) : List FS × Nat := if f.xs.length = f.syn then (s.1 ++ [f], s.2) else (s.1 ++ [f.crashed picks s.2], s.2 + 1)
def crashR (picks : List Int) (l : List FS) : List FS × Nat := l.foldl (crash1 picks) ([], 0)
theorem crashR_snoc (picks : List Int) (l : List FS) (f : FS) : crashR picks (l ++ [f]) = crash1 picks (crashR picks l) f := by simp [crashR]
theorem kR_eq {p : Int} {m : Nat} : (if p.tmod ((m : Int) + 1) < 0 then p.tmod ((m : Int) + 1) + m + 1 else p.tmod ((m : Int) + 1)) = ((p.tmod ((m : Int) + 1) + m) + 1).tmod ((m : Int) + 1) := by
  obtain ⟨h1, h2⟩ := tmod_bd p m
  generalize p.tmod ((m : Int) + 1) = t at h1 h2
  rw [Int.tmod_eq_emod_of_nonneg (show 0 ≤ t + m + 1 by omega)]
  split
  · rw [Int.emod_eq_of_lt (by omega) (by omega)]
  · rw [show t + m + 1 = t + (m + 1) by omega, Int.add_emod_right, Int.emod_eq_of_lt (by omega) h2]
def PS.rcrash (p : PS) (picks : List Int) : Nat × PS := ((crashR picks p.fs).2, { p with left := 0, dead := false, fs := (crashR picks p.fs).1 })
structure W31 (L0 : List RF) (picks : List Int) where
  i : Nat
  n : Nat
  A : List RF
  hi : i ≤ L0.length
  hA : A.length = i
  hn : n ≤ i
  hc : crashR picks ((L0.take i).map RF.fs) = (A.map RF.fs, n)
@[go_sem] theorem updF_hit (f : Nat → Nat → SV) (i j : Nat) (v : SV) : updF f i j [v] i j = v := by
  have h1 : Nat.ble j j = true := Nat.ble_self_eq_true j
  have h2 : Nat.blt j (j + 1) = true := Nat.ble_self_eq_true (j + 1)
  simp [updF, h1, h2]
theorem row_imp {ro : RO} {H : Hp} {nl : Bool} {b : Nat} {t : TypeId} {off sz n cap : Nat} {f f' : Nat → Nat → SV} (h : ∀ i j, i < n → j < sz → (f' i j).den = (f i j).den ∧ ((f i j).ok ro → (f' i j).ok ro)) (hs : (Chunk.row nl b t off sz n cap f).sat ro H) : (Chunk.row nl b t off sz n cap f').sat ro H := by
  cases nl with
  | true => exact hs
  | false =>
    obtain ⟨arr, fz, rfl, h0, h1, h2, h3⟩ := hs
    refine ⟨arr, fz, rfl, h0, h1, h2, fun i j hi hj => ?_⟩
    obtain ⟨e, k⟩ := h i j hi hj
    rw [e]
    exact ⟨(h3 i j hi hj).1, k (h3 i j hi hj).2⟩
theorem row_cut {ro : RO} {H : Hp} {nl : Bool} {b off capr : Nat} {l : List RF} {i m : Nat} {f : RF} {ad : Option Addr} {cap : Nat} {g : Nat → Nat → SV} (hi : i < l.length) (hf : l.getD i default = f) (hm : m ≤ f.xs.length) (hg : g = rowsV encB f.xs)
    (hs : (Chunk.row nl b 82 off 3 l.length capr (updF (updF (rowsV encR l) i 1 [.view ad m cap 1 g]) i 2 [I m])).sat ro H) : (Chunk.row nl b 82 off 3 l.length capr (rowsV encR (l.set i ⟨f.nm, ad, cap, f.xs.take m, m⟩))).sat ro H := by
  subst hg hf
  refine row_imp (fun k j hk hj => ?_) hs
  by_cases h : k = i
  · subst h
    have e : (l.set k ⟨(l.getD k default).nm, ad, cap, (l.getD k default).xs.take m, m⟩).getD k default = ⟨(l.getD k default).nm, ad, cap, (l.getD k default).xs.take m, m⟩ := by simp [List.getD_eq_getElem?_getD, hk]
    rcases j with _ | _ | _ | j
    · rw [rowsV, e]
      have e2 : updF (updF (rowsV encR l) k 1 [.view ad m cap 1 (rowsV encB (l.getD k default).xs)]) k 2 [I m] k 0 = T (l.getD k default).nm := by
        simp only [updF, BEq.rfl]
        rfl
      rw [e2]
      exact ⟨rfl, fun h => h⟩
    · rw [rowsV, e]
      have e2 : updF (updF (rowsV encR l) k 1 [.view ad m cap 1 (rowsV encB (l.getD k default).xs)]) k 2 [I m] k 1 = .view ad m cap 1 (rowsV encB (l.getD k default).xs) := by
        simp only [updF, BEq.rfl]
        rfl
      show (vB ad cap ((l.getD k default).xs.take m)).den = _ ∧ (_ → (vB ad cap ((l.getD k default).xs.take m)).ok ro)
      have hlen : ((l.getD k default).xs.take m).length = m := by rw [List.length_take]; exact Nat.min_eq_left hm
      rw [Nat.zero_add, e2]
      simp only [SV.den, SV.ok, hlen, true_and]
      rintro ⟨h1, h2⟩
      refine ⟨h1, fun i j hi hj => ?_⟩
      have e : rowsV encB ((l.getD k default).xs.take m) i j = rowsV encB (l.getD k default).xs i j := by
        simp only [rowsV, List.getD_eq_getElem?_getD, List.getElem?_take, hi, if_true]
      rw [e]
      exact h2 i j hi hj
    · rw [rowsV, e]
      have e2 : updF (updF (rowsV encR l) k 1 [.view ad m cap 1 (rowsV encB (l.getD k default).xs)]) k 2 [I m] k (0 + 1 + 1) = I m := updF_hit _ _ _ _
      rw [e2]
      exact ⟨rfl, fun h => h⟩
    · omega
  · have e : (l.set i ⟨(l.getD i default).nm, ad, cap, (l.getD i default).xs.take m, m⟩).getD k default = l.getD k default := by simp [List.getD_eq_getElem?_getD, Ne.symm h]
    have e2 : (k == i) = false := by simpa using h
    simp only [updF, e2, Bool.false_and, cond_false]
    rw [rowsV, e]
    exact ⟨rfl, fun h => h⟩
set_option maxHeartbeats 2000000 in
theorem c31 (b n : Nat) (r : RS) (a : Option Addr) (cap : Nat) (picks : List Int) (hr : RInv r n) (hn : n ≤ 2 ^ 19) (hsy : ∀ f ∈ r.L, f.syn ≤ f.xs.length) :
    Spec Try.prog E 31 [.ptr 0 b 0, vI a cap picks] (rO b r) (ROp b (((r.ps.rcrash picks).1 : Nat), (r.ps.rcrash picks).2)) := by
  refine Spec.see2 ?_
  generalize hP : SeeP _ = P
  have hln := hr.ln
  have hus := hr.us
  refine spec_of (keep := k31) (args' := [.ptr 0 b 0, vI a cap picks]) Try.func31 rfl Try.ntmps31 s31_ok (by simp) ⟨rfl, fun _ h => h⟩ (fun _ _ h => h) (go_ok _ 100 _ _ ?_)
  simp only [go_sem, s31, k31, Nat.reduceBEq, Nat.zero_add]
  have hlen : ∀ g : W31 r.L picks, (g.A ++ r.L.drop g.i).length = r.L.length := fun g => by have := g.hi; have := g.hA; simp; omega
  refine safe_loop (ι := W31 r.L picks) (fun g => ⟨[(0, .ptr 0 b 0), (1, vI a cap picks), (5, I g.n), (6, I g.i)], rO b { r with L := g.A ++ r.L.drop g.i }⟩) (fun g => r.L.length - g.i)
    ⟨0, 0, [], Nat.zero_le _, rfl, Nat.le_refl _, rfl⟩ (Sub.front (X := []) ⟨rfl, rfl, rfl, rfl, trivial⟩ rfl) ?_
  intro g
  have hgi := g.hi
  have hgn := g.hn
  have hgA := g.hA
  have hgl := hlen g
  refine go_ok _ 12 _ _ ?_
  simp only [go_sem, hgl, Nat.reduceBEq, Nat.zero_add]
  refine ⟨fun h => ?_, fun h => ?_⟩
  · have hlt : g.i < r.L.length := by simpa using h
    obtain ⟨f, hfe⟩ : ∃ f, (g.A ++ r.L.drop g.i).getD g.i default = f := ⟨_, rfl⟩
    have hfL : r.L[g.i]? = some f := by
      rw [List.getD_eq_getElem?_getD, List.getElem?_append_right (by omega), hgA, Nat.sub_self, List.getElem?_drop, Nat.add_zero, List.getElem?_eq_getElem hlt, Option.getD_some] at hfe
      rw [List.getElem?_eq_getElem hlt, hfe]
    have hfm : f ∈ r.L := List.mem_of_getElem? hfL
    have hfs := hsy f hfm
    have hfx : f.xs.length ≤ 2 ^ 30 := by
      have : f.fs.xs.length ≤ sumF r.ps.fs := mem_le_sum (List.mem_map.2 ⟨f.fs, List.mem_map_of_mem hfm, rfl⟩)
      have h2 : f.fs.xs.length = f.xs.length := rfl
      omega
    have htk : (r.L.take (g.i + 1)).map RF.fs = (r.L.take g.i).map RF.fs ++ [f.fs] := by rw [List.take_add_one, hfL]; simp
    have hcn : crashR picks ((r.L.take (g.i + 1)).map RF.fs) = crash1 picks (g.A.map RF.fs, g.n) f.fs := by rw [htk, crashR_snoc, g.hc]
    have hdr : r.L.drop g.i = f :: r.L.drop (g.i + 1) := by rw [List.drop_eq_getElem_cons hlt, (List.getElem_eq_iff hlt).2 hfL]
    have hset : ∀ f', (g.A ++ r.L.drop g.i).set g.i f' = (g.A ++ [f']) ++ r.L.drop (g.i + 1) := fun f' => by
      rw [List.set_append, if_neg (by omega), hgA, Nat.sub_self, hdr, List.append_assoc]
      rfl
    have hself : g.A ++ r.L.drop g.i = (g.A ++ [f]) ++ r.L.drop (g.i + 1) := by
      rw [hdr, List.append_assoc]
      rfl
    generalize hC : g.A ++ r.L.drop g.i = C at hfe hset hself hgl ⊢
    refine go_ok _ 28 _ _ ?_
    simp only [go_sem, hfe, Nat.reduceBEq, Nat.zero_add, Int.toNat_natCast]
    refine ⟨by omega, ⟨hlt, by decide⟩, by omega, ⟨hlt, by decide⟩, ?_⟩
    refine ⟨by simp only [inI64]; omega, go_ok _ 8 _ _ ?_⟩
    simp only [go_sem, Nat.reduceBEq]
    refine ⟨fun h0 => ?_, fun h0 => ?_⟩
    · have h0 : f.xs.length = f.syn := by simp at h0; omega
      refine ⟨by simp only [inI64]; omega, go_ok _ 100 _ _ ?_⟩
      simp only [go_sem, Nat.reduceBEq]
      exact safe_lend ⟨g.i + 1, g.n, g.A ++ [f], hlt, by simp [hgA], by omega, by rw [hcn, crash1, if_pos (show f.fs.xs.length = f.fs.syn from h0)]; simp⟩ (by simp only; omega) (Sub.front (X := []) ⟨rfl, rfl, rfl, rfl, trivial⟩ (by simp only [← hself, hgl]; rfl))
    · have hne : f.xs.length ≠ f.syn := by have := of_decide_eq_false h0; omega
      have hK := crashK_le picks g.n (f.xs.length - f.syn)
      have hgi30 : g.i ≤ 2 ^ 30 := by omega
      refine go_ok _ 9 _ _ ?_
      simp only [go_sem, Nat.reduceBEq]
      refine safe_cond_mid (p := decide ((g.n : Int) < picks.length)) ⟨[(0, .ptr 0 b 0), (1, vI a cap picks), (5, I g.n), (6, I g.i), (8, I (crashK picks g.n (f.xs.length - f.syn)))],
        [.cells b 63 [.osl 1 r.nl r.fb r.off r.L.length r.cap, I r.room, I r.did, I r.left, Bl r.dead], .row r.nl r.fb 82 r.off 3 r.L.length r.cap (rowsV encR C)]⟩ rfl ?_ ?_ ?_
      · have hcr : f.fs.crashed picks g.n = ⟨f.nm, f.xs.take (f.syn + (crashK picks g.n (f.xs.length - f.syn)).toNat), f.syn + (crashK picks g.n (f.xs.length - f.syn)).toNat⟩ := rfl
        generalize crashK picks g.n (f.xs.length - f.syn) = K at hK hcr
        obtain ⟨k, rfl⟩ : ∃ k : Nat, K = k := ⟨K.toNat, by omega⟩
        rw [Int.toNat_natCast] at hcr
        refine safe_rowview (c := 1) (i := g.i) (j := 1) rfl (by omega) (by decide) (by simp only [rowsV, hfe]; rfl) fun hcap => go_ok _ 100 _ _ ?_
        simp only [go_sem, hfe, Nat.reduceBEq, Nat.zero_add, Int.toNat_natCast]
        have e1 : ((f.syn : Int) + k).toNat - Int.toNat 0 = f.syn + k := by simp; omega
        rw [e1]
        refine ⟨by simp only [inI64]; omega, by omega, ⟨hlt, by decide⟩, by omega, ⟨hlt, by decide⟩, by simp only [inI64]; omega, ?_, by omega, ⟨hlt, by decide⟩, by omega, ⟨hlt, by decide⟩, by omega, ⟨hlt, by decide⟩, by simp only [inI64]; omega, ?_⟩
        · and_intros
          all_goals (first | omega | rfl | (intro; omega) | trivial)
        have hm : f.syn + k ≤ f.xs.length := by omega
        have hset' := hset ⟨f.nm, if (f.cap : Int) = 0 then f.a else f.a.map (·.add (Int.toNat 0 * 1)), f.cap - Int.toNat 0, f.xs.take (f.syn + k), f.syn + k⟩
        rw [← hgl]
        refine safe_sees (hp' := [_, .row r.nl r.fb 82 r.off 3 C.length r.cap (rowsV encR (C.set g.i ⟨f.nm, if (f.cap : Int) = 0 then f.a else f.a.map (·.add (Int.toNat 0 * 1)), f.cap - Int.toNat 0, f.xs.take (f.syn + k), f.syn + k⟩))]) (Sees.same (Sees.cons (fun ro H h => ⟨H, [], by simp, row_cut (by omega) hfe hm rfl h⟩) (Sees.refl []))) ?_
        rw [hset']
        have hfs' : RF.fs ⟨f.nm, if (f.cap : Int) = 0 then f.a else f.a.map (·.add (Int.toNat 0 * 1)), f.cap - Int.toNat 0, f.xs.take (f.syn + k), f.syn + k⟩ = f.fs.crashed picks g.n := hcr.symm
        generalize (⟨f.nm, if (f.cap : Int) = 0 then f.a else f.a.map (·.add (Int.toNat 0 * 1)), f.cap - Int.toNat 0, f.xs.take (f.syn + k), f.syn + k⟩ : RF) = f' at hset' hfs' ⊢
        exact safe_lend ⟨g.i + 1, g.n + 1, g.A ++ [f'], hlt, by simp [hgA], by omega, by rw [hcn, crash1, if_neg (show ¬ f.fs.xs.length = f.fs.syn from hne), ← hfs']; simp⟩ (by simp only; omega) (Sub.front (X := []) ⟨rfl, rfl, rfl, rfl, trivial⟩ (by simp only [← hset', List.length_set]; rfl))
      · intro h2 hrest
        have hnl : g.n < picks.length := by simpa using h2
        refine go_ok _ 16 _ _ ?_
        simp only [go_sem, Nat.reduceBEq, Int.toNat_natCast]
        obtain ⟨m, hm⟩ : ∃ m, f.xs.length - f.syn = m := ⟨_, rfl⟩
        have hmi : (f.xs.length : Int) - f.syn = m := by omega
        simp only [hmi]
        rw [hm] at hrest
        have hb := tmod_bd (picks.getD g.n 0) m
        have hk : crashK picks g.n m = (((picks.getD g.n 0).tmod ((m : Int) + 1) + m) + 1).tmod ((m : Int) + 1) := by rw [crashK, if_pos hnl]
        refine ⟨by omega, by decide, by simp only [inI64]; omega, by omega, ?_⟩
        refine safe_cond (p := decide ((picks.getD g.n 0).tmod ((m : Int) + 1) < 0)) rfl (fun h3 => ?_) (fun h3 => ?_)
        · have h3 := of_decide_eq_true h3
          refine go_ok _ 7 _ _ ?_
          simp only [go_sem, Nat.reduceBEq]
          have e3 : crashK picks g.n m = (picks.getD g.n 0).tmod ((m : Int) + 1) + m + 1 := by rw [hk, ← kR_eq, if_pos h3]
          rw [← e3]
          refine ⟨by simp only [inI64]; omega, by simp only [inI64]; omega, ?_⟩
          refine Safe.sub ?_ hrest
          exact Sub.front (X := []) ⟨rfl, rfl, rfl, rfl, rfl, trivial⟩ rfl
        · have h3 := of_decide_eq_false h3
          refine go_ok _ 1 _ _ ?_
          simp only [go_sem]
          have e3 : crashK picks g.n m = (picks.getD g.n 0).tmod ((m : Int) + 1) := by rw [hk, ← kR_eq, if_neg h3]
          rw [← e3]
          refine Safe.sub ?_ hrest
          exact Sub.front (X := []) ⟨rfl, rfl, rfl, rfl, rfl, trivial⟩ rfl
      · intro h2 hrest
        have hnl : ¬ g.n < picks.length := by have := of_decide_eq_false h2; omega
        refine go_ok _ 1 _ _ ?_
        simp only [go_sem]
        refine Safe.sub ?_ hrest
        exact Sub.front (X := []) ⟨rfl, rfl, rfl, rfl, by rw [crashK, if_neg hnl]; rfl, trivial⟩ rfl
  · have hil : g.i = r.L.length := by have := of_decide_eq_false h; omega
    have hA := g.hc
    rw [hil, List.take_length] at hA
    have hAd : g.A ++ r.L.drop g.i = g.A := by rw [hil, List.drop_length, List.append_nil]
    rw [hAd] at hgl
    rw [hAd, ← hgl]
    refine go_ok _ 100 _ _ ?_
    simp only [go_sem, Nat.reduceBEq, Nat.zero_add, Try.results31]
    rw [← hP]
    have e : r.ps.rcrash picks = (g.n, { r.ps with left := 0, dead := false, fs := g.A.map RF.fs }) := by
      simp only [PS.rcrash]
      rw [show r.ps.fs = r.L.map RF.fs from rfl, hA]
    exact ⟨I g.n, rO b { r with L := g.A, left := 0, dead := false }, rfl, fun _ h => h, Sees.refl _, by rw [e], { r with L := g.A, left := 0, dead := false }, by rw [e]; rfl, rfl⟩
end Go.SX

