/- Calls; slices that are made and grown. -/
import Derived.Test.YthlkoehifpnoeaaDoorSxJ
import Derived.Laws.AppendOwn
namespace Go.SX
section
variable {S : Setup} {k : List Frag} {st : St} {C : Ctx} {ro ro0 : RO} {H F : Hp} {a : Act} {w : World}

/-- the chunks that a call takes, and what it leaves in their places -/
def pick : List Chunk → List Nat → List Chunk
  | _, [] => []
  | cs, i :: is => getC cs i :: pick (setC cs i .emp) is
def place : List Chunk → List Nat → List Chunk → List Chunk
  | cs, i :: is, d :: ds => place (setC cs i d) is ds
  | cs, i :: is, [] => place (setC cs i .emp) is []
  | cs, [], ds => cs ++ ds

theorem setC_len : ∀ (cs : List Chunk) (n : Nat) (d : Chunk), (setC cs n d).length = cs.length
  | [], _, _ => rfl
  | _ :: _, 0, _ => rfl
  | _ :: cs, n + 1, d => by simp [setC, setC_len cs n d]
theorem setC_setC : ∀ (cs : List Chunk) (n : Nat) (d e : Chunk), setC (setC cs n d) n e = setC cs n e
  | [], _, _, _ => rfl
  | _ :: _, 0, _, _ => rfl
  | _ :: cs, n + 1, d, e => by simp [setC, setC_setC cs n d e]
theorem setC_comm : ∀ (cs : List Chunk) (n m : Nat) (d e : Chunk), n ≠ m → setC (setC cs n d) m e = setC (setC cs m e) n d
  | [], _, _, _, _, _ => rfl
  | _ :: _, 0, 0, _, _, h => absurd rfl h
  | _ :: _, 0, _ + 1, _, _, _ => rfl
  | _ :: _, _ + 1, 0, _, _, _ => rfl
  | _ :: cs, n + 1, m + 1, d, e, h => by simp [setC, setC_comm cs n m d e (by omega)]

def setCs : List Chunk → List Nat → List Chunk
  | cs, [] => cs
  | cs, i :: is => setCs (setC cs i .emp) is
theorem setCs_comm : ∀ (is : List Nat) (cs : List Chunk) (i : Nat) (d : Chunk), i ∉ is → setC (setCs cs is) i d = setCs (setC cs i d) is
  | [], _, _, _, _ => rfl
  | j :: is, cs, i, d, h => by
    simp only [List.mem_cons, not_or] at h
    rw [setCs, setCs_comm is _ i d h.2, setC_comm _ _ _ _ _ (fun e => h.1 e.symm), setCs]

theorem place_eq : ∀ (is : List Nat) (cs ds : List Chunk), is.Nodup → place cs is ds = place (setCs cs is) is ds
  | [], cs, ds, _ => by cases ds <;> rfl
  | i :: is, cs, ds, h => by
    obtain ⟨h1, h2⟩ := List.nodup_cons.1 h
    cases ds with
    | nil =>
      simp only [place]
      rw [place_eq is _ _ h2, setCs, setCs_comm is _ i .emp h1, setC_setC]
    | cons d ds =>
      simp only [place]
      rw [place_eq is _ _ h2, setCs, setCs_comm is _ i d h1, setC_setC]

/-- what a call takes can be taken -/
theorem hsat_pick : ∀ (is : List Nat) (cs : List Chunk) (H : Hp), hsat ro cs H → (∀ i ∈ is, i < cs.length) →
    ∃ H1 H2, H.Perm (H1 ++ H2) ∧ hsat ro (pick cs is) H1 ∧ hsat ro (setCs cs is) H2
  | [], cs, H, h, _ => ⟨[], H, List.Perm.refl _, rfl, h⟩
  | i :: is, cs, H, h, hlt => by
    obtain ⟨K1, K2, hp, hk, hput⟩ := hsat_at i h (hlt i (by simp))
    obtain ⟨K3, hp3, hs3⟩ := hput ro .emp [] (ROle.refl ro) rfl
    obtain ⟨L1, L2, hp4, h4, h5⟩ := hsat_pick is (setC cs i .emp) K3 hs3 (fun j hj => by rw [setC_len]; exact hlt j (by simp [hj]))
    refine ⟨K1 ++ L1, L2, ?_, ⟨K1, L1, rfl, hk, h4⟩, h5⟩
    refine hp.trans ?_
    rw [List.append_assoc]
    exact List.Perm.append_left K1 ((by simpa using hp3.symm : K2.Perm K3).trans hp4)

/-- and what it leaves is laid into the places -/
theorem hsat_place : ∀ (is : List Nat) (cs ds : List Chunk) (H1 H2 : Hp), is.Nodup → (∀ i ∈ is, i < cs.length) → (∀ i ∈ is, getC cs i = .emp) → hsat ro cs H2 → hsat ro ds H1 → ∃ H, H.Perm (H1 ++ H2) ∧ hsat ro (place cs is ds) H
  | [], cs, ds, H1, H2, _, _, _, h2, h1 => by
    refine ⟨H2 ++ H1, List.perm_append_comm, ?_⟩
    have : place cs [] ds = cs ++ ds := by cases ds <;> rfl
    rw [this]
    exact hsat_append.2 ⟨H2, H1, rfl, h2, h1⟩
  | i :: is, cs, [], H1, H2, hn, hlt, he, h2, h1 => by
    obtain ⟨n1, n2⟩ := List.nodup_cons.1 hn
    simp only [place]
    have e : setC cs i .emp = cs := by
      have := he i (by simp)
      have gen : ∀ (l : List Chunk) (n : Nat), n < l.length → getC l n = .emp → setC l n .emp = l := by
        intro l
        induction l with
        | nil => intro n hn; simp at hn
        | cons c l ih => intro n hn hc; cases n with
          | zero => simp only [getC] at hc; simp [setC, hc]
          | succ n => simp only [setC]; rw [ih n (by simpa using hn) (by simpa [getC] using hc)]
      exact gen cs i (hlt i (by simp)) this
    rw [e]
    exact hsat_place is cs [] H1 H2 n2 (fun j hj => hlt j (by simp [hj])) (fun j hj => he j (by simp [hj])) h2 h1
  | i :: is, cs, d :: ds, H1, H2, hn, hlt, he, h2, ⟨D1, D2, hD, hd, hds⟩ => by
    obtain ⟨n1, n2⟩ := List.nodup_cons.1 hn
    obtain ⟨K1, K2, hp, hk, hput⟩ := hsat_at i h2 (hlt i (by simp))
    rw [he i (by simp)] at hk
    have hk : K1 = [] := hk
    subst hk
    obtain ⟨K3, hp3, hs3⟩ := hput ro d D1 (ROle.refl ro) hd
    have getC_set : ∀ (l : List Chunk) (n m : Nat) (x : Chunk), n ≠ m → getC (setC l n x) m = getC l m := by
      intro l
      induction l with
      | nil => intro n m x _; rfl
      | cons c l ih => intro n m x h; cases n <;> cases m <;> first | exact absurd rfl h | rfl | (simp only [setC, getC]; exact ih _ _ x (by omega))
    obtain ⟨H', hp', hs'⟩ := hsat_place is (setC cs i d) ds D2 K3 n2 (fun j hj => by rw [setC_len]; exact hlt j (by simp [hj]))
      (fun j hj => by rw [getC_set cs i j d (fun e => n1 (by rw [e]; exact hj))]; exact he j (by simp [hj])) hs3 hds
    refine ⟨H', hp'.trans ?_, hs'⟩
    subst hD
    have q : K3.Perm (D1 ++ H2) := hp3.trans (List.Perm.append_left D1 (by simpa using hp.symm))
    refine (List.Perm.append_left D2 q).trans ?_
    rw [← List.append_assoc]
    exact List.Perm.append_right H2 List.perm_append_comm

theorem setCs_emp : ∀ (is : List Nat) (cs : List Chunk), (∀ i ∈ is, i < cs.length) → (∀ i, i ∈ is → getC (setCs cs is) i = .emp) ∧ (setCs cs is).length = cs.length
  | [], cs, _ => ⟨fun i h => by simp at h, rfl⟩
  | j :: is, cs, hlt => by
    obtain ⟨h1, h2⟩ := setCs_emp is (setC cs j .emp) (fun i hi => by rw [setC_len]; exact hlt i (by simp [hi]))
    refine ⟨fun i hi => ?_, by rw [setCs, h2, setC_len]⟩
    by_cases hin : i ∈ is
    · exact h1 i hin
    · have hij : i = j := by simpa [hin] using hi
      subst hij
      have gen : ∀ (is : List Nat) (l : List Chunk), i ∉ is → getC (setCs l is) i = getC l i := by
        intro is
        induction is with
        | nil => intro l _; rfl
        | cons m is ih =>
          intro l h
          simp only [List.mem_cons, not_or] at h
          rw [setCs, ih _ h.2]
          have getC_set : ∀ (l : List Chunk) (n m : Nat) (x : Chunk), n ≠ m → getC (setC l n x) m = getC l m := by
            intro l
            induction l with
            | nil => intro n m x _; rfl
            | cons c l ih => intro n m x h; cases n <;> cases m <;> first | exact absurd rfl h | rfl | (simp only [setC, getC]; exact ih _ _ x (by omega))
          exact getC_set _ _ _ _ (fun e => h.1 e.symm)
      rw [setCs, gen is _ hin]
      have same : ∀ (l : List Chunk) (n : Nat), n < l.length → getC (setC l n .emp) n = .emp := by
        intro l
        induction l with
        | nil => intro n hn; simp at hn
        | cons c l ih => intro n hn; cases n with
          | zero => rfl
          | succ n => exact ih n (by simpa using hn)
      exact same cs i (hlt i (by simp))

theorem callsIn_fw {rr : Option Nat} {n : Nat} {P : Program} {f : FuncId} {args : Array Value} {w : World} {R : Ending → World → Prop} (h : Calls P f args w R) : CallsIn (fw rr) n P f args w R :=
  (callsIn_wide (n := n)).2 h

/-- what is called: a function, and the values ahead of and behind the arguments -/
def calleeOf : SV → Option (Nat × List SV × List SV)
  | .fn (.func f) first cap => some (f, first, cap)
  | .cnd true (.fn (.func f) first cap) => some (f, first, cap)
  | _ => none

def callIdx (is : List Nat) (n : Nat) : Bool := decide is.Nodup && is.all (· < n)

/-- A call by a contract: 'is': the chunks that it takes. -/
theorem stp_call {d : Option Nat} {f : Opd} {xs : List Opd} {ps : List SOp} {l : List (SOp × List SOp)} {sf : SV} {fid : Nat} {first cap ss : List SV} (is : List Nat)
    (hf : opv st.env f = some sf) (hfn : calleeOf sf = some (fid, first, cap)) (hx : opvs st.env xs = some ss) (hbody : ∃ fn, S.C.P.funcs[fid]? = some fn ∧ fn.body.isSome = true ∧ (fn.name == "runtime.NumGoroutine") = false)
    {args : List SV} {heap : List Chunk} {Post : SV → List Chunk → Prop} (hspec : Spec S.C.P S.C.E fid args heap Post)
    (hargs : SV.dens args = SV.dens (first ++ ss ++ cap)) (hok : ∀ ro, SV.oks ro (first ++ ss ++ cap) → SV.oks ro args) (hidx : callIdx is st.heap.length = true)
    (hheap : ∀ ro H, hsat ro (pick st.heap is) H → hsat ro heap H)
    (h : ∀ v heap', Post v heap' → match d with
      | some d => recheck S.C ⟨(d, v) :: st.env, place st.heap is heap'⟩ ps ∧ Safe S (.ops l :: k) ⟨(d, v) :: st.env, place st.heap is heap'⟩
      | none => recheck S.C ⟨st.env, place st.heap is heap'⟩ ps ∧ Safe S (.ops l :: k) ⟨st.env, place st.heap is heap'⟩) :
    Stp S k l ps st (.call d f xs) := by
  intro ro0 F a w o hg he
  obtain ⟨f0, xs0, ts, i1, i2, i3, i4, i5⟩ := ceff_inv he
  obtain ⟨ro, H, hle, g⟩ := hg
  obtain ⟨e1, e2⟩ := opv_ok g i3 hf
  obtain ⟨e3, e4⟩ := opvs_ok g i4 hx
  have hsf : sf.den = (SV.fn (.func fid) first cap).den ∧ ∀ ro, sf.ok ro → (SV.fn (.func fid) first cap).ok ro := by
    unfold calleeOf at hfn
    split at hfn
    · simp only [Option.some.injEq, Prod.mk.injEq] at hfn
      obtain ⟨rfl, rfl, rfl⟩ := hfn
      exact ⟨rfl, fun _ h => h⟩
    · simp only [Option.some.injEq, Prod.mk.injEq] at hfn
      obtain ⟨rfl, rfl, rfl⟩ := hfn
      exact ⟨rfl, fun ro h => by simp only [SV.ok] at h ⊢; exact h trivial⟩
    · cases hfn
  replace e1 := e1.trans hsf.1
  replace e2 := hsf.2 ro e2
  obtain ⟨fn, hfn1, hfn2, hfn3⟩ := hbody
  have hargsv : (SV.dens first).toArray ++ (xs0.map a.eval) ++ (SV.dens cap).toArray = (SV.dens args).toArray := by
    apply Array.ext'
    simp only [Array.toList_append, Array.toList_map, e3, hargs]
    simp [dens_eq]
  have hrun : (execOp a.eval o).run S.C.P w = .ok (.enter fid (SV.dens args).toArray) w := by
    obtain ⟨dst, op, ty, pos, aft, gd⟩ := o
    simp only at i1
    subst i1
    have hn : ¬ (fn.body.isNone = true) := by simp [Option.isNone_iff_eq_none, ← Option.isSome_iff_ne_none, hfn2]
    have hn2 : ¬ ((fn.name == "runtime.NumGoroutine") = true) := by rw [hfn3]; simp
    simp only [execOp, resolve, Sem.run_bind, e1, SV.den, Deferred.ofValue, Sem.run_pure, Result.andThen_ok, invoke, callFunc, run_program, hfn1, if_neg hn2, if_neg hn, hargsv]
  rw [hrun]
  simp only [Oper.uponIn]
  have hoks : SV.oks ro (first ++ ss ++ cap) := by
    simp only [SV.ok] at e2
    rw [oks_iff] at e4 ⊢
    have e21 := oks_iff.1 e2.1
    have e22 := oks_iff.1 e2.2
    intro x hx
    simp only [List.mem_append] at hx
    rcases hx with (hx | hx) | hx
    · exact e21 x hx
    · exact e4 x hx
    · exact e22 x hx
  simp only [callIdx, Bool.and_eq_true, decide_eq_true_eq, List.all_eq_true] at hidx
  obtain ⟨H1, H2, hp, h1, h2⟩ := hsat_pick is st.heap H g.heap hidx.2
  have hsat1 : Sat S.C.E ro (H1 ++ (H2 ++ F)) w := g.sat.perm (by rw [← List.append_assoc]; exact hp.append_right F)
  refine ⟨fun h => (by cases h), CallsIn.mono (n := 0) (callsIn_fw (hspec ro (H2 ++ F) H1 w (hheap ro H1 h1) (hok ro hoks) hsat1)) fun e w' hfin => ?_⟩
  obtain ⟨v, heap', ro', H', rfl, hpost, hle', hvok, hh', hs'⟩ := hfin
  obtain ⟨k1, k2⟩ := setCs_emp is st.heap hidx.2
  obtain ⟨H3, hp3, hs3⟩ := hsat_place is (setCs st.heap is) heap' H' H2 hidx.1 (fun i hi => by rw [k2]; exact hidx.2 i hi) k1 (hsat_mono hle' h2) hh'
  rw [← place_eq is st.heap heap' hidx.1] at hs3
  have g' : G S.C ro' H3 F ⟨st.env, place st.heap is heap'⟩ a w' := by
    refine ⟨g.defs, g.size, hs3, hs'.perm ?_, fun t s ht => ?_⟩
    · rw [← List.append_assoc]
      exact hp3.symm.append_right F
    · obtain ⟨x1, x2⟩ := g.env t s ht
      exact ⟨x1, SV.ok_mono hle' s x2⟩
  have hh := h v heap' hpost
  simp only
  rw [i2]
  cases d with
  | none => exact ⟨_, ⟨ro', H3, hle.trans hle', g'⟩, hh.1, hh.2⟩
  | some d =>
    have hd : d < S.C.N := by simpa using i5
    exact ⟨_, ⟨ro', H3, hle.trans hle', g'.put hd hvok⟩, hh.1, hh.2⟩
end
end Go.SX
