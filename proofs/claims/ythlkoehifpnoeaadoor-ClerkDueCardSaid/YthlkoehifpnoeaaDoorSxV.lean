/- From a contract to a law's row: the call answers true, and what was there stays as it was. -/
import Derived.Test.YthlkoehifpnoeaaDoorSxU
import Derived.ProofKit
import Derived.Deep.Matrix
namespace Go.SX
open Go.ChangeShapes Go.WideShapes Go.RowKit
section
variable {H : Type} {enc : TypeId × Value → H} {P : Program} {W W' : World}

theorem trodAll_stays (hl : laidOutB P = true) {sp : Nat → Bool} : ∀ {ts : List TypeId} {vs : List Value} {ds : List (DataW H)} {ps : List MemPlace}, (∀ t ∈ ts, P.readableRec t = true ∧ t < P.types.size) →
    DataW.TrodAll enc P W 0 (fun _ => true) true ts vs ds ps → (∀ p ∈ ps, W.sameAt W' p) → (∀ p ∈ ps, sp p.block = true) → DataW.TrodAll enc P W' 0 sp true ts vs ds ps
  | [], [], [], _, _, h, _, _ => h
  | t :: ts, v :: vs, d :: ds, ps, ht, h, h1, h2 => by
    obtain ⟨p, q, a, b, rfl⟩ := h
    obtain ⟨r1, r2⟩ := ht t (by simp)
    exact ⟨p, q, WideElems.Trod_stays hl r1 r2 a (fun x hx => h1 x (by simp [hx])) (fun x hx => h2 x (by simp [hx])),
      trodAll_stays hl (fun t ht' => ht t (by simp [ht'])) b (fun x hx => h1 x (by simp [hx])) (fun x hx => h2 x (by simp [hx])), rfl⟩
  | [], _ :: _, _, _, _, h, _, _ => h.elim
  | [], [], _ :: _, _, _, h, _, _ => h.elim
  | _ :: _, [], _, _, _, h, _, _ => h.elim
  | _ :: _, _ :: _, [], _, _, h, _, _ => h.elim

/-- what a law's row asks behind the call -/
theorem law_post {f : Func} {s : ChangeSpec} {args : Array Value} {ds gs : List (DataW H)} {before : List MemPlace} {tb : TypeId} (hl : laidOutB P = true) (hv : s.vars = []) (hts : ∀ t ∈ f.params.toList, P.readableRec t = true ∧ t < P.types.size)
    (hr : f.resultTypes = #[tb]) (hb : P.underlying tb = some .bool) (hW : DataW.Whole enc P f.params.toList s.vars false W args.toList ds gs before) (hres : (s.fn H (ds ++ gs)).results = [.lit (.bool true)]) (hargs : (s.fn H (ds ++ gs)).args = ds) (hvars : (s.fn H (ds ++ gs)).vars = [])
    (hbl : Below W.heap.size W W') : s.post enc P f false true false false W args (.bool true) W' := by
  have hW' := hW
  obtain ⟨p, q, hA, hV, rfl, _, _⟩ := hW'
  have hq : q = [] := by
    rw [hv] at hV
    cases gs with
    | nil => exact hV
    | cons _ _ => exact hV.elim
  subst hq
  have hlt : ∀ x ∈ p, x.block < W.heap.size := fun x hx => hW.lt x (by simp [hx])
  refine ⟨ds, gs, _, [], p, [], hW, ?_, ?_, ?_, World.keptBut_mono (fun x hx => ⟨hx, Or.inr (Or.inl (by simpa using hx))⟩) (hbl.frame (· ∈ p ++ [])), fun h => by cases h⟩
  · rw [hres, hr]
    exact trodAll_mk1 (shut_bool hb true)
  · rw [hargs]
    exact trodAll_stays hl hts hA (fun x hx => hbl.same (hlt x hx)) (fun x hx => by simpa using hlt x hx)
  · rw [hvars, hv]
    rfl

/-- all that is there, as memory that nobody writes -/
def roOf (W : World) : RO := fun b => W.heap[b]?
def envOf (W : World) : Env := ⟨W.os, W.tape, W.output⟩

theorem law_calls {f : FuncId} {args : List SV} (h : Spec P (envOf W) f args [] (fun v _ => v = .val (.bool true))) (hok : SV.oks (roOf W) args) :
    Calls P f (SV.dens args).toArray W (fun e W' => e = .returned (.bool true) ∧ Below W.heap.size W W') := by
  refine Calls.mono (h (roOf W) [] [] W rfl hok ⟨rfl, rfl, rfl, fun _ _ h => h, fun p hp => by simp at hp, List.nodup_nil⟩) ?_
  rintro e W' ⟨v, heap', ro', H', rfl, rfl, hle, _, _, hs⟩
  have hb : ∀ k, k < W.heap.size → W'.heap[k]? = W.heap[k]? := fun k hk => by
    have h1 : W.heap[k]? = some W.heap[k] := by simp [hk]
    rw [h1]
    exact hs.rom k _ (hle k _ (by simp [roOf, hk]))
  refine ⟨rfl, hs.os, hs.tape, hs.out, ?_, hb⟩
  rcases Nat.eq_zero_or_pos W.heap.size with h0 | h0
  · omega
  · have h1 := hb (W.heap.size - 1) (by omega)
    rw [show W.heap[W.heap.size - 1]? = some W.heap[W.heap.size - 1] by simp [h0]] at h1
    have := (Array.getElem?_eq_some_iff.1 h1).1
    omega

theorem roCell_of {a : Addr} {v : Value} (h : W.cell? a = some v) : roCell (roOf W) a = some v := h
end
end Go.SX
