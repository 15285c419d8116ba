/- Joined texts: EF. -/
import Derived.Test.YthlkoehifpnoeaaDoorSxCJ5
import Derived.Test.YthlkoehifpnoeaaDoorSxV
import Derived.Test.YthlkoehifpnoeaaDoorSxZ
import Derived.Test.YthlkoehifpnoeaaDoorRows
import Derived.Lib.LaidU8
import Derived.PinnedBridge
import Derived.Shelf.Vars
import Derived.LaidMore
/- What the row gives: the library's tables, and the job as it came in. -/
namespace Go.SX
open Go.Proofs Go.RowKit Go.WideShapes Go.ChangeShapes
set_option maxRecDepth 1000000

theorem law_callsT {W : World} {f : FuncId} {args : List SV} (ht : TabOk (roOf W)) (h : Spec Tryd.prog (envOf W) f args [tabC] (fun v _ => v = .val (.bool true))) (hok : SV.oks (roOf W) args) :
    Calls Tryd.prog f (SV.dens args).toArray W (fun e W' => e = .returned (.bool true) ∧ Below W.heap.size W W') := by
  refine Calls.mono (h (roOf W) [] [] W ⟨[], [], rfl, ⟨rfl, ht⟩, rfl⟩ hok ⟨rfl, rfl, rfl, fun _ _ h => h, fun p hp => by simp at hp, List.nodup_nil⟩) ?_
  rintro e W' ⟨v, heap', ro', H', rfl, rfl, hle, _, _, hs⟩
  have hb : ∀ k, k < W.heap.size → W'.heap[k]? = W.heap[k]? := fun k hk => by
    have h1 : W.heap[k]? = some W.heap[k] := by simp [hk]
    rw [h1]
    exact hs.rom k _ (hle k _ (by simp [roOf, hk]))
  refine ⟨rfl, hs.os, hs.tape, hs.out, ?_, hb⟩
  rcases Nat.eq_zero_or_pos W.heap.size with h0 | h0
  · omega
  · have h1 := hb (W.heap.size - 1) (by omega)
    rw [show W.heap[W.heap.size - 1]? = some W.heap[W.heap.size - 1] by simp [h0]] at h1
    have := (Array.getElem?_eq_some_iff.1 h1).1
    omega

theorem u8x : U8Extra Tryd.prog Tryd.lays197_ren := ⟨by kernel_rfl, by kernel_rfl, by kernel_rfl, by kernel_rfl, by kernel_rfl, by kernel_rfl, by kernel_rfl⟩
open Go.Proofs.YthlkoehifpnoeaaDoor in
theorem tab_ok {W : World} (h : laidMet Tryd.prog Rows.clerkDueRow.laid W) (hsh : W.ShapedOpen Tryd.prog) : TabOk (roOf W) := by
  have h3 : Lib.VarReads Tryd.prog W "unicode/utf8.first" Lib.firstData := by
    rw [← Pinned.utf8First_eq]
    exact Lib.laidMet.reads h (by simp [Rows.clerkDueRow, Rows.laid_unicode_utf8_first])
  have h4 : Lib.VarReads Tryd.prog W "unicode/utf8.acceptRanges" Lib.acceptData := by
    have e : Lib.acceptData = Rows.laid_unicode_utf8_acceptRanges := by kernel_rfl
    rw [e]
    exact Lib.laidMet.reads h (by simp [Rows.clerkDueRow])
  have L : Lays.n260 Tryd.prog Tryd.lays197_ren := { Tryd.lays197 with }
  obtain ⟨t1, t2⟩ := utf8Tabs_of_reads L u8x h3 h4
  have e5 : (Rows.clerkDueRow.laid : List (String × DataW Unit)) = ("math/bits.deBruijn64tab", Lib.tabData .u8 (Lib.deBruijn64tab.map fun (n : Nat) => (n : Int))) :: Rows.clerkDueRow.laid.tail := by kernel_rfl
  rw [e5] at h
  have h5 := Lib.tabIs_of_head (g := 2) (t := 99) (e := 5) (n := 64) (by kernel_rfl) (by kernel_rfl) (by kernel_rfl) (by kernel_rfl) (by kernel_rfl) (by kernel_rfl) h
  obtain ⟨m, hm⟩ := cell_of_shapedOpen_int (g := 3) (t := 3) (zero := #[.int .i64 0]) (k := .i64) hsh (of_decide_eq_true (by kernel_rfl)) (by kernel_rfl) rfl (by kernel_rfl) (by kernel_rfl) (by kernel_rfl)
  exact ⟨fun c hc => roCell_of (t1 c hc), fun i hi => ⟨roCell_of (t2 i hi).1, roCell_of (t2 i hi).2⟩, fun j hj => by
    have hl : Lib.deBruijn64tab.length = 64 := by kernel_rfl
    have := roCell_of (h5.cell (g := 2) (by kernel_rfl) j (by rw [List.length_map, hl]; exact hj))
    have e : (Lib.deBruijn64tab.map fun (n : Nat) => (n : Int)).getD j 0 = ((Lib.deBruijn64tab.getD j 0 : Nat) : Int) := by
      have hj' : j < Lib.deBruijn64tab.length := by omega
      simp only [List.getD_eq_getElem?_getD, List.getElem?_map, List.getElem?_eq_getElem hj', Option.map_some, Option.getD_some]
    rw [e] at this
    exact this, m, roCell_of hm⟩

/-- a job, as it came in -/
def encJ (j : Jb) : List SV := [T j.name, T j.cron, I j.pol, I j.dl, I j.keep, Bl j.sus]
theorem opens_job {W : World} : Opens Tryd.prog W 23 encJ (fun j => j.name.length < 2 ^ 47 ∧ j.cron.length < 2 ^ 47) := by
  have hn := opens_i64 (P := Tryd.prog) (W := W) (t := 3) (by kernel_rfl)
  have hs := opens_str (P := Tryd.prog) (W := W) (t := 9) (by kernel_rfl)
  have hb := opens_bool (P := Tryd.prog) (W := W) (t := 4) (by kernel_rfl)
  have c3 : Tryd.prog.cellsOf 3 = 1 := by kernel_rfl
  have c4 : Tryd.prog.cellsOf 4 = 1 := by kernel_rfl
  have c9 : Tryd.prog.cellsOf 9 = 1 := by kernel_rfl
  have f0 := opensF_snoc (f := { name := "Name", type := 9, offset := 0, embedded := false, tag := "", pkgPath := "", byteOffset := 0 }) (k := 1) (opensF_nil (P := Tryd.prog) (W := W)) (by simp) rfl c9 rfl rfl hs
  have f1 := opensF_snoc (f := { name := "Cron", type := 9, offset := 1, embedded := false, tag := "", pkgPath := "", byteOffset := 16 }) (k := 2) f0 (by simp [c9]) rfl c9 rfl rfl hs
  have f2 := opensF_snoc (f := { name := "Policy", type := 3, offset := 2, embedded := false, tag := "", pkgPath := "", byteOffset := 32 }) (k := 3) f1 (by simp [c9]) rfl c3 rfl rfl hn
  have f3 := opensF_snoc (f := { name := "Deadline", type := 3, offset := 3, embedded := false, tag := "", pkgPath := "", byteOffset := 40 }) (k := 4) f2 (by simp [c3, c9]) rfl c3 rfl rfl hn
  have f4 := opensF_snoc (f := { name := "Keep", type := 3, offset := 4, embedded := false, tag := "", pkgPath := "", byteOffset := 48 }) (k := 5) f3 (by simp [c3, c9]) rfl c3 rfl rfl hn
  have f5 := opensF_snoc (f := { name := "Suspend", type := 4, offset := 5, embedded := false, tag := "", pkgPath := "", byteOffset := 56 }) (k := 6) f4 (by simp [c3, c9]) rfl c4 rfl rfl hb
  refine opens_map (opens_struct Tryd.underlying23 (n := 6) (by kernel_rfl) f5) fun x => ⟨⟨x.1.1.1.1.1.2, x.1.1.1.1.2, x.1.1.1.2, x.1.1.2, x.1.2, x.2⟩, rfl, fun h => ⟨h.1.1.1.1.1.2, h.1.1.1.1.2⟩⟩
theorem open_job {H : Type} {enc0 : TypeId × Value → H} {W : World} {v : Value} {d : DataW H} {ps : List MemPlace} {base : Nat} (hok : Value.okWide Tryd.prog W .any base 23 v) (hd : DataW.Trod enc0 Tryd.prog W 0 (fun _ => true) true 23 v d ps) :
    ∃ j : Jb, v = (jobV j).den ∧ ((d.weights Tryd.prog 23).all (· ≤ reachBytes) = true → j.name.length < 2 ^ 47 ∧ j.cron.length < 2 ^ 47) := by
  obtain ⟨cs, rfl, _⟩ := okWide_struct Tryd.underlying23 hok
  obtain ⟨fuel, hf⟩ := hd
  obtain ⟨j, h1, _, h3⟩ := opens_job enc0 fuel _ d ps hf
  refine ⟨j, ?_, h3⟩
  have h1 : cs.toList = SV.dens (encJ j) := h1
  simp only [jobV, SV.den]
  exact congrArg Value.agg (by rw [← Array.toArray_toList (xs := cs), h1]; rfl)

/-- the wrap of a row that lists variables, the world's shape kept -/
theorem returns_and_shaped {H : Type} {enc : TypeId × Value → H} {a : Assume} {C : Checked} {os : Os} {f : FuncId} {fn : Func} {s : ChangeSpec} {conds : List PathCond} {apart fresh handsOn again : Bool} {X : World → Array Value → Prop}
    (hX : ∀ (w w' : World) (args : Array Value), w.heap = w'.heap → X w args → X w' args)
    (own : ownKnob C.prog.godebug = none) (started : os.Started) (noInit : C.prog.inits.idxOf? f = none) (hfn : C.prog.funcs[f]? = some fn)
    (witness : ∃ (w : World) (tape : Tape) (i : Input), w.os = os ∧ (w.forCall tape i).Shaped C.prog ∧ i.vars = [] ∧ Input.okWide C.prog (w.forCall tape i) .any w.heap.size f i ∧
      ((s.pre enc C.prog fn conds apart (w.forCall tape i).memory i.args ∧ X (w.forCall tape i).memory i.args) ∧ sizedMet enc C.prog fn (OpenSpec.ofChange s) apart (w.forCall tape i).memory i.args) ∧ a.holds C.prog (lone (Frame.enter C.prog f i.args .normal) [] (w.forCall tape i)))
    (contract : ∀ (W : World) (base : Nat) (args : Array Value) (ds gs : List (DataW H)) (before : List MemPlace),
      (∀ (j : Nat) t v, fn.params[j]? = some t → args[j]? = some v → Value.okWide C.prog W .any base t v) →
      DataW.Whole enc C.prog fn.params.toList s.vars apart W args.toList ds gs before →
      (DataW.weightsEach C.prog (fn.params.toList ++ s.plain.varTypes C.prog) (ds ++ gs)).all (· ≤ reachBytes) = true → X W args → W.ShapedOpen C.prog →
      Calls C.prog f args W fun e W' => ∃ v, e = .returned v ∧ s.post enc C.prog fn apart fresh handsOn again W args v W') :
    ReturnsInHanded a C os f .any (fun w args => (s.pre enc C.prog fn conds apart w args ∧ X w args) ∧ sizedMet enc C.prog fn (OpenSpec.ofChange s) apart w args) (s.post enc C.prog fn apart fresh handsOn again) := by
  refine returnsInHanded_of_calls own started noInit witness ?_
  intro w tape i _ hsh _ hok hpre _
  obtain ⟨_, _, _, fn', hfn', _, _, _, _, hval⟩ := hok
  have e : fn' = fn := Option.some.inj (hfn'.symm.trans hfn)
  subst e
  obtain ⟨⟨⟨ds, gs, before, hw, hc⟩, hx⟩, hz⟩ := hpre
  have hw' := DataW.Whole.of_heap (w' := w.forCall tape i) (by rfl) hw
  refine (contract (w.forCall tape i) w.heap.size i.args ds gs before hval hw' (hz.weights hw) (hX _ _ _ (by rfl) hx) hsh).mono fun e W' ⟨v, he, hp⟩ => ?_
  subst he
  exact ChangeSpec.post_blind hp
end Go.SX
