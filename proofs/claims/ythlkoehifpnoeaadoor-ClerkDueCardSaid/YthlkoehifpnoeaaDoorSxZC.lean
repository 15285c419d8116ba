/- strings.Builder's operations: pointers seen as unsafe ones and back, memory that is not cleared, a text appended to bytes, bytes seen as a text. -/
import Derived.Test.YthlkoehifpnoeaaDoorSxZA
import Derived.Lib.AppendStr
import Derived.Lib.Builder
import Derived.Lib.UnsafeStr
import Derived.Lib.MakeNoZero
import Derived.Laws.Externs
namespace Go.SX
section
variable {S : Setup} {k : List Frag} {st : St} {C : Ctx} {ro ro0 : RO} {H F : Hp} {a : Act} {w : World}

theorem G.shape (g : G C ro H F st a w) {c b : Nat} {T : TypeId} {cs : List SV} (hc : getC st.heap c = .cells b T cs) : w.shape? b = some (T, cs.length) := by
  have := (g.cells hc).1
  simp [World.shape?, this, dens_eq]
/-- a pointer to an own block, as an unsafe one -/
theorem oth_tounsafe {src dst t e ty : TypeId} {x : Nat} {c b off : Nat} {cs : List SV} {j : TypeInfo} (hs : C.P.underlying src = some (.pointer t)) (hd : C.P.underlying dst = some .unsafePointer) (ht : C.P.info? t = some j) (hj : j.size ≠ 0)
    (hx : opv st.env (.t x) = some (.ptr c b off)) (hc : getC st.heap c = .cells b e cs) (hoff : off < cs.length) : OthV C st (.convert src dst (.tmp x)) ty (.val (.pointer (some ⟨b, off, none⟩))) := by
  intro ro H F a w g
  refine ⟨?_, by simp only [SV.ok]⟩
  obtain ⟨e1, _⟩ := opv_ok (x := .tmp x) g rfl hx
  simp only [SV.den] at e1
  have h := Lib.run_to_unsafe w ⟨b, off, none⟩ hs hd ht hj (g.shape hc) hoff
  simp only [execOp, oper0, SV.den, e1, Sem.run_bind, h, Result.andThen, Sem.run_pure]
/-- and back -/
theorem oth_fromunsafe {src dst u e ty : TypeId} {x : Nat} {c b off : Nat} {cs : List SV} {j : TypeInfo} (hs : C.P.underlying src = some .unsafePointer) (hd : C.P.underlying dst = some (.pointer u)) (hu : C.P.info? u = some j)
    (hx : opv st.env (.t x) = some (.val (.pointer (some ⟨b, off, none⟩)))) (hc : getC st.heap c = .cells b e cs) (hl : liesAt C.P C.P.depth e (cs.length / C.P.cellsOf e) off u 1 = true) : OthV C st (.convert src dst (.tmp x)) ty (.val (.pointer (some ⟨b, off, none⟩))) := by
  intro ro H F a w g
  refine ⟨?_, by simp only [SV.ok]⟩
  obtain ⟨e1, _⟩ := opv_ok (x := .tmp x) g rfl hx
  simp only [SV.den] at e1
  have h := Lib.run_from_unsafe w ⟨b, off, none⟩ hs hd hu (g.shape hc) hl
  simp only [execOp, oper0, SV.den, e1, Sem.run_bind, h, Result.andThen, Sem.run_pure]
/-- a function without a body that leaves the world as it is -/
theorem stp_ext {d : Nat} {f : Opd} {xs : List Opd} {ps : List SOp} {l : List (SOp × List SOp)} {sf : SV} {fid : Nat} {ss : List SV} {fn : Func} {e : Array Value → Sem Value} {v : SV}
    (hf : opv st.env f = some sf) (hfn : calleeOf sf = some (fid, [], [])) (hx : opvs st.env xs = some ss) (hfu : S.C.P.funcs[fid]? = some fn) (hname : (fn.name == "runtime.NumGoroutine") = false) (hb : fn.body.isNone = true)
    (hn : Extern.findNext fn = none) (he : Extern.find fn = some e) (hrun : ∀ w, (e (SV.dens ss).toArray).run S.C.P w = .ok v.den w) (hv : ∀ ro, SV.oks ro ss → v.ok ro)
    (h : recheck S.C ⟨(d, v) :: st.env, st.heap⟩ ps ∧ Safe S (.ops l :: k) ⟨(d, v) :: st.env, st.heap⟩) : Stp S k l ps st (.call (some d) f xs) := by
  intro ro0 F a w o hg hce
  obtain ⟨f0, xs0, ts, i1, i2, i3, i4, i5⟩ := ceff_inv hce
  obtain ⟨ro, H, hle, g⟩ := hg
  obtain ⟨e1, _⟩ := opv_ok g i3 hf
  obtain ⟨e3, e4⟩ := opvs_ok g i4 hx
  have hsf : sf.den = (SV.fn (.func fid) [] []).den := by
    unfold calleeOf at hfn
    split at hfn
    · simp only [Option.some.injEq, Prod.mk.injEq] at hfn
      obtain ⟨rfl, rfl, rfl⟩ := hfn
      rfl
    · simp only [Option.some.injEq, Prod.mk.injEq] at hfn
      obtain ⟨rfl, rfl, rfl⟩ := hfn
      rfl
    · cases hfn
  replace e1 := e1.trans hsf
  have hargsv : (xs0.map a.eval) = (SV.dens ss).toArray := by
    apply Array.ext'
    simp only [Array.toList_map, e3]
  have hexec : (execOp a.eval o).run S.C.P w = .ok (.value v.den) w := by
    obtain ⟨dst, op, ty, pos, aft, gd⟩ := o
    simp only at i1
    subst i1
    have h1 := run_callFunc_extern (P := S.C.P) (w := w) hfu hname hb hn he (SV.dens ss).toArray
    rw [hrun w] at h1
    simp only [Result.andThen] at h1
    simp only [execOp, resolve, Sem.run_bind, e1, SV.den, SV.dens, Deferred.ofValue, Sem.run_pure, Result.andThen_ok, invoke, hargsv]
    simpa using h1
  rw [hexec]
  simp only [Oper.uponIn, i2]
  exact ⟨_, ⟨ro, H, hle, g.put (by simpa using i5) (hv ro e4)⟩, h.1, h.2⟩
/-- memory that is not cleared -/
theorem stp_mknz {d : Nat} {f : Opd} {xs : List Opd} {ps : List SOp} {l : List (SOp × List SOp)} {sf : SV} {fid n : Nat} {fn : Func} {qs : Array TypeId} {t e : TypeId}
    (hf : opv st.env f = some sf) (hfn : calleeOf sf = some (fid, [], [])) (hx : opvs st.env xs = some [.val (.int .i64 n)]) (hfu : S.C.P.funcs[fid]? = some fn) (hname : (fn.name == "runtime.NumGoroutine") = false) (hb : fn.body.isNone = true)
    (hn : Extern.findNext fn = none) (he : Extern.find fn = some (Extern.BytealgMakeNoZero.makeNoZero qs #[t])) (ht : S.C.P.underlying t = some (.slice e)) (hle' : n ≤ 281474976710656)
    (h : ∀ b cap f, n ≤ cap → recheck S.C ⟨(d, .osl st.heap.length false b 0 n cap) :: st.env, st.heap ++ [.row false b e 0 1 n cap f]⟩ ps ∧ Safe S (.ops l :: k) ⟨(d, .osl st.heap.length false b 0 n cap) :: st.env, st.heap ++ [.row false b e 0 1 n cap f]⟩) :
    Stp S k l ps st (.call (some d) f xs) := by
  intro ro0 F a w o hg hce
  obtain ⟨f0, xs0, ts, i1, i2, i3, i4, i5⟩ := ceff_inv hce
  obtain ⟨ro, H, hle, g⟩ := hg
  obtain ⟨e1, _⟩ := opv_ok g i3 hf
  obtain ⟨e3, e4⟩ := opvs_ok g i4 hx
  have hsf : sf.den = (SV.fn (.func fid) [] []).den := by
    unfold calleeOf at hfn
    split at hfn
    · simp only [Option.some.injEq, Prod.mk.injEq] at hfn
      obtain ⟨rfl, rfl, rfl⟩ := hfn
      rfl
    · simp only [Option.some.injEq, Prod.mk.injEq] at hfn
      obtain ⟨rfl, rfl, rfl⟩ := hfn
      rfl
    · cases hfn
  replace e1 := e1.trans hsf
  have hargsv : (xs0.map a.eval) = #[.int .i64 n] := by
    apply Array.ext'
    simp only [Array.toList_map, e3]
    rfl
  obtain ⟨cs, hrun, hcs, _⟩ := Lib.run_makeNoZero (P := S.C.P) w qs t e ht n hle'
  have hexec : (execOp a.eval o).run S.C.P w = .ok (.value (.slice (some ⟨w.heap.size, 0, none⟩) n cs.size)) (w.drew.drew.alloc (.cells cs e)) := by
    obtain ⟨dst, op, ty, pos, aft, gd⟩ := o
    simp only at i1
    subst i1
    have h1 := run_callFunc_extern (P := S.C.P) (w := w) hfu hname hb hn he #[.int .i64 n]
    rw [hrun] at h1
    simp only [Result.andThen] at h1
    simp only [execOp, resolve, Sem.run_bind, e1, SV.den, SV.dens, Deferred.ofValue, Sem.run_pure, Result.andThen_ok, invoke, hargsv]
    simpa using h1
  rw [hexec]
  simp only [Oper.uponIn, i2]
  obtain ⟨q1, q2⟩ := h w.heap.size cs.size (fun i _ => .val (cs[i]?.getD undef)) hcs
  have hrow : (Chunk.row false w.heap.size e 0 1 n cs.size (fun i _ => .val (cs[i]?.getD undef))).sat ro [(w.heap.size, .cells cs e)] := by
    refine ⟨cs, (0, 0), rfl, Fz.zero _, hcs, by omega, fun i j hi hj => ⟨?_, by simp only [SV.ok]⟩⟩
    obtain rfl : j = 0 := by omega
    simp only [SV.den, Nat.mul_one, Nat.add_zero, Nat.zero_add]
    rw [Array.getElem?_eq_getElem (by omega)]
    rfl
  have g1 := g.alloc hrow
  have g2 : G S.C ro _ F ⟨st.env, st.heap ++ [.row false w.heap.size e 0 1 n cs.size (fun i _ => .val (cs[i]?.getD undef))]⟩ a (w.drew.drew.alloc (.cells cs e)) :=
    ⟨g1.defs, g1.size, g1.heap, g1.sat.drawn _, g1.env⟩
  exact ⟨_, ⟨ro, _, hle, g2.put (s := .osl st.heap.length false w.heap.size 0 n cs.size) (by simpa using i5) (by simp only [SV.ok])⟩, q1, q2⟩

theorem app_roomS {P : Program} {t t' e : TypeId} {i : TypeInfo} (ht : P.underlying t = some (.slice e)) (ht' : P.underlying t' = some .string) (hi : P.info? e = some i) {ad : Addr} {n cap : Nat} {s : ByteArray} {w w' : World}
    (hroom : n + s.size ≤ cap) (hst : (storeCells (ad.add (n * i.size)) (Lib.strCells s)).run P w = .ok () w') (ty : TypeId) :
    (Builtin.append_ #[t, t'] ty #[.slice (some ad) n cap, .string s]).run P w = .ok (.slice (some ad) (n + s.size) cap) w' := by
  have hf := Lib.run_firstCells_string (P := P) w i.size s
  simp [Builtin.append_, run_underlying ht, run_underlying ht', sizeOf, typeInfo, hi, Builtin.lenOf, hroom, hf, hst]
theorem app_growS {P : Program} {t t' e : TypeId} {i : TypeInfo} {z : Value} (ht : P.underlying t = some (.slice e)) (ht' : P.underlying t' = some .string) (hi : P.info? e = some i) (hz : i.zero = some z) {base : Option Addr} {n cap : Nat} {olds : List Value} {s : ByteArray} {w : World}
    (hold : ∀ w', (∀ b : Nat, w'.heap[b]? = w.heap[b]?) → (Builtin.firstCells i.size n (.slice base n cap)).run P w' = .ok olds.toArray w')
    (hroom : cap < n + s.size) (hb0 : 0 < i.bytes) (hfit : (n + s.size) * i.bytes ≤ 140737488355328) (ty : TypeId) :
    ∃ nc, n + s.size ≤ nc ∧ (Builtin.append_ #[t, t'] ty #[.slice base n cap, .string s]).run P w =
      .ok (.slice (some ⟨w.heap.size, 0, none⟩) (n + s.size) nc) { w with heap := w.heap.push (.cells (olds.toArray ++ (Lib.strCells s).toArray ++ Builtin.zeroCells z.cells (nc - (n + s.size))) e), drawn := w.drawn + 1 } := by
  have hn : ¬ (n + s.size ≤ cap) := by omega
  have h63 : n + s.size ≤ 140737488355328 := by
    have : (n + s.size) * 1 ≤ (n + s.size) * i.bytes := Nat.mul_le_mul_left _ hb0
    omega
  have h63' : ¬ (9223372036854775807 < ((n : Int) + (s.size : Int))) := by omega
  have h48 := growslice_fits (need := n + s.size) (old := cap) (by omega) hfit
  have h48' : ¬ (281474976710656 < Builtin.nextslicecap (n + s.size) cap * i.bytes) := by omega
  have s1 := Lib.run_firstCells_string (P := P) w.drew i.size s
  have s2 := hold w.drew (fun _ => rfl)
  refine ⟨grownCap w (n + s.size) cap e, grownCap_ge w (n + s.size) cap e, ?_⟩
  simp [Builtin.append_, run_underlying ht, run_underlying ht', sizeOf, typeInfo, zeroValue, hi, hz, Builtin.lenOf, hn, h63', h48', Question.forced, s1, s2, newRow, grownCap]
  have e1 : (olds ++ Lib.strCells s).toArray = olds.toArray ++ (Lib.strCells s).toArray := by simp
  rw [e1, Array.append_assoc]
  rfl
theorem strCells_rows (xs : List UInt8) : Lib.strCells ⟨xs.toArray⟩ = SV.dens (rowL (rowsV encB xs) xs.length 1) := by
  rw [dens_eq]
  apply List.ext_getElem?
  intro p
  by_cases hp : p < xs.length
  · have h := rowL_at (rowsV encB xs) (i := p) (j := 0) hp (show 0 < 1 by decide)
    rw [Nat.mul_one, Nat.add_zero] at h
    rw [List.getElem?_map, h]
    simp [Lib.strCells, hp, SV.den, List.getD_eq_getElem?_getD]
  · rw [List.getElem?_eq_none (by simp [Lib.strCells]; omega), List.getElem?_eq_none (by simp [rowL_len]; omega)]
/-- a text appended to bytes of one's own -/
theorem stp_apps {d : Nat} {x y : Operand} {t t' e ty : TypeId} {i : TypeInfo} {ps : List SOp} {l : List (SOp × List SOp)} {xo yo : Opd} {c b off n cap : Nat} {xs ys : List UInt8}
    (hxo : copd x = some xo) (hyo : copd y = some yo) (ht : S.C.P.underlying t = some (.slice e)) (ht' : S.C.P.underlying t' = some .string) (hi : S.C.P.info? e = some i) (hz : i.zero = some (.int .u8 0)) (hi1 : i.size = 1) (hib : i.bytes = 1)
    (hx : opv st.env xo = some (.osl c false b off n cap)) (hy : opv st.env yo = some (T xs)) (hc : getC st.heap c = .row false b e off 1 n cap (rowsV encB ys)) (hn : n = ys.length) (hfit : n + xs.length ≤ 140737488355328)
    (h : ∀ b' off' cap', cap ≤ cap' → (off = 0 → off' = 0) → recheck S.C ⟨(d, .osl c false b' off' (ys ++ xs).length cap') :: st.env, setC st.heap c (.row false b' e off' 1 (ys ++ xs).length cap' (rowsV encB (ys ++ xs)))⟩ ps ∧
      Safe S (.ops l :: k) ⟨(d, .osl c false b' off' (ys ++ xs).length cap') :: st.env, setC st.heap c (.row false b' e off' 1 (ys ++ xs).length cap' (rowsV encB (ys ++ xs)))⟩) :
    Stp S k l ps st (.oth (some d) (.call { callee := .builtin .append, args := #[x, y], argTypes := #[t, t'] }) ty) := by
  intro ro0 F a w o hg hce
  obtain ⟨i1, i2, i3, i4⟩ := ceff_inv hce
  obtain ⟨ro, H, hle, g⟩ := hg
  obtain ⟨e1, _⟩ := opv_ok g hxo hx
  obtain ⟨e2, _⟩ := opv_ok g hyo hy
  have hlt : c < st.heap.length := getC_lt (by rw [hc]; simp)
  have hsz : (⟨xs.toArray⟩ : ByteArray).size = xs.length := by simp [ByteArray.size]
  have hexec : ∀ v' w', (Builtin.append_ #[t, t'] o.type #[.slice (some ⟨b, off, none⟩) n cap, .string ⟨xs.toArray⟩]).run S.C.P w = .ok v' w' → (execOp a.eval o).run S.C.P w = .ok (.value v') w' := by
    intro v' w' hr
    obtain ⟨dst, op, ty', pos, aft, gd⟩ := o
    simp only at i1 hr
    subst i1
    simp [execOp, resolve, invoke, builtin, e1, e2, SV.den, hr]
  have hrows : ∀ p q, p < n + xs.length → q < 1 → appF (rowsV encB ys) n (rowsV encB xs) p q = rowsV encB (ys ++ xs) p q := by
    intro p q hp hq
    obtain rfl : q = 0 := by omega
    subst hn
    unfold appF
    by_cases hpn : p < ys.length
    · have hbl : Nat.blt p ys.length = true := by rw [Nat.blt_eq]; exact hpn
      rw [hbl, cond_true, rowsB, rowsB, List.getD_eq_getElem?_getD, List.getD_eq_getElem?_getD, List.getElem?_append_left hpn]
    · have hbl : Nat.blt p ys.length = false := by rw [Bool.eq_false_iff, ne_eq, Nat.blt_eq]; exact hpn
      rw [hbl, cond_false, rowsB, rowsB, List.getD_eq_getElem?_getD, List.getD_eq_getElem?_getD, List.getElem?_append_right (by omega)]
  have hlen : (ys ++ xs).length = n + xs.length := by rw [List.length_append, hn]
  have hold := fun (P : Program) (w' : World) (hw : ∀ b : Nat, w'.heap[b]? = w.heap[b]?) => firstCells_old (cap := cap) (n := n) g (by decide) hc (Nat.le_refl _) P w' hw
  obtain ⟨H1, H2, hs1, hsat, hput⟩ := g.swap hlt
  rw [hc] at hs1
  obtain ⟨arr, fz, rfl, hfz, hnc, hsize, hcell⟩ := hs1
  have done : ∀ (b' off' cap' : Nat) (w' : World), cap ≤ cap' → (off = 0 → off' = 0) → (execOp a.eval o).run S.C.P w = .ok (.value (.slice (some ⟨b', off', none⟩) (n + xs.length) cap')) w' →
      (∃ H', G S.C ro H' F ⟨st.env, setC st.heap c (.row false b' e off' 1 (n + xs.length) cap' (rowsV encB (ys ++ xs)))⟩ a w') →
      o.uponIn (fw S.C.rd) 0 S.C.P a (Next S k l ps ro0 F) (fun _ _ _ => False) ((execOp a.eval o).run S.C.P w) := by
    rintro b' off' cap' w' hcc hoo hr ⟨H', g'⟩
    rw [hr]
    simp only [Oper.uponIn, i2]
    obtain ⟨q1, q2⟩ := h b' off' cap' hcc hoo
    rw [hlen] at q1 q2
    exact ⟨_, ⟨ro, H', hle, g'.put (s := .osl c false b' off' (n + xs.length) cap') (by simpa using i4) (by simp only [SV.ok])⟩, q1, q2⟩
  by_cases hroom : n + xs.length ≤ cap
  · have hb := (hsat.own (b, .cells arr e fz) (by simp)).1
    have hone : ∀ u ∈ Lib.strCells ⟨xs.toArray⟩, u.oneCell' = true := Lib.strCells_oneCell _
    have hsl : (Lib.strCells ⟨xs.toArray⟩).length = xs.length := by rw [Lib.strCells_length, hsz]
    have hfitc : off + n * 1 + (Lib.strCells ⟨xs.toArray⟩).length ≤ arr.size := by rw [hsl]; omega
    obtain ⟨w', r1, r2, r3, r4, r5, r6⟩ := stCells S.C.P b (off + n * 1) e fz (Lib.strCells ⟨xs.toArray⟩) 0 _ w hb hfz (by simpa using hfitc) hone
    have hr := app_roomS ht ht' hi (ad := ⟨b, off, none⟩) (n := n) (cap := cap) (s := ⟨xs.toArray⟩) (w := w) (w' := w') (by rw [hsz]; exact hroom) (by rw [hi1, add_none]; exact r1) o.type
    rw [hsz] at hr
    refine done b off cap w' (Nat.le_refl _) (fun h => h) (hexec _ _ hr) (hput w' [(b, .cells (arr.toList.take (off + n * 1 + 0) ++ Lib.strCells ⟨xs.toArray⟩ ++ arr.toList.drop (off + n * 1 + 0 + (Lib.strCells ⟨xs.toArray⟩).length)).toArray e fz)] _ ?_ (hsat.set r2 r3 r4 r5 r6))
    refine row_congr hrows ?_
    have hsz2 : (arr.toList.take (off + n * 1 + 0) ++ Lib.strCells ⟨xs.toArray⟩ ++ arr.toList.drop (off + n * 1 + 0 + (Lib.strCells ⟨xs.toArray⟩).length)).toArray.size = arr.size := by
      simp only [List.size_toArray, List.length_append, List.length_take, List.length_drop, Array.length_toList]
      omega
    refine ⟨_, fz, rfl, by rw [hsz2]; exact hfz, hroom, by rw [hsz2]; exact hsize, fun p q hp hq => ?_⟩
    obtain rfl : q = 0 := by omega
    rw [List.getElem?_toArray, over_get _ _ _ _ (by simpa using hfitc), Nat.add_zero, hsl]
    unfold appF
    by_cases hpn : p < n
    · have hbl : Nat.blt p n = true := by rw [Nat.blt_eq]; exact hpn
      rw [if_neg (by omega), hbl, cond_true, Array.getElem?_toList]
      exact hcell p 0 hpn (by decide)
    · have hbl : Nat.blt p n = false := by rw [Bool.eq_false_iff, ne_eq, Nat.blt_eq]; exact hpn
      rw [if_pos (by omega), hbl, cond_false, show off + p * 1 + 0 - (off + n * 1) = p - n by omega, rowsB]
      refine ⟨?_, by simp only [SV.ok]⟩
      have hpl : p - n < xs.length := by omega
      simp [Lib.strCells, SV.den, List.getD_eq_getElem?_getD, hpl]
  · obtain ⟨nc, hnc2, hr⟩ := app_growS ht ht' hi hz (base := some ⟨b, off, none⟩) (n := n) (cap := cap) (olds := SV.dens (rowL (rowsV encB ys) n 1)) (s := ⟨xs.toArray⟩) (w := w) (fun w' hw => by rw [hi1]; exact (hold S.C.P w' hw).1) (by rw [hsz]; omega) (by omega) (by rw [hsz, hib]; omega) o.type
    rw [hsz] at hr hnc2
    have hB : ∀ (zs : List UInt8) (p q : Nat), q < 1 → (rowsV encB zs p q).ok ro := fun zs p q hq => by
      obtain rfl : q = 0 := by omega
      rw [rowsB]
      simp only [SV.ok]
    have hrow := row_grown (ro := ro) (b := w.heap.size) (e := e) (sz := 1) (z := .int .u8 0) (f := rowsV encB ys) (gx := rowsV encB xs) (n := n) (m := xs.length) (nc := nc) rfl hnc2 (fun p q _ hq => hB ys p q hq) (fun p q _ hq => hB xs p q hq)
    rw [strCells_rows] at hr
    exact done w.heap.size 0 nc _ (by omega) (fun _ => rfl) (hexec _ _ hr) (hput _ _ _ (row_congr hrows hrow) (((hsat.drop (H := [_])).alloc _).drawn _))
/-- where own bytes begin -/
theorem stp_usd {d : Nat} {x : Operand} {t ty : TypeId} {ps : List SOp} {l : List (SOp × List SOp)} {xo : Opd} {c b off n cap : Nat} (hxo : copd x = some xo) (hx : opv st.env xo = some (.osl c false b off n cap)) (hcap : cap ≠ 0)
    (h : recheck S.C ⟨(d, .val (.pointer (some ⟨b, off, none⟩))) :: st.env, st.heap⟩ ps ∧ Safe S (.ops l :: k) ⟨(d, .val (.pointer (some ⟨b, off, none⟩))) :: st.env, st.heap⟩) :
    Stp S k l ps st (.oth (some d) (.call { callee := .builtin .unsafeSliceData, args := #[x], argTypes := #[t] }) ty) := by
  intro ro0 F a w o hg hce
  obtain ⟨i1, i2, i3, i4⟩ := ceff_inv hce
  obtain ⟨ro, H, hle, g⟩ := hg
  obtain ⟨e1, _⟩ := opv_ok g hxo hx
  have hrun : (execOp a.eval o).run S.C.P w = .ok (.value (.pointer (some ⟨b, off, none⟩))) w := by
    obtain ⟨dst, op, ty', pos, aft, gd⟩ := o
    simp only at i1
    subst i1
    have hr := Lib.run_unsafeSliceData_row (P := S.C.P) w #[t] ty' ⟨b, off, none⟩ n cap hcap
    simp [execOp, resolve, invoke, builtin, e1, SV.den, hr]
  rw [hrun]
  simp only [Oper.uponIn, i2]
  exact ⟨_, ⟨ro, H, hle, g.put (s := .val (.pointer (some ⟨b, off, none⟩))) (by simpa using i4) (by simp only [SV.ok])⟩, h.1, h.2⟩
/-- own bytes, seen as a text: nobody writes them any more -/
theorem stp_ustr {d : Nat} {x y : Operand} {t t' ty e : TypeId} {ps : List SOp} {l : List (SOp × List SOp)} {xo yo : Opd} {c b cap : Nat} {ys : List UInt8} (hxo : copd x = some xo) (hyo : copd y = some yo)
    (ht : S.C.P.underlying t = some (.pointer e)) (hce1 : S.C.P.cellsOf e = 1) (hx : opv st.env xo = some (.val (.pointer (some ⟨b, 0, none⟩)))) (hy : opv st.env yo = some (.val (.int .i64 ys.length)))
    (hc : getC st.heap c = .row false b e 0 1 ys.length cap (rowsV encB ys)) (hlen : ys.length ≤ 9223372036854775807)
    (h : recheck S.C ⟨(d, T ys) :: st.env, setC st.heap c .emp⟩ ps ∧ Safe S (.ops l :: k) ⟨(d, T ys) :: st.env, setC st.heap c .emp⟩) :
    Stp S k l ps st (.oth (some d) (.call { callee := .builtin .unsafeString, args := #[x, y], argTypes := #[t, t'] }) ty) := by
  intro ro0 F a w o hg hce
  obtain ⟨i1, i2, i3, i4⟩ := ceff_inv hce
  obtain ⟨ro, H, hle, g⟩ := hg
  obtain ⟨e1, _⟩ := opv_ok g hxo hx
  obtain ⟨e2, _⟩ := opv_ok g hyo hy
  have hlt : c < st.heap.length := getC_lt (by rw [hc]; simp)
  obtain ⟨H1, H2, hs1, hsat, hput⟩ := g.swap hlt
  rw [hc] at hs1
  obtain ⟨arr, fz, rfl, hfz, hnc, hsize, hcell⟩ := hs1
  have hb := (hsat.own (b, .cells arr e fz) (by simp)).1
  have hnod := hsat.nod
  rw [List.map_append, List.map_cons, List.map_nil, List.singleton_append, List.nodup_cons] at hnod
  have hbo := (hsat.own (b, .cells arr e fz) (by simp)).2
  have hfin : ∀ w', (Builtin.unsafeString_ #[t, t'] o.type #[.pointer (some ⟨b, 0, none⟩), .int .i64 ys.length]).run S.C.P w = .ok (.string ⟨ys.toArray⟩) w' → w'.os = w.os → w'.tape = w.tape → w'.output = w.output → (∀ k, k ≠ b → w'.heap[k]? = w.heap[k]?) →
      o.uponIn (fw S.C.rd) 0 S.C.P a (Next S k l ps ro0 F) (fun _ _ _ => False) ((execOp a.eval o).run S.C.P w) := by
    intro w' hr h1 h2 h3 h4
    have hexec : (execOp a.eval o).run S.C.P w = .ok (.value (.string ⟨ys.toArray⟩)) w' := by
      obtain ⟨dst, op, ty', pos, aft, gd⟩ := o
      simp only at i1 hr
      subst i1
      simp [execOp, resolve, invoke, builtin, e1, e2, SV.den, hr]
    rw [hexec]
    simp only [Oper.uponIn, i2]
    obtain ⟨H', g'⟩ := hput w' [] .emp rfl ⟨h1.trans hsat.os, h2.trans hsat.tape, h3.trans hsat.out, fun kk o' hk => by
      rw [h4 kk (fun e => by subst e; rw [hk] at hbo; cases hbo)]
      exact hsat.rom kk o' hk, fun p hp => by
      have hp2 : p ∈ H2 := by simpa using hp
      have hm := hsat.own p (List.mem_append_right _ hp2)
      refine ⟨?_, hm.2⟩
      rw [h4 p.1 (fun e => hnod.1 (List.mem_map.2 ⟨p, hp2, e⟩))]
      exact hm.1, by simpa using hnod.2⟩
    exact ⟨_, ⟨ro, H', hle, g'.put (s := T ys) (by simpa using i4) (by simp only [SV.ok])⟩, h.1, h.2⟩
  rcases Nat.eq_zero_or_pos ys.length with h0 | h0
  · obtain rfl := List.length_eq_zero_iff.1 h0
    refine hfin w (Lib.run_unsafeString_none w t t' o.type (some ⟨b, 0, none⟩)) rfl rfl rfl (fun _ _ => rfl)
  · refine hfin _ (Lib.run_unsafeString_row w t t' o.type e ht hce1 b arr.size (by simp [World.shape?, hb]) ys (fun e => by rw [e] at h0; simp at h0) (by omega) hlen fun j x hj => ?_) (by unfold World.freeze; split <;> rfl) (by unfold World.freeze; split <;> rfl) (by unfold World.freeze; split <;> rfl) (fun k hk => ?_)
    · have hjl : j < ys.length := (List.getElem?_eq_some_iff.1 hj).1
      have hcj := (hcell j 0 hjl (by decide)).1
      rw [rowsB, List.getD_eq_getElem?_getD, hj] at hcj
      simp only [Nat.zero_add, Nat.mul_one, Nat.add_zero, SV.den, Option.getD_some] at hcj
      rw [add_none, cell_of hb, Nat.zero_add]
      exact hcj
    · have hk' : b ≠ k := fun e => hk e.symm
      unfold World.freeze
      split
      · rfl
      · simp [Array.getElem?_modify, hk']
/-- append to a slice of one's own: what stays of it -/
theorem stp_appK {d e sz bytes : Nat} {z : List Value} {so xo : Opd} {ps : List SOp} {l : List (SOp × List SOp)} {c b off n cap : Nat} {nl : Bool} {x : SV} {f gx : Nat → Nat → SV} {m : Nat} {vc : Prop}
    (hs : opv st.env so = some (.osl c nl b off n cap)) (hx : opv st.env xo = some x) (hch : getC st.heap c = .row nl b e off sz n cap f) (hsrc : srcV st.heap x sz = some (m, gx, vc)) (hvc : vc) (hones : onesF gx m sz) (hfit : (n + m) * bytes ≤ 140737488355328)
    (h : ∀ nl' b' off' cap', (nl = false → nl' = false) → (off = 0 → off' = 0) → cap ≤ cap' → recheck S.C ⟨(d, .osl c nl' b' off' (n + m) cap') :: st.env, setC st.heap c (.row nl' b' e off' sz (n + m) cap' (appF f n gx))⟩ ps ∧
      Safe S (.ops l :: k) ⟨(d, .osl c nl' b' off' (n + m) cap') :: st.env, setC st.heap c (.row nl' b' e off' sz (n + m) cap' (appF f n gx))⟩) :
    Stp S k l ps st (.app d e sz bytes z so xo) := by
  intro ro0 F a w o hg he
  obtain ⟨t, t', e', s0, x0, i, v, h1, h2, h3, h4, h5, h6, h7, h8, h9, h10, h11, h12, h13, rfl, rfl, rfl⟩ := ceff_inv he
  obtain ⟨ro, H, hle, g⟩ := hg
  obtain ⟨e1, _⟩ := opv_ok g h6 hs
  obtain ⟨e2, e3⟩ := opv_ok g h7 hx
  obtain ⟨A, xc, e4, s1, s2⟩ := src_ok g h10 e3 hsrc hvc
  have hlt : c < st.heap.length := getC_lt (by rw [hch]; simp)
  have hexec : ∀ v' w', (Builtin.append_ #[t, t'] o.type #[.slice (if nl then none else some ⟨b, off, none⟩) n cap, .slice A m xc]).run S.C.P w = .ok v' w' → (execOp a.eval o).run S.C.P w = .ok (.value v') w' := by
    intro v' w' hr
    obtain ⟨dst, op, ty, pos, aft, gd⟩ := o
    simp only at h1 hr
    subst h1
    simp [execOp, resolve, invoke, builtin, e1, e2, e4, SV.den, hr]
  have done : ∀ (nl' : Bool) (b' off' cap' : Nat) (w' : World), (nl = false → nl' = false) → (off = 0 → off' = 0) → cap ≤ cap' → (execOp a.eval o).run S.C.P w = .ok (.value (SV.osl c nl' b' off' (n + m) cap').den) w' →
      (∃ H', G S.C ro H' F ⟨st.env, setC st.heap c (.row nl' b' e off' i.size (n + m) cap' (appF f n gx))⟩ a w') →
      o.uponIn (fw S.C.rd) 0 S.C.P a (Next S k l ps ro0 F) (fun _ _ _ => False) ((execOp a.eval o).run S.C.P w) := by
    rintro nl' b' off' cap' w' k1 k2 k3 hr ⟨H', g'⟩
    rw [hr]
    simp only [Oper.uponIn, h2]
    obtain ⟨q1, q2⟩ := h nl' b' off' cap' k1 k2 k3
    exact ⟨_, ⟨ro, H', hle, g'.put h9 (by simp only [SV.ok])⟩, q1, q2⟩
  have hold := fun (P : Program) (w' : World) (hw : ∀ b : Nat, w'.heap[b]? = w.heap[b]?) => firstCells_old (cap := cap) (n := n) g h10 hch (Nat.le_refl _) P w' hw
  obtain ⟨H1, H2, hs1, hsat, hput⟩ := g.swap hlt
  rw [hch] at hs1
  by_cases hroom : n + m ≤ cap
  · -- in its place
    cases nl with
    | true =>
      simp only [Chunk.sat, if_true] at hs1
      obtain ⟨rfl, hn0, hc0⟩ := hs1
      have hm0 : m = 0 := by omega
      have hr := app_room h3 h4 h5 (base := none) (n := n) (cap := cap) (A := A) (m := m) (c := xc) (news := SV.dens (rowL gx m i.size)) (w := w) (w' := w) (s1 S.C.P w (fun _ => rfl)) hroom (by simp) (fun _ => rfl) o.type
      exact done true b off cap w (fun h => h) (fun h => h) (Nat.le_refl _) (hexec _ _ (by simpa [SV.den] using hr)) (hput w [] (.row true b e off i.size (n + m) cap (appF f n gx)) (by simp only [Chunk.sat, if_true]; exact ⟨trivial, by omega, hc0⟩) hsat)
    | false =>
      obtain ⟨arr, fz, rfl, hfz, hnc, hsz, hcell⟩ := hs1
      have hb := (hsat.own (b, .cells arr e fz) (by simp)).1
      have hlen : (SV.dens (rowL gx m i.size)).length = m * i.size := by rw [dens_eq]; simp [rowL_len]
      have hmul : (n + m) * i.size ≤ cap * i.size := Nat.mul_le_mul_right _ hroom
      rw [Nat.add_mul] at hmul
      have hfitc : off + n * i.size + (SV.dens (rowL gx m i.size)).length ≤ arr.size := by rw [hlen]; omega
      have hone : ∀ u ∈ SV.dens (rowL gx m i.size), u.oneCell' = true := by
        rw [dens_eq]
        intro u hu
        obtain ⟨s, hs, rfl⟩ := List.mem_map.1 hu
        obtain ⟨p, q, hp, hq, rfl⟩ := rowL_of h10 hs
        exact one_den (hones p q hp hq)
      obtain ⟨w', r1, r2, r3, r4, r5, r6⟩ := stCells S.C.P b (off + n * i.size) e fz (SV.dens (rowL gx m i.size)) 0 _ w hb hfz (by simpa using hfitc) hone
      have hr := app_room h3 h4 h5 (base := some ⟨b, off, none⟩) (n := n) (cap := cap) (A := A) (m := m) (c := xc) (news := SV.dens (rowL gx m i.size)) (w := w) (w' := w') (s1 S.C.P w (fun _ => rfl)) hroom
        (fun ad had => by injection had with had; subst had; rw [add_none]; exact r1) (by simp) o.type
      refine done false b off cap w' (fun _ => rfl) (fun h => h) (Nat.le_refl _) (hexec _ _ (by simpa [SV.den] using hr)) (hput w' [(b, .cells (arr.toList.take (off + n * i.size + 0) ++ SV.dens (rowL gx m i.size) ++ arr.toList.drop (off + n * i.size + 0 + (SV.dens (rowL gx m i.size)).length)).toArray e fz)] _ ?_ ?_)
      · have hsz2 : (arr.toList.take (off + n * i.size + 0) ++ SV.dens (rowL gx m i.size) ++ arr.toList.drop (off + n * i.size + 0 + (SV.dens (rowL gx m i.size)).length)).toArray.size = arr.size := by
          simp only [List.size_toArray, List.length_append, List.length_take, List.length_drop, Array.length_toList]
          omega
        refine ⟨_, fz, rfl, by rw [hsz2]; exact hfz, hroom, by rw [hsz2]; exact hsz, fun p q hp hq => ?_⟩
        have hpm : (p + 1) * i.size ≤ (n + m) * i.size := Nat.mul_le_mul_right _ hp
        rw [Nat.add_mul, Nat.one_mul, Nat.add_mul] at hpm
        rw [List.getElem?_toArray, over_get _ _ _ _ (by simpa using hfitc), Nat.add_zero, hlen]
        unfold appF
        by_cases hpn : p < n
        · have hm1 : (p + 1) * i.size ≤ n * i.size := Nat.mul_le_mul_right _ hpn
          rw [Nat.add_mul, Nat.one_mul] at hm1
          have hbl : Nat.blt p n = true := by rw [Nat.blt_eq]; exact hpn
          rw [if_neg (by omega), hbl, cond_true, Array.getElem?_toList]
          exact hcell p q hpn hq
        · have hm1 : n * i.size ≤ p * i.size := Nat.mul_le_mul_right _ (by omega)
          have hbl : Nat.blt p n = false := by rw [Bool.eq_false_iff, ne_eq, Nat.blt_eq]; exact hpn
          have e5 : off + p * i.size + q - (off + n * i.size) = (p - n) * i.size + q := by rw [Nat.sub_mul]; omega
          rw [if_pos (by omega), hbl, cond_false, e5, dens_eq, List.getElem?_map, rowL_at gx (by omega) hq]
          exact ⟨rfl, s2 _ _ (by omega) hq⟩
      · exact hsat.set r2 r3 r4 r5 r6
  · obtain ⟨nc, hnc, hr⟩ := app_grow h3 h4 h5 h8 (base := if nl then none else some ⟨b, off, none⟩) (n := n) (cap := cap) (A := A) (m := m) (c := xc) (olds := SV.dens (rowL f n i.size)) (news := SV.dens (rowL gx m i.size)) (w := w)
      (fun w' hw => s1 S.C.P w' hw) (fun w' hw => (hold S.C.P w' hw).1) (by omega) h13 hfit o.type
    have hrow := row_grown (ro := ro) (b := w.heap.size) (e := e) h11 hnc (hold S.C.P w (fun _ => rfl)).2 s2
    exact done false w.heap.size 0 nc _ (fun _ => rfl) (fun _ => rfl) (by omega) (hexec _ _ hr) (hput _ _ _ hrow (((hsat.drop).alloc _).drawn _))

theorem stp_app2K {S : Setup} {k : List Frag} {st : St} {d e sz bytes : Nat} {z : List Value} {so xo : Opd} {ps : List SOp} {l : List (SOp × List SOp)} {c b off n cap N : Nat} {nl : Bool} {x : SV} {f gx f2 : Nat → Nat → SV} {m : Nat} {vc : Prop}
    (hs : opv st.env so = some (.osl c nl b off n cap)) (hx : opv st.env xo = some x) (hch : getC st.heap c = .row nl b e off sz n cap f) (hsrc : srcV st.heap x sz = some (m, gx, vc)) (hvc : vc) (hones : onesF gx m sz) (hfit : (n + m) * bytes ≤ 140737488355328)
    (hN : n + m = N) (hf : ∀ i j, i < N → j < sz → appF f n gx i j = f2 i j)
    (h : ∀ nl' b' off' cap', (nl = false → nl' = false) → (off = 0 → off' = 0) → cap ≤ cap' → recheck S.C ⟨(d, .osl c nl' b' off' N cap') :: st.env, setC st.heap c (.row nl' b' e off' sz N cap' (appF f n gx))⟩ ps ∧
      Safe S (.ops l :: k) ⟨(d, .osl c nl' b' off' N cap') :: st.env, setC st.heap c (.row nl' b' e off' sz N cap' f2)⟩) :
    Stp S k l ps st (.app d e sz bytes z so xo) := by
  subst hN
  refine stp_appK hs hx hch hsrc hvc hones hfit fun nl' b' off' cap' k1 k2 k3 => ⟨(h nl' b' off' cap' k1 k2 k3).1, ?_⟩
  refine Safe.sub (st' := ⟨(d, .osl c nl' b' off' (n + m) cap') :: st.env, setC st.heap c (.row nl' b' e off' sz (n + m) cap' f2)⟩) ⟨fun t s ht => ⟨s, ht, rfl, fun _ h => h⟩, fun ro H hh => ⟨H, [], by simp, ?_⟩⟩ (h nl' b' off' cap' k1 k2 k3).2
  have := hsat_set c (d := .row nl' b' e off' sz (n + m) cap' f2) (fun H hr => by
    rw [getC_set _ _ _ (getC_lt (by rw [hch]; simp))] at hr
    exact row_congr hf hr) hh
  rwa [setC_setC] at this


end
end Go.SX
