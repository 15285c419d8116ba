/- SX: an append of zeros ('append(s, make([]T, n)...)') to a slice that is nil. -/
import Derived.Test.YtpbbpmhahkeekaaSxZA
namespace Go.SX
section
variable {S : Setup} {k : List Frag} {st : St}

theorem app_mk {P : Program} {t t' e : TypeId} {kd kk : IntKind} {i : TypeInfo} {z : Value} (ht : P.underlying t = some (.slice e)) (ht' : P.underlying t' = some (.int kd)) (hi : P.info? e = some i) (hz : i.zero = some z) {m : Nat} {w : World}
    (hm : 0 < m) (hb0 : 0 < i.bytes) (hs0 : 0 < i.size) (hfit : m * i.bytes ≤ 140737488355328) (ty : TypeId) :
    ∃ nc, m ≤ nc ∧ (Builtin.append_ #[t, t'] ty #[.slice none 0 0, .int kk m]).run P w =
      .ok (.slice (some ⟨w.heap.size, 0, none⟩) m nc) { w with heap := w.heap.push (.cells (#[] ++ Builtin.zeroCells z.cells m ++ Builtin.zeroCells z.cells (nc - m)) e), drawn := w.drawn + 1 } := by
  have hn : ¬ (0 + m ≤ 0) := by omega
  have h63 : m ≤ 140737488355328 := by
    have : m * 1 ≤ m * i.bytes := Nat.mul_le_mul_left _ hb0
    omega
  have hw : IntKind.i64.wrap (m : Int) = m := IntWalk.i64_in _ (by omega)
  have h63' : ¬ (9223372036854775807 < (m : Int)) := by omega
  have h48 := growslice_fits (need := 0 + m) (old := 0) (by omega) (by simpa using hfit)
  have h48' : ¬ (281474976710656 < Builtin.nextslicecap (0 + m) 0 * i.bytes) := by omega
  have h48'' : ¬ (281474976710656 < (m : Int) * (i.bytes : Int)) := by
    have : (m : Int) * (i.bytes : Int) = ((m * i.bytes : Nat) : Int) := by simp
    omega
  rw [Nat.zero_add] at h48'
  have hneg : ¬ ((m : Int) < 0) := by omega
  have hm0 : m ≠ 0 := by omega
  have hms : m * i.size ≠ 0 := Nat.ne_of_gt (Nat.mul_pos hm hs0)
  refine ⟨grownCap w (0 + m) 0 e, by have := grownCap_ge w (0 + m) 0 e; omega, ?_⟩
  simp [Builtin.append_, run_underlying ht, run_underlying ht', sizeOf, typeInfo, zeroValue, hi, hz, Builtin.lenOf, h63', h48', h48'', hw, hms, hneg, hm0, Question.forced, newRow, grownCap, asInt, asIntOf, Builtin.firstCells]
  try rfl
theorem stp_appmk {d : Nat} {x y : Operand} {t t' ty e : TypeId} {ps : List SOp} {l : List (SOp × List SOp)} {m : Nat} {kd kk : IntKind} {i : TypeInfo} {z : Value} {xo yo : Opd} {sx : SV} (hxo : copd x = some xo) (hyo : copd y = some yo)
    (ht : S.C.P.underlying t = some (.slice e)) (ht' : S.C.P.underlying t' = some (.int kd)) (hi : S.C.P.info? e = some i) (hz : i.zero = some z) (hzs : z.cells.size = i.size) (hm : 0 < m) (hb0 : 0 < i.bytes) (hs0 : 0 < i.size) (hfit : m * i.bytes ≤ 140737488355328)
    (hx : opv st.env xo = some sx) (hden : sx.den = .slice none 0 0) (hy : opv st.env yo = some (.val (.int kk m)))
    (h : ∀ b nc f, recheck S.C ⟨(d, .osl st.heap.length false b 0 m nc) :: st.env, st.heap ++ [.row false b e 0 i.size 0 nc f]⟩ ps ∧
      Safe S (.ops l :: k) ⟨(d, .osl st.heap.length false b 0 m nc) :: st.env, st.heap ++ [.row false b e 0 i.size 0 nc f]⟩) :
    Stp S k l ps st (.oth (some d) (.call { callee := .builtin .append, args := #[x, y], argTypes := #[t, t'] }) ty) := by
  intro ro0 F a w o hg hce
  obtain ⟨i1, i2, i3, i4⟩ := ceff_inv hce
  obtain ⟨ro, H, hle, g⟩ := hg
  obtain ⟨e1, _⟩ := opv_ok g hxo hx
  obtain ⟨e2, _⟩ := opv_ok g hyo hy
  obtain ⟨nc, hnc, hr⟩ := app_mk (P := S.C.P) (kk := kk) (w := w) ht ht' hi hz hm hb0 hs0 hfit o.type
  have hrun : (execOp a.eval o).run S.C.P w = .ok (.value (.slice (some ⟨w.heap.size, 0, none⟩) m nc)) { w with heap := w.heap.push (.cells (#[] ++ Builtin.zeroCells z.cells m ++ Builtin.zeroCells z.cells (nc - m)) e), drawn := w.drawn + 1 } := by
    obtain ⟨dst, op, ty', pos, aft, gd⟩ := o
    simp only at i1 hr
    subst i1
    simp [execOp, resolve, invoke, builtin, e1, e2, hden, SV.den, hr]
  rw [hrun]
  simp only [Oper.uponIn, i2]
  obtain ⟨q1, q2⟩ := h w.heap.size nc (fun _ _ => default)
  have hrow : (Chunk.row false w.heap.size e 0 i.size 0 nc (fun _ _ => default)).sat ro [(w.heap.size, .cells (#[] ++ Builtin.zeroCells z.cells m ++ Builtin.zeroCells z.cells (nc - m)) e)] := by
    refine ⟨_, (0, 0), rfl, Fz.zero _, Nat.zero_le _, ?_, fun i' j hi hj => absurd hi (Nat.not_lt_zero _)⟩
    simp only [Array.size_append, size_zeroCells, hzs, Nat.zero_add]
    have : m + (nc - m) = nc := by omega
    simp [this, ← Nat.add_mul]
  have g1 := g.alloc hrow
  have g2 : G S.C ro _ F ⟨st.env, st.heap ++ [.row false w.heap.size e 0 i.size 0 nc (fun _ _ => default)]⟩ a { w with heap := w.heap.push (.cells (#[] ++ Builtin.zeroCells z.cells m ++ Builtin.zeroCells z.cells (nc - m)) e), drawn := w.drawn + 1 } :=
    ⟨g1.defs, g1.size, g1.heap, g1.sat.drawn _, g1.env⟩
  exact ⟨_, ⟨ro, _, hle, g2.put (s := .osl st.heap.length false w.heap.size 0 m nc) (by simpa using i4) (by simp only [SV.ok])⟩, q1, q2⟩
end
end Go.SX
