/- Reads, all of them. -/
import Derived.Test.YthlkoehifpnoeaaDoorSxE
namespace Go.SX
section
variable {C : Ctx} {ro : RO} {H F : Hp} {st : St} {a : Act} {w : World}

theorem lift_v {P : Program} {m : Sem Value} {v : Value} (h : m.run P w = .ok v w) : (do pure (.value (← m)) : Sem Next).run P w = .ok (.value v) w := by
  simp [h]

theorem rd_sound (g : G C ro H F st a w) {o : Oper} {r : SRd} (hc : crd C.P o.op = some r) {s : SV} {vc : Prop} (hv : rdv st r = some (s, vc)) (hvc : vc) :
    (execOp a.eval o).run C.P w = .ok (.value s.den) w ∧ s.ok ro := by
  obtain ⟨dst, op, ty, pos, aft, gd⟩ := o
  cases op <;> simp only [crd, Option.map_eq_some_iff, reduceCtorEq] at hc
  case move x | assign x =>
    obtain ⟨y, hy, rfl⟩ := hc
    simp only [rdv] at hv
    split at hv
    · rename_i s' e
      simp only [Option.some.injEq, Prod.mk.injEq] at hv
      obtain ⟨rfl, rfl⟩ := hv
      obtain ⟨h1, h2⟩ := opv_ok g hy e
      exact ⟨by simp [execOp, h1], h2⟩
    · cases hv
  case pick c x y =>
    cases h1 : copd c with
    | none => simp [h1] at hc
    | some c' => cases h2 : copd x with
      | none => simp [h1, h2] at hc
      | some x' => cases h3 : copd y with
        | none => simp [h1, h2, h3] at hc
        | some y' =>
          simp only [h1, h2, h3, Option.bind_eq_bind, Option.bind_some, Option.some.injEq] at hc
          subst hc
          exact pick_sound g h1 h2 h3 hv hvc
  case nilCheck x =>
    obtain ⟨y, hy, rfl⟩ := hc
    exact nchk_sound g hy hv rfl
  case fieldAddr sT x f =>
    split at hc
    · rename_i fs hs
      split at hc
      · rename_i fl hf
        split at hc
        · rename_i n hn
          simp only [Option.map_eq_some_iff] at hc
          obtain ⟨y, hy, rfl⟩ := hc
          obtain ⟨h1, h2⟩ := fadd_sound g hs hf hn hy hv
          exact ⟨lift_v h1, h2⟩
        · cases hc
      · cases hc
    · cases hc
  case field sT x f =>
    split at hc
    · rename_i fs hs
      split at hc
      · rename_i fl hf
        obtain ⟨n, y, hn, hy, h3⟩ := bind_some2 hc
        injection h3 with h3
        subst h3
        obtain ⟨h1, h2⟩ := fld_sound g hs hf hn hy hv
        exact ⟨lift_v h1, h2⟩
      · cases hc
    · cases hc
  case load t x =>
    obtain ⟨n, y, hn, hy, h3⟩ := bind_some2 hc
    injection h3 with h3
    subst h3
    simp only [rdv] at hv
    split at hv
    · rename_i s' e
      obtain ⟨h1, h2⟩ := opv_ok g hy e
      obtain ⟨h4, h5⟩ := ldV_sound g hn h2 hv hvc
      refine ⟨lift_v ?_, h5⟩
      rw [h1]
      exact h4
    · cases hv
  case binOp o t x y yT =>
    cases h1 : binCls C.P o t with
    | none => simp [h1] at hc
    | some c => cases h2 : copd x with
      | none => simp [h1, h2] at hc
      | some x' => cases h3 : copd y with
        | none => simp [h1, h2, h3] at hc
        | some y' =>
          simp only [h1, h2, h3, Option.bind_eq_bind, Option.bind_some, Option.some.injEq] at hc
          subst hc
          simp only [rdv] at hv
          split at hv
          · rename_i sx sy e1 e2
            obtain ⟨k1, k2⟩ := opv_ok g h2 e1
            obtain ⟨k3, k4⟩ := opv_ok g h3 e2
            obtain ⟨k5, k6⟩ := binV_sound (ox := x) (oy := y) (w := w) h1 k2 k4 hv hvc
            refine ⟨?_, k6⟩
            refine lift_v ?_
            rw [k1, k3]
            exact k5
          · cases hv
  case unOp o t x =>
    obtain ⟨y, hy, rfl⟩ := hc
    obtain ⟨h1, h2⟩ := un_sound g hy hv hvc
    exact ⟨lift_v h1, h2⟩
  case extract x i =>
    obtain ⟨y, hy, rfl⟩ := hc
    obtain ⟨h1, h2⟩ := ext_sound g hy hv
    exact ⟨lift_v h1, h2⟩
  case indexAddr t x i =>
    split at hc
    · rename_i e ht
      split at hc
      · rename_i n hn
        obtain ⟨x', i', hx, hi, h3⟩ := bind_some2 hc
        injection h3 with h3
        subst h3
        obtain ⟨h1, h2⟩ := idx_sound g ht hn hx hi hv hvc
        exact ⟨lift_v h1, h2⟩
      · cases hc
    · cases hc
  case index t x i =>
    split at hc
    · rename_i ht
      obtain ⟨x', i', hx, hi, h3⟩ := bind_some2 hc
      injection h3 with h3
      subst h3
      obtain ⟨h1, h2⟩ := sidx_sound g ht hx hi hv hvc
      exact ⟨lift_v h1, h2⟩
    · cases hc
  case slice t x lo hi mx =>
    split at hc
    · rename_i e ht
      cases h1 : szOf C.P e with
      | none => simp [h1] at hc
      | some n => cases h2 : copd x with
        | none => simp [h1, h2] at hc
        | some x' => cases h3 : copt lo with
          | none => simp [h1, h2, h3] at hc
          | some lo' => cases h4 : copt hi with
            | none => simp [h1, h2, h3, h4] at hc
            | some hi' => cases h5 : copt mx with
              | none => simp [h1, h2, h3, h4, h5] at hc
              | some mx' =>
                simp only [h1, h2, h3, h4, h5, Option.bind_eq_bind, Option.bind_some, Option.some.injEq] at hc
                subst hc
                obtain ⟨k1, k2⟩ := slc_sound g ht h1 h2 h3 h4 h5 hv hvc
                exact ⟨lift_v k1, k2⟩
    · rename_i ht
      split at hc
      · cases h2 : copd x with
        | none => simp [h2] at hc
        | some x' => cases h3 : copt lo with
          | none => simp [h2, h3] at hc
          | some lo' => cases h4 : copt hi with
            | none => simp [h2, h3, h4] at hc
            | some hi' =>
              simp only [h2, h3, h4, Option.bind_eq_bind, Option.bind_some, Option.some.injEq] at hc
              subst hc
              obtain ⟨k1, k2⟩ := ssl_sound g ht h2 h3 h4 hv hvc
              exact ⟨lift_v k1, k2⟩
      · cases hc
    · cases hc
  case makeFunc fn x y =>
    cases h2 : copds x.toList with
    | none => simp [h2] at hc
    | some x' => cases h3 : copds y.toList with
      | none => simp [h2, h3] at hc
      | some y' =>
        simp only [h2, h3, Option.bind_eq_bind, Option.bind_some, Option.some.injEq] at hc
        subst hc
        simp only [rdv] at hv
        split at hv
        · rename_i sx sy e1 e2
          simp only [Option.some.injEq, Prod.mk.injEq] at hv
          obtain ⟨rfl, rfl⟩ := hv
          obtain ⟨k1, k2⟩ := opvs_ok g h2 e1
          obtain ⟨k3, k4⟩ := opvs_ok g h3 e2
          refine ⟨?_, by simp only [SV.ok]; exact ⟨k2, k4⟩⟩
          have e3 : x.map a.eval = (SV.dens sx).toArray := by apply Array.ext'; simpa using k1
          have e4 : y.map a.eval = (SV.dens sy).toArray := by apply Array.ext'; simpa using k3
          simp [execOp, Instr.makeFunc, SV.den, e3, e4]
        · cases hv
  case build t ps =>
    split at hc
    · rename_i fs z hu hz
      cases hi : C.P.info? t with
      | none => simp [hi] at hz
      | some i =>
        simp only [hi, Option.bind_some] at hz
        split at hc
        · rename_i pl hpl
          simp only [Option.map_eq_some_iff] at hc
          obtain ⟨qs, hq, rfl⟩ := hc
          obtain ⟨h1, h2⟩ := build_sound g hi hz hu hpl hq hv
          exact ⟨lift_v h1, h2⟩
        · cases hc
    · cases hc
  case convert sT d x =>
    split at hc
    · rename_i k0 k hs hd
      simp only [Option.map_eq_some_iff] at hc
      obtain ⟨y, hy, rfl⟩ := hc
      obtain ⟨h1, h2⟩ := conv_sound g hs hd hy hv hvc
      exact ⟨lift_v h1, h2⟩
    · cases hc
  case call c =>
    obtain ⟨callee, args, argTypes⟩ := c
    cases callee <;> simp only [reduceCtorEq] at hc
    rename_i b
    obtain ⟨al⟩ := args
    obtain ⟨tl⟩ := argTypes
    split at hc
    · rename_i x t ha htl
      simp only at ha htl
      subst ha htl
      split at hc
      · rename_i e ht
        simp only [Option.map_eq_some_iff] at hc
        obtain ⟨y, hy, rfl⟩ := hc
        obtain ⟨h1, h2⟩ := len_sound g ht hy hv ty
        exact ⟨by simp [execOp, resolve, invoke, builtin, h1], h2⟩
      · rename_i ht
        simp only [Option.map_eq_some_iff] at hc
        obtain ⟨y, hy, rfl⟩ := hc
        obtain ⟨h1, h2⟩ := lens_sound g ht hy hv ty
        exact ⟨by simp [execOp, resolve, invoke, builtin, h1], h2⟩
      · cases hc
    · rename_i x t ha htl
      simp only at ha htl
      subst ha htl
      split at hc
      · rename_i e ht
        simp only [Option.map_eq_some_iff] at hc
        obtain ⟨y, hy, rfl⟩ := hc
        obtain ⟨h1, h2⟩ := cap_sound g ht hy hv ty
        exact ⟨by simp [execOp, resolve, invoke, builtin, h1], h2⟩
      · cases hc
    · rename_i x y ha
      simp only at ha
      subst ha
      obtain ⟨x', y', hx, hy, h3⟩ := bind_some2 hc
      injection h3 with h3
      subst h3
      obtain ⟨h1, h2⟩ := mn_sound g hx hy hv tl.toArray ty
      exact ⟨by simp [execOp, resolve, invoke, builtin, h1], h2⟩
    · rename_i x y ha
      simp only at ha
      subst ha
      obtain ⟨x', y', hx, hy, h3⟩ := bind_some2 hc
      injection h3 with h3
      subst h3
      obtain ⟨h1, h2⟩ := mx_sound g hx hy hv tl.toArray ty
      exact ⟨by simp [execOp, resolve, invoke, builtin, h1], h2⟩
    · cases hc
end
end Go.SX
