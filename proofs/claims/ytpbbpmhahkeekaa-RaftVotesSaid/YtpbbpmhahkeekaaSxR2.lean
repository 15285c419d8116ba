/- Contracts of the raft package: copies. -/
import Derived.Test.YtpbbpmhahkeekaaSxR1
namespace Go.SX
open Go.Proofs
set_option maxRecDepth 1000000
variable {E : Env}

def encB (x : UInt8) : List SV := [.val (.int .u8 x.toNat)]
abbrev vB (a : Option Addr) (cap : Nat) (xs : List UInt8) : SV := .view a xs.length cap 1 (rowsV encB xs)
structure By where
  a : Option Addr
  cap : Nat
  xs : List UInt8
instance : Inhabited By := ⟨⟨none, 0, []⟩⟩
abbrev By.sv (b : By) : SV := vB b.a b.cap b.xs
structure Ent where
  ix : Int
  tm : Int
  kd : Int
  d : By
instance : Inhabited Ent := ⟨⟨0, 0, 0, default⟩⟩
def encE (e : Ent) : List SV := [I e.ix, I e.tm, I e.kd, vB e.d.a e.d.cap e.d.xs]
abbrev vE (a : Option Addr) (cap : Nat) (xs : List Ent) : SV := .view a xs.length cap 4 (rowsV encE xs)
@[simp, go_sem] theorem rowsE0 (xs : List Ent) (i : Nat) : rowsV encE xs i 0 = I (xs.getD i default).ix := rfl
@[simp, go_sem] theorem rowsE1 (xs : List Ent) (i : Nat) : rowsV encE xs i 1 = I (xs.getD i default).tm := rfl
@[simp, go_sem] theorem rowsE2 (xs : List Ent) (i : Nat) : rowsV encE xs i 2 = I (xs.getD i default).kd := rfl
@[simp, go_sem] theorem rowsE3 (xs : List Ent) (i : Nat) : rowsV encE xs i 3 = (xs.getD i default).d.sv := rfl
@[simp, go_sem] theorem rowsB (xs : List UInt8) (i : Nat) : rowsV encB xs i 0 = .val (.int .u8 ((xs.getD i 0).toNat)) := rfl

def CloneP (sz : Nat) {α : Type} [Inhabited α] (enc : α → List SV) (xs : List α) (v : SV) (hp : List Chunk) : Prop :=
  (xs = [] ∧ v = .view none 0 0 1 (fun _ _ => .val undef)) ∨ ∃ (c : Nat) (nl : Bool) (b : Nat) (T : TypeId) (off cap : Nat), v = .osl c nl b off xs.length cap ∧ hp = [.row nl b T off sz xs.length cap (rowsV enc xs)]

theorem CloneP.fin {sz : Nat} {α : Type} [Inhabited α] {enc : α → List SV} {xs : List α} {v : SV} {hp : List Chunk} (h : CloneP sz enc xs v hp) {Post' : SV → List Chunk → Prop} (hP : ∀ a' cap', Post' (.view a' xs.length cap' sz (rowsV enc xs)) []) :
    (∃ v', Eqv v v' ∧ Post' v' []) ∨ ∃ c nl b T off sz n cap f, v = .osl c nl b off n cap ∧ (∃ X, hp = .row nl b T off sz n cap f :: X) ∧ Post' (frz nl b off n cap sz f) [] := by
  rcases h with ⟨rfl, rfl⟩ | ⟨c, nl, b, T, off, cap, rfl, rfl⟩
  · exact .inl ⟨_, Eqv.nil 0 1 sz _ (rowsV enc []), hP none 0⟩
  · exact .inr ⟨c, nl, b, T, off, sz, xs.length, cap, _, rfl, ⟨[], rfl⟩, hP _ _⟩

theorem appF_zero (f g : Nat → Nat → SV) : appF f 0 g = g := by
  funext i j
  have : Nat.blt i 0 = false := by rw [Bool.eq_false_iff, ne_eq, Nat.blt_eq]; omega
  simp only [appF, this, cond_false, Nat.sub_zero]

theorem c38 (a : Option Addr) (cap : Nat) (xs : List Int) (hl : xs.length * 8 ≤ 140737488355328) : Spec Try.prog E 38 [vI a cap xs] [] (fun v hp => hp = [] ∧ ∃ a' cap', v = vI a' cap' xs) := by
  refine Spec.of_ok fun ⟨ro, hro⟩ => ?_
  have ha := view_nil (oks_iff.1 hro _ (List.mem_singleton.2 rfl)) (by omega)
  refine Spec.frz (Post := CloneP 1 encI xs) ?_ (fun v hp h => h.fin (Post' := fun v hp => hp = [] ∧ ∃ a' cap', v = vI a' cap' xs) fun a' cap' => ⟨rfl, a', cap', rfl⟩)
  refine spec_of (keep := k38) (args' := [vI a cap xs]) Try.func38 rfl Try.ntmps38 s38_ok (by simp) ⟨rfl, fun _ h => h⟩ (fun _ _ h => h) (go_ok _ 100 _ _ ?_)
  simp only [go_sem, s38, k38, Nat.reduceBEq, Try.results38]
  refine ⟨fun h => .inl ⟨List.length_eq_zero_iff.1 (ha h), rfl⟩, fun h b => ?_⟩
  refine (stp_app (c := 0) (x := vI a cap xs) (gx := rowsV encI xs) rfl rfl rfl rfl rfl (onesF_rows fun x => ⟨rfl, by simp [encI, ones, one, Value.oneCell']⟩) (by omega) fun nl' b' off' cap' => ?_).safe trivial
  refine ⟨trivial, ?_⟩
  rw [Nat.zero_add, appF_zero]
  refine go_ok _ 100 _ _ ?_
  simp only [go_sem, Nat.reduceBEq, Try.results38]
  exact .inr ⟨0, nl', b', 3, off', cap', rfl, rfl⟩
end Go.SX
