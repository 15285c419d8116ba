/- A disk's calls, as they come in. -/
import Derived.Test.YthpnhfnilogflaaSxK21
import Derived.Test.YthpnhfnilogflaaSxZ
namespace Go.SX
open Go.Proofs Go.RowKit
set_option maxRecDepth 1000000

structure Call where
  kind : Int
  n : Int
  A : List UInt8
  B : List UInt8
  data : Sl UInt8
  picks : Sl Int
instance : Inhabited Call := ⟨⟨0, 0, [], [], default, default⟩⟩
def encC (c : Call) : List SV := [I c.kind, I c.n, T c.A, T c.B, vB c.data.a c.data.cap c.data.xs, vI c.picks.a c.picks.cap c.picks.xs]
abbrev vC (a : Option Addr) (cap : Nat) (cs : List Call) : SV := .view a cs.length cap 6 (rowsV encC cs)
@[simp, go_sem] theorem rowsC0 (cs : List Call) (i : Nat) : rowsV encC cs i 0 = I (cs.getD i default).kind := rfl
@[simp, go_sem] theorem rowsC1 (cs : List Call) (i : Nat) : rowsV encC cs i 1 = I (cs.getD i default).n := rfl
@[simp, go_sem] theorem rowsC2 (cs : List Call) (i : Nat) : rowsV encC cs i 2 = T (cs.getD i default).A := rfl
@[simp, go_sem] theorem rowsC3 (cs : List Call) (i : Nat) : rowsV encC cs i 3 = T (cs.getD i default).B := rfl
@[simp, go_sem] theorem rowsC4 (cs : List Call) (i : Nat) : rowsV encC cs i 4 = vB (cs.getD i default).data.a (cs.getD i default).data.cap (cs.getD i default).data.xs := rfl
@[simp, go_sem] theorem rowsC5 (cs : List Call) (i : Nat) : rowsV encC cs i 5 = vI (cs.getD i default).picks.a (cs.getD i default).picks.cap (cs.getD i default).picks.xs := rfl
/-- what holds of a call that came in -/
structure CallOk (c : Call) : Prop where
  n : inI64 c.n
  A : c.A.length < 2 ^ 47
  B : c.B.length < 2 ^ 47
theorem opens_call {W : World} : Opens Try.prog W 46 encC CallOk := by
  have hb := opens_u8 (P := Try.prog) (W := W) (t := 5) (by kernel_rfl)
  have hB : Opens Try.prog W 22 (encSl encB 1) _ := opens_slice (P := Try.prog) (W := W) (e := 5) (sz := 1) Try.underlying22 (by kernel_rfl) (by decide) (of_decide_eq_true (by kernel_rfl)) (fun _ => rfl) hb
  have hI : Opens Try.prog W 35 (encSl encI 1) _ := opens_slice (P := Try.prog) (W := W) (e := 3) (sz := 1) (by kernel_rfl) (by kernel_rfl) (by decide) (of_decide_eq_true (by kernel_rfl)) (fun _ => rfl) (opens_i64 (by kernel_rfl))
  have hn := opens_i64 (P := Try.prog) (W := W) (t := 3) (by kernel_rfl)
  have hs := opens_str (P := Try.prog) (W := W) (t := 9) (by kernel_rfl)
  have c3 : Try.prog.cellsOf 3 = 1 := by kernel_rfl
  have c9 : Try.prog.cellsOf 9 = 1 := by kernel_rfl
  have c22 : Try.prog.cellsOf 22 = 1 := by kernel_rfl
  have c35 : Try.prog.cellsOf 35 = 1 := by kernel_rfl
  have f0 := opensF_snoc (f := { name := "Kind", type := 3, offset := 0, embedded := false, tag := "", pkgPath := "", byteOffset := 0 }) (k := 1) (opensF_nil (P := Try.prog) (W := W)) (by simp) rfl c3 rfl rfl hn
  have f1 := opensF_snoc (f := { name := "N", type := 3, offset := 1, embedded := false, tag := "", pkgPath := "", byteOffset := 8 }) (k := 2) f0 (by simp [c3]) rfl c3 rfl rfl hn
  have f2 := opensF_snoc (f := { name := "A", type := 9, offset := 2, embedded := false, tag := "", pkgPath := "", byteOffset := 16 }) (k := 3) f1 (by simp [c3]) rfl c9 rfl rfl hs
  have f3 := opensF_snoc (f := { name := "B", type := 9, offset := 3, embedded := false, tag := "", pkgPath := "", byteOffset := 32 }) (k := 4) f2 (by simp [c3, c9]) rfl c9 rfl rfl hs
  have f4 := opensF_snoc (f := { name := "Data", type := 22, offset := 4, embedded := false, tag := "", pkgPath := "", byteOffset := 48 }) (k := 5) f3 (by simp [c3, c9]) rfl c22 rfl rfl hB
  have f5 := opensF_snoc (f := { name := "Picks", type := 35, offset := 5, embedded := false, tag := "", pkgPath := "", byteOffset := 72 }) (k := 6) f4 (by simp [c3, c9, c22]) rfl c35 rfl rfl hI
  refine opens_map (opens_struct Try.underlying46 (n := 6) (by kernel_rfl) f5) fun x => ⟨⟨x.1.1.1.1.1.2, x.1.1.1.1.2, x.1.1.1.2, x.1.1.2, x.1.2, x.2⟩, rfl, fun h => ⟨h.1.1.1.1.2, h.1.1.1.2, h.1.1.2⟩⟩
theorem opens_calls {W : World} : Opens Try.prog W 44 (encSl encC 6) (fun s => s.xs.length < 2 ^ 47 ∧ ∀ c ∈ s.xs, CallOk c) :=
  opens_slice (e := 46) (sz := 6) (by kernel_rfl) (by kernel_rfl) (by decide) (of_decide_eq_true (by kernel_rfl)) (fun _ => rfl) opens_call

/-- what an operation leaves alone -/
structure Keeps (p p' : PS) (z : List UInt8) : Prop where
  left : p'.left = 0
  dead : p'.dead = p.dead
  room : p'.room = p.room
  get : getF p'.fs z = getF p.fs z
theorem keeps_app {p : PS} (h : p.left = 0) {x ys z : List UInt8} (hz : x ≠ z) : Keeps p (p.app x ys).2 z := by
  unfold PS.app
  rw [begun_quiet h]
  split
  · exact ⟨h, rfl, rfl, rfl⟩
  split
  · exact ⟨h, rfl, rfl, rfl⟩
  split
  · exact ⟨h, rfl, rfl, rfl⟩
  · exact ⟨h, rfl, rfl, by show getF (addF p.fs x ys) z = _; rw [get_add, if_neg hz]⟩
theorem keeps_one {p : PS} (h : p.left = 0) {x z : List UInt8} {g : List FS → List FS} (hg : getF (g p.fs) z = getF p.fs z) : Keeps p (p.one x g).2 z := by
  unfold PS.one
  rw [begun_quiet h]
  split
  · exact ⟨h, rfl, rfl, rfl⟩
  split
  · exact ⟨h, rfl, rfl, rfl⟩
  split
  · exact ⟨h, rfl, rfl, rfl⟩
  · exact ⟨h, rfl, rfl, hg⟩
theorem keeps_ren {p : PS} (h : p.left = 0) (hn : (p.fs.map (·.nm)).Nodup) {x y z : List UInt8} (hx : x ≠ z) (hy : y ≠ z) : Keeps p (p.ren x y).2 z := by
  unfold PS.ren
  rw [begun_quiet h]
  split
  · exact ⟨h, rfl, rfl, rfl⟩
  split
  · exact ⟨h, rfl, rfl, rfl⟩
  split
  · exact ⟨h, rfl, rfl, rfl⟩
  · refine ⟨h, rfl, rfl, ?_⟩
    show getF (renF p.fs x y) z = _
    rw [get_ren _ _ _ _ hn]
    cases hf : getF p.fs x with
    | none => rfl
    | some f => simp only [if_neg hx, if_neg hy]
end Go.SX
