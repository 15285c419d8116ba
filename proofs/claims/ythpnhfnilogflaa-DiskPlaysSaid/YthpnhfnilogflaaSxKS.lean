/- slices.Sort at texts: the shelf's contract, over this program, as a contract of ours. -/
import Derived.Test.YthpnhfnilogflaaSxX
import Derived.Test.YthpnhfnilogflaaProg
import Derived.Shelf.SortG.Plain
import Derived.Shelf.SortG.SortNone
import Derived.Ground.SlgnProg
namespace Go.Proofs
open Go.Shelf
def Try.sortL_ren : Go.Shelf.Ren := ⟨fun | 54 => 47 | 64 => 51 | 65 => 50 | 78 => 61 | 79 => 62 | 80 => 52 | 81 => 53 | 82 => 54 | 83 => 55 | 84 => 56 | 85 => 57 | 61 => 58 | 86 => 59 | 87 => 60 | 93 => 63 | 89 => 64 | 90 => 65 | 94 => 66 | 95 => 67 | 69 => 68 | 97 => 69 | n => n, fun | 25 => 31 | 26 => 9 | 3 => 3 | 51 => 91 | 0 => 0 | 67 => 102 | 69 => 104 | 4 => 4 | 61 => 94 | 60 => 93 | 44 => 99 | 5 => 5 | 9 => 9 | 75 => 105 | 79 => 109 | 83 => 111 | 84 => 84 | n => n, fun | n => n⟩
theorem Try.sortL : Go.Proofs.SlLaysN.n54 Try.prog Try.sortL_ren := {
  mixed := by kernel_rfl
  f54 := ⟨Try.f47.name, by decide, Try.func47.trans (congrArg some (by kernel_rfl))⟩
  f61 := ⟨Try.f58.name, by decide, Try.func58.trans (congrArg some (by kernel_rfl))⟩
  f64 := Try.func51.trans (congrArg some (by kernel_rfl))
  f65 := ⟨Try.f50.name, by decide, Try.func50.trans (congrArg some (by kernel_rfl))⟩
  f69 := ⟨Try.f68.name, by decide, Try.func68.trans (congrArg some (by kernel_rfl))⟩
  f78 := Try.func61.trans (congrArg some (by kernel_rfl))
  f79 := Try.func62.trans (congrArg some (by kernel_rfl))
  f80 := ⟨Try.f52.name, by decide, Try.func52.trans (congrArg some (by kernel_rfl))⟩
  f81 := ⟨Try.f53.name, by decide, Try.func53.trans (congrArg some (by kernel_rfl))⟩
  f82 := ⟨Try.f54.name, by decide, Try.func54.trans (congrArg some (by kernel_rfl))⟩
  f83 := ⟨Try.f55.name, by decide, Try.func55.trans (congrArg some (by kernel_rfl))⟩
  f84 := ⟨Try.f56.name, by decide, Try.func56.trans (congrArg some (by kernel_rfl))⟩
  f85 := ⟨Try.f57.name, by decide, Try.func57.trans (congrArg some (by kernel_rfl))⟩
  f86 := ⟨Try.f59.name, by decide, Try.func59.trans (congrArg some (by kernel_rfl))⟩
  f87 := ⟨Try.f60.name, by decide, Try.func60.trans (congrArg some (by kernel_rfl))⟩
  f89 := Try.func64.trans (congrArg some (by kernel_rfl))
  f90 := Try.func65.trans (congrArg some (by kernel_rfl))
  f93 := ⟨Try.f63.name, by decide, Try.func63.trans (congrArg some (by kernel_rfl))⟩
  f94 := ⟨Try.f66.name, by decide, Try.func66.trans (congrArg some (by kernel_rfl))⟩
  f95 := ⟨Try.f67.name, by decide, Try.func67.trans (congrArg some (by kernel_rfl))⟩
  f97 := ⟨Try.f69.name, by decide, Try.func69.trans (congrArg some (by kernel_rfl))⟩
  t0 := Try.underlying0
  a0 := Try.isAgg0
  z0 := Try.sizeOf0
  v0 := Try.zeroValue0
  t3 := Try.underlying3
  a3 := Try.isAgg3
  z3 := Try.sizeOf3
  v3 := Try.zeroValue3
  t4 := Try.underlying4
  a4 := Try.isAgg4
  z4 := Try.sizeOf4
  v4 := Try.zeroValue4
  t5 := Try.underlying5
  a5 := Try.isAgg5
  z5 := Try.sizeOf5
  v5 := Try.zeroValue5
  t9 := Try.underlying9
  a9 := Try.isAgg9
  z9 := Try.sizeOf9
  v9 := Try.zeroValue9
  t25 := Try.underlying31
  a25 := Try.isAgg31
  z25 := Try.sizeOf31
  v25 := Try.zeroValue31
  t26 := Try.underlying9
  a26 := Try.isAgg9
  z26 := Try.sizeOf9
  v26 := Try.zeroValue9
  t44 := Try.underlying99
  a44 := Try.isAgg99
  z44 := Try.sizeOf99
  v44 := Try.zeroValue99
  t51 := Try.underlying91
  a51 := Try.isAgg91
  z51 := Try.sizeOf91
  v51 := Try.zeroValue91
  t60 := Try.underlying93
  a60 := Try.isAgg93
  z60 := Try.sizeOf93
  v60 := Try.zeroValue93
  t61 := Try.underlying94
  a61 := Try.isAgg94
  z61 := Try.sizeOf94
  v61 := Try.zeroValue94
  t67 := Try.underlying102
  a67 := Try.isAgg102
  z67 := Try.sizeOf102
  v67 := Try.zeroValue102
  t69 := Try.underlying104
  a69 := Try.isAgg104
  z69 := Try.sizeOf104
  v69 := Try.zeroValue104
  t75 := Try.underlying105
  a75 := Try.isAgg105
  z75 := Try.sizeOf105
  v75 := Try.zeroValue105
  t79 := Try.underlying109
  a79 := Try.isAgg109
  z79 := Try.sizeOf109
  v79 := Try.zeroValue109
  t83 := Try.underlying111
  a83 := Try.isAgg111
  z83 := Try.sizeOf111
  v83 := Try.zeroValue111
  t84 := Try.underlying84
  a84 := Try.isAgg84
  z84 := Try.sizeOf84
  v84 := Try.zeroValue84 }
end Go.Proofs
namespace Go.SX
open Go.Proofs Go.RowKit Go.Sort
variable {E : Env}

theorem encStr_eq (x : List UInt8) : encStr x = .string ⟨x.toArray⟩ := rfl

def sortT (xs : List (List UInt8)) : List (List UInt8) := xs.mergeSort fun x y => decide (x ≤ y)
theorem sortT_len (xs : List (List UInt8)) : (sortT xs).length = xs.length := by simp [sortT]

theorem c47 (c : Nat) (nl : Bool) (b : Nat) (t : TypeId) (off cap : Nat) (xs : List (List UInt8)) (hl : xs.length ≤ 2 ^ 60) :
    Spec Try.prog E 47 [.osl c nl b off xs.length cap] [.row nl b t off 1 xs.length cap (rowsV encT xs)] (fun v hp => v = .tup [] ∧ hp = [.row nl b t off 1 xs.length cap (rowsV encT (sortT xs))]) := by
  intro ro F H w hs _ hsat
  obtain ⟨H1, H2, rfl, h1, h2⟩ := hs
  have h2 : H2 = [] := h2
  subst h2
  cases nl with
  | true =>
    have h1' := h1
    obtain ⟨rfl, h0, hc⟩ := h1'
    obtain rfl := List.length_eq_zero_iff.1 h0
    have hs : sortT [] = [] := by simp [sortT]
    refine Calls.mono (AnyG.slices_Sort_string_none Try.sortL none cap w) ?_
    rintro e w' ⟨rfl, rfl⟩
    exact ⟨.tup [], _, ro, [], rfl, ⟨rfl, rfl⟩, ROle.refl _, by simp [SV.ok, SV.oks], by rw [hs]; exact ⟨[], [], rfl, h1, rfl⟩, hsat⟩
  | false =>
    obtain ⟨arr, fz, rfl, hfz, hn, hsz, hcell⟩ := h1
    have hb := (hsat.own (b, .cells arr t fz) (by simp)).1
    have hblk : b < w.heap.size := (Array.getElem?_eq_some_iff.1 hb).1
    have hat : ∀ j, j < xs.length → arr[off + j]? = some (encStr (xs.getD j [])) := fun j hj => by
      have := (hcell j 0 hj (by omega)).1
      simp only [rowsT, SV.den, Nat.mul_one, Nat.add_zero] at this
      exact this
    have hH : Holds encStr w b off xs.toArray := by
      intro j hj
      have hj' : j < xs.length := by simpa using hj
      refine ⟨?_, ?_⟩
      · rw [World.cell?, hb]
        simp only [Option.isSome_none, Bool.false_eq_true, if_false, hat j hj']
        simp [List.getD_eq_getElem?_getD, hj']
      · rw [World.frozen?, hb]
        exact hfz.2 (off + j) (by omega)
    refine Calls.mono (AnyG.slices_Sort_string Try.sortL b off cap xs w hH hblk (by omega)) ?_
    rintro e w' ⟨rfl, m, os, rfl⟩
    have hw1 : Sat E ro ((b, .cells (putCells encStr off (sortT xs).toArray arr) t fz) :: F) (grow (putRow encStr (Sort.ahead w m) b off (sortT xs).toArray) os) := by
      have hs0 : Sat E ro ((b, .cells arr t fz) :: F) w := by simpa using hsat
      have hkeep : ∀ k x, k ≠ b → w.heap[k]? = some x → (grow (putRow encStr (Sort.ahead w m) b off (sortT xs).toArray) os).heap[k]? = some x := fun k x hk hx => by
        have hkl : k < w.heap.size := (Array.getElem?_eq_some_iff.1 hx).1
        simp only [grow, putRow, mapBlock, Sort.ahead]
        rw [Array.getElem?_append_left (by simpa using hkl), Array.getElem?_modify, if_neg (fun e => hk e.symm)]
        exact hx
      have hown : (grow (putRow encStr (Sort.ahead w m) b off (sortT xs).toArray) os).heap[b]? = some (.cells (putCells encStr off (sortT xs).toArray arr) t fz) := by
        simp only [grow, putRow, mapBlock, Sort.ahead]
        rw [Array.getElem?_append_left (by simpa using hblk), Array.getElem?_modify, if_pos rfl, hb]
        rfl
      have hnod := hs0.nod
      rw [List.map_cons, List.nodup_cons] at hnod
      have hbo := (hs0.own (b, .cells arr t fz) (by simp)).2
      refine ⟨hs0.os, hs0.tape, hs0.out, fun k x hk => ?_, fun p hp => ?_, hs0.nod⟩
      · exact hkeep k x (fun e => by subst e; rw [hk] at hbo; cases hbo) (hs0.rom k x hk)
      · rcases List.mem_cons.1 hp with rfl | hp
        · exact ⟨hown, hbo⟩
        · have := hs0.own p (List.mem_cons_of_mem _ hp)
          exact ⟨hkeep _ _ (fun e => hnod.1 (List.mem_map.2 ⟨p, hp, e⟩)) this.1, this.2⟩
    refine ⟨.tup [], _, ro, [(b, .cells (putCells encStr off (sortT xs).toArray arr) t fz)], rfl, ⟨rfl, rfl⟩, ROle.refl _, by simp [SV.ok, SV.oks], ⟨[(b, .cells (putCells encStr off (sortT xs).toArray arr) t fz)], [], by simp, ⟨_, fz, rfl, ?_, hn, ?_, fun i j hi hj => ?_⟩, rfl⟩, hw1⟩
    · simpa [putCells] using hfz
    · simpa [putCells] using hsz
    · obtain rfl : j = 0 := by omega
      have hlt : off + i < arr.size := by omega
      have hi' : i < (sortT xs).length := by rw [sortT_len]; exact hi
      refine ⟨?_, by rw [rowsT]; simp only [SV.ok]⟩
      rw [rowsT]
      simp only [SV.den, Nat.mul_one, Nat.add_zero, putCells, Array.getElem?_mapIdx, Array.getElem?_eq_getElem hlt, Option.map_some]
      rw [if_pos ⟨by omega, by simp; omega⟩, show off + i - off = i by omega]
      simp [List.getD_eq_getElem?_getD, hi', encStr]
end Go.SX
