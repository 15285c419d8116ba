/- The two disks, in plain lists: the document's answers are the program's. -/
import Derived.Test.YthpnhfnilogflaaSxK28
import Derived.Test.YthpnhfnilogflaaSxK22
namespace Go.SX
open Go.Proofs

theorem ltB_iff (x y : List UInt8) : ltB x y = true ↔ x < y := by
  unfold ltB strLt
  rw [bytesLess_eq, Lib.toList_data, Lib.toList_data]
  simp

theorem getF_append : ∀ (a b : List FS) (x : List UInt8), getF (a ++ b) x = match getF a x with | some f => some f | none => getF b x
  | [], b, x => rfl
  | g :: r, b, x => by
    have ih := getF_append r b x
    simp only [List.cons_append, getF]
    split
    · rfl
    · exact ih
theorem getF_mem : ∀ {l : List FS} {f : FS}, (l.map (·.nm)).Nodup → f ∈ l → getF l f.nm = some f
  | [], _, _, h => by simp at h
  | g :: r, f, hn, h => by
    simp only [List.map_cons, List.nodup_cons] at hn
    unfold getF
    rcases List.mem_cons.1 h with rfl | h
    · rw [if_pos rfl]
    · rw [if_neg fun e => hn.1 (by rw [e]; exact List.mem_map_of_mem h)]
      exact getF_mem hn.2 h
theorem nd_of_names {l : List FS} (h : (l.map (·.nm)).Nodup) : l.Nodup := by
  unfold List.Nodup at *
  rw [List.pairwise_map] at h
  exact h.imp fun h e => h (by rw [e])

/-- the document's list of files beside the program's -/
structure Alike (p q : List FS) : Prop where
  gt : ∀ x, getF q x = getF p x
  st : (q.map (·.nm)).Pairwise (· < ·)
theorem st_nd {l : List FS} (h : (l.map (·.nm)).Pairwise (· < ·)) : (l.map (·.nm)).Nodup := h.imp fun h e => by subst e; exact List.lt_irrefl _ h
theorem Alike.nd {p q : List FS} (h : Alike p q) : (q.map (·.nm)).Nodup := st_nd h.st
theorem Alike.perm {p q : List FS} (h : Alike p q) (hn : (p.map (·.nm)).Nodup) : q.Perm p := by
  refine (List.perm_ext_iff_of_nodup (nd_of_names h.nd) (nd_of_names hn)).2 fun f => ⟨fun hf => ?_, fun hf => ?_⟩
  · have := getF_mem h.nd hf
    rw [h.gt] at this
    exact (getF_nm this).2
  · have := getF_mem hn hf
    rw [← h.gt] at this
    exact (getF_nm this).2
theorem Alike.sum {p q : List FS} (h : Alike p q) (hn : (p.map (·.nm)).Nodup) : sumF q = sumF p := ((h.perm hn).map _).sum_nat
theorem Alike.names {p q : List FS} (h : Alike p q) (hn : (p.map (·.nm)).Nodup) : namesF p = q.map (·.nm) := by
  unfold namesF
  rw [← sortT_perm ((h.perm hn).map _)]
  unfold sortT
  refine List.mergeSort_of_pairwise (h.st.imp fun h => ?_)
  exact decide_eq_true (List.le_of_lt h)

theorem get_without : ∀ (l : List FS) (x y : List UInt8), getF (withoutF l x) y = if x = y then none else getF l y
  | [], x, y => by simp [withoutF, getF]
  | g :: r, x, y => by
    have ih := get_without r x y
    unfold withoutF at ih ⊢
    rw [List.filter_cons]
    by_cases h : g.nm = x
    · rw [if_neg (by simp [h]), ih]
      split
      · rfl
      · rename_i hxy
        rw [getF, if_neg (by rw [h]; exact hxy)]
    · rw [if_pos (by simp [h]), getF, ih, getF]
      by_cases h2 : g.nm = y
      · rw [if_pos h2, if_pos h2, if_neg (fun e => h (by rw [h2, e]))]
      · rw [if_neg h2, if_neg h2]
theorem withF_eq (l : List FS) (f : FS) : withF l f = (withoutF l f.nm).takeWhile (fun g => ltB g.nm f.nm) ++ [f] ++ (withoutF l f.nm).dropWhile (fun g => ltB g.nm f.nm) := by
  unfold withF placeF
  generalize withoutF l f.nm = m
  have h := List.takeWhile_append_dropWhile (p := fun g => ltB g.nm f.nm) (l := m)
  have h1 : m.take (m.takeWhile (fun g => ltB g.nm f.nm)).length = m.takeWhile (fun g => ltB g.nm f.nm) := (List.prefix_iff_eq_take.1 (List.takeWhile_prefix _)).symm
  have h2 : m.drop (m.takeWhile (fun g => ltB g.nm f.nm)).length = m.dropWhile (fun g => ltB g.nm f.nm) := by
    have := congrArg (List.drop (m.takeWhile (fun g => ltB g.nm f.nm)).length) h
    rw [List.drop_left] at this
    exact this.symm
  rw [h1, h2]
theorem getF_one (f : FS) (y : List UInt8) : getF [f] y = if f.nm = y then some f else none := rfl
theorem get_with (l : List FS) (f : FS) (y : List UInt8) : getF (withF l f) y = if f.nm = y then some f else getF l y := by
  rw [withF_eq]
  have hw := get_without l f.nm y
  generalize withoutF l f.nm = m at hw
  have h := List.takeWhile_append_dropWhile (p := fun g => ltB g.nm f.nm) (l := m)
  rw [← h, getF_append] at hw
  rw [List.append_assoc, getF_append, getF_append, getF_one]
  by_cases hy : f.nm = y
  · rw [if_pos hy] at hw
    rw [if_pos hy]
    cases e : getF (m.takeWhile fun g => ltB g.nm f.nm) y with
    | none => rw [if_pos hy]
    | some z => rw [e] at hw; simp at hw
  · rw [if_neg hy] at hw
    rw [if_neg hy, ← hw]
    cases e : getF (m.takeWhile fun g => ltB g.nm f.nm) y with
    | none => rw [if_neg hy]
    | some z => rw [if_neg hy]
theorem ins_sorted (f : FS) : ∀ (m : List FS), (m.map (·.nm)).Pairwise (· < ·) → (∀ g ∈ m, g.nm ≠ f.nm) → ((m.takeWhile (fun g => ltB g.nm f.nm) ++ [f] ++ m.dropWhile (fun g => ltB g.nm f.nm)).map (·.nm)).Pairwise (· < ·)
  | [], _, _ => by simp
  | g :: r, hs, hn => by
    have hs0 := hs
    simp only [List.map_cons, List.pairwise_cons] at hs
    have ih := ins_sorted f r hs.2 fun g hg => hn g (List.mem_cons_of_mem _ hg)
    by_cases h : ltB g.nm f.nm = true
    · rw [List.takeWhile_cons, if_pos h, List.dropWhile_cons, if_pos h]
      simp only [List.cons_append, List.map_cons, List.pairwise_cons]
      refine ⟨fun y hy => ?_, ih⟩
      obtain ⟨z, hz, rfl⟩ := List.mem_map.1 hy
      rcases List.mem_append.1 hz with hz | hz
      · rcases List.mem_append.1 hz with hz | hz
        · exact hs.1 _ (List.mem_map_of_mem ((List.takeWhile_sublist _).subset hz))
        · rw [List.mem_singleton.1 hz]
          exact (ltB_iff _ _).1 h
      · exact hs.1 _ (List.mem_map_of_mem ((List.dropWhile_sublist _).subset hz))
    · rw [List.takeWhile_cons, if_neg h, List.dropWhile_cons, if_neg h]
      have hfg : f.nm < g.nm := by
        have h1 : ¬ g.nm < f.nm := fun e => h ((ltB_iff _ _).2 e)
        have h2 := hn g (List.mem_cons_self ..)
        by_cases h3 : f.nm < g.nm
        · exact h3
        · exact absurd (List.le_antisymm (List.not_lt.1 h3) (List.not_lt.1 h1)) h2
      simp only [List.nil_append, List.cons_append, List.map_cons]
      refine List.pairwise_cons.2 ⟨fun y hy => ?_, hs0⟩
      rcases List.mem_cons.1 hy with rfl | hy
      · exact hfg
      · exact List.lt_trans hfg (hs.1 _ hy)
theorem st_without {l : List FS} (x : List UInt8) (h : (l.map (·.nm)).Pairwise (· < ·)) : ((withoutF l x).map (·.nm)).Pairwise (· < ·) := h.sublist ((List.filter_sublist).map _)
theorem st_with {l : List FS} (f : FS) (h : (l.map (·.nm)).Pairwise (· < ·)) : ((withF l f).map (·.nm)).Pairwise (· < ·) := by
  rw [withF_eq]
  refine ins_sorted f _ (st_without _ h) fun g hg => ?_
  have := (List.mem_filter.1 hg).2
  simpa using this
theorem nm_syn : ∀ (l : List FS) (x : List UInt8), (synF l x).map (·.nm) = l.map (·.nm)
  | [], _ => rfl
  | g :: r, x => by
    unfold synF
    split
    · rfl
    · rw [List.map_cons, List.map_cons, nm_syn r x]
theorem Alike.add {p q : List FS} (h : Alike p q) (x ys : List UInt8) : Alike (addF p x ys) (withF q (match getF q x with | none => ⟨x, ys, 0⟩ | some f => { f with xs := f.xs ++ ys })) := by
  have e : (match getF q x with | none => (⟨x, ys, 0⟩ : FS) | some f => { f with xs := f.xs ++ ys }).nm = x := by
    cases hg : getF q x with
    | none => rfl
    | some f => exact (getF_nm hg).1
  refine ⟨fun y => ?_, st_with _ h.st⟩
  rw [get_with, get_add, e, h.gt x, h.gt y]
  cases getF p x <;> rfl
theorem Alike.syn {p q : List FS} (h : Alike p q) (x : List UInt8) : Alike (synF p x) (synF q x) :=
  ⟨fun y => by rw [get_syn, get_syn, h.gt y], by rw [nm_syn]; exact h.st⟩
theorem Alike.del {p q : List FS} (h : Alike p q) (hn : (p.map (·.nm)).Nodup) (x : List UInt8) : Alike (delF p x) (withoutF q x) :=
  ⟨fun y => by rw [get_without, get_del _ _ _ hn, h.gt y], st_without _ h.st⟩
theorem Alike.ren {p q : List FS} (h : Alike p q) (hn : (p.map (·.nm)).Nodup) {x y : List UInt8} {f : FS} (hf : getF q x = some f) : Alike (renF p x y) (withF (withoutF q x) { f with nm := y }) := by
  refine ⟨fun z => ?_, st_with _ (st_without _ h.st)⟩
  rw [get_with, get_without, get_ren _ _ _ _ hn, ← h.gt x, hf, h.gt z]
theorem crashF_get (picks : List Int) (n : Nat) : ∀ {l : List FS} {x : List UInt8} {f : FS}, getF l x = some f → crashF l picks n x = if f.xs.length = f.syn then (l, n) else (putF l (f.crashed picks n), n + 1)
  | [], _, _, h => by cases h
  | g :: r, x, f, h => by
    unfold getF at h
    unfold crashF putF
    by_cases hg : g.nm = x
    · rw [if_pos hg] at h
      injection h with h
      subst h
      rw [if_pos hg, if_pos (show g.nm = (g.crashed picks n).nm from rfl)]
    · rw [if_neg hg] at h
      have hx : (f.crashed picks n).nm = x := (getF_nm h).1
      rw [if_neg hg, hx, if_neg hg, crashF_get picks n h]
      split <;> rfl
theorem crash_like (picks : List Int) : ∀ (rest dn l : List FS) (n : Nat), (∀ x, getF l x = getF (dn ++ rest) x) → ((dn ++ rest).map (·.nm)).Nodup →
    ((rest.map (·.nm)).foldl (fun s x => crashF s.1 picks s.2 x) (l, n)).2 = (rest.foldl (crash1 picks) (dn, n)).2 ∧
    (∀ x, getF ((rest.map (·.nm)).foldl (fun s x => crashF s.1 picks s.2 x) (l, n)).1 x = getF (rest.foldl (crash1 picks) (dn, n)).1 x) ∧ (rest.foldl (crash1 picks) (dn, n)).1.map (·.nm) = (dn ++ rest).map (·.nm)
  | [], dn, l, n, h, _ => ⟨rfl, fun x => by simpa using h x, by simp⟩
  | f :: r, dn, l, n, h, hn => by
    have hf : getF l f.nm = some f := by
      rw [h]
      exact getF_mem hn (by simp)
    simp only [List.map_cons, List.foldl_cons]
    rw [crashF_get picks n hf, show crash1 picks (dn, n) f = if f.xs.length = f.syn then (dn ++ [f], n) else (dn ++ [f.crashed picks n], n + 1) from rfl]
    by_cases he : f.xs.length = f.syn
    · rw [if_pos he, if_pos he]
      have := crash_like picks r (dn ++ [f]) l n (by simpa using h) (by simpa using hn)
      simpa using this
    · rw [if_neg he, if_neg he]
      have e : ((dn ++ [f.crashed picks n]) ++ r).map (·.nm) = (dn ++ f :: r).map (·.nm) := by simp [FS.crashed]
      have := crash_like picks r (dn ++ [f.crashed picks n]) (putF l (f.crashed picks n)) (n + 1) (fun x => ?_) (by rw [e]; exact hn)
      · rw [e] at this
        exact this
      · rw [get_put, h, List.append_assoc, getF_append, getF_append dn]
        have hnd : getF dn f.nm = none := by
          rw [getF_none]
          intro hm
          rw [List.map_append, List.nodup_append] at hn
          exact hn.2.2 _ hm _ (by simp) rfl
        rw [show (f.crashed picks n).nm = f.nm from rfl]
        by_cases hx : f.nm = x
        · subst hx
          rw [if_pos rfl, hnd]
          simp [getF, FS.crashed]
        · rw [if_neg hx]
          simp [getF, hx, FS.crashed]

structure Rel (p q : PS) : Prop where
  room : p.room = q.room
  ops : p.ops = q.ops
  dead : p.dead = q.dead
  left : p.dead = false → p.left = q.left
  fs : Alike p.fs q.fs
  lq : inI64 q.left
theorem Rel.begun {p q : PS} (h : Rel p q) : p.begun.dead = q.rbegun.dead ∧ (p.begun.dead = true → Rel p.begun q.rbegun) ∧ (p.begun.dead = false → Rel p.begun.did q.rbegun) := by
  obtain ⟨r1, o1, l1, d1, f1⟩ := p
  obtain ⟨r2, o2, l2, d2, f2⟩ := q
  obtain ⟨h1, h2, h3, h4, h5, h6⟩ := h
  simp only [inI64] at h1 h2 h3 h4 h5 h6
  subst h1 h2 h3
  cases d1 with
  | true =>
    unfold PS.begun PS.rbegun PS.did
    cases hb : decide (0 < l1) <;> simp only [cond_true, cond_false, if_true, Bool.true_or] <;> exact ⟨by simp, fun _ => ⟨rfl, rfl, by simp, by simp, h5, h6⟩, by simp⟩
  | false =>
    have h4 := h4 rfl
    subst h4
    unfold PS.begun PS.rbegun PS.did
    by_cases hb : 0 < l1
    · simp only [hb, decide_true, cond_true, if_true, Bool.false_or, Bool.false_eq_true, if_false]
      by_cases h1 : l1 - 1 = 0
      · simp only [h1, if_true, decide_true]
        exact ⟨by simp, fun _ => ⟨rfl, rfl, rfl, fun h => by simp at h, h5, by simp only [inI64]; omega⟩, by simp⟩
      · simp only [h1, if_false, decide_false]
        exact ⟨by simp, by simp, fun _ => ⟨rfl, rfl, rfl, fun _ => rfl, h5, by simp only [inI64]; omega⟩⟩
    · simp only [hb, decide_false, cond_false, if_false, Bool.false_eq_true]
      exact ⟨by simp, by simp, fun _ => ⟨rfl, rfl, rfl, fun _ => rfl, h5, by simp only [inI64]; omega⟩⟩
def Rel2 {α : Type} (a b : α × PS) : Prop := a.1 = b.1 ∧ Rel a.2 b.2
theorem rbegun_fs (p : PS) : p.rbegun.fs = p.fs ∧ p.rbegun.room = p.room := by
  unfold PS.rbegun
  split
  · exact ⟨rfl, rfl⟩
  · split
    · split <;> exact ⟨rfl, rfl⟩
    · exact ⟨rfl, rfl⟩
theorem Rel.setfs {p q : PS} (h : Rel p q) {l m : List FS} (hl : Alike l m) : Rel { p with fs := l } { q with fs := m } := ⟨h.room, h.ops, h.dead, h.left, hl, h.lq⟩
theorem Rel.app {p q : PS} (h : Rel p q) (hn : (p.fs.map (·.nm)).Nodup) (x ys : List UInt8) : Rel2 (p.app x ys) (q.rapp x ys) := by
  obtain ⟨h1, h2, h3⟩ := h.begun
  unfold PS.app PS.rapp
  rw [← h1, ← h.room, h.fs.sum hn]
  cases hd : p.begun.dead with
  | true => exact ⟨rfl, h2 hd⟩
  | false =>
    simp only [Bool.false_eq_true, if_false]
    have h3 := h3 hd
    split
    · exact ⟨rfl, h3⟩
    · split
      · exact ⟨rfl, h3⟩
      · exact ⟨rfl, h3.setfs (h.fs.add x ys)⟩
theorem fndF_none_iff (l : List FS) (x : List UInt8) : (fndF l x = none) = (getF l x = none) := propext (fndF_get l x).1
theorem Rel.one {p q : PS} (h : Rel p q) (x : List UInt8) (g1 g2 : List FS → List FS) (hg : Alike (g1 p.fs) (g2 q.fs)) : Rel2 (p.one x g1) (q.rone x g2) := by
  obtain ⟨h1, h2, h3⟩ := h.begun
  unfold PS.one PS.rone
  rw [← h1, h.fs.gt x]
  simp only [fndF_none_iff]
  cases hd : p.begun.dead with
  | true => exact ⟨rfl, h2 hd⟩
  | false =>
    simp only [Bool.false_eq_true, if_false]
    have h3 := h3 hd
    split
    · exact ⟨rfl, h3⟩
    · split
      · exact ⟨rfl, h3⟩
      · exact ⟨rfl, h3.setfs hg⟩
theorem Rel.syn {p q : PS} (h : Rel p q) (x : List UInt8) : Rel2 (p.one x (synF · x)) (q.rone x (synF · x)) := h.one x _ _ (h.fs.syn x)
theorem Rel.rem {p q : PS} (h : Rel p q) (hn : (p.fs.map (·.nm)).Nodup) (x : List UInt8) : Rel2 (p.one x (delF · x)) (q.rone x (withoutF · x)) := h.one x _ _ (h.fs.del hn x)
theorem Rel.ren {p q : PS} (h : Rel p q) (hn : (p.fs.map (·.nm)).Nodup) (x y : List UInt8) : Rel2 (p.ren x y) (q.rren x y) := by
  obtain ⟨h1, h2, h3⟩ := h.begun
  unfold PS.ren PS.rren
  rw [← h1]
  simp only [fndF_none_iff, ← h.fs.gt x]
  cases hd : p.begun.dead with
  | true => exact ⟨rfl, h2 hd⟩
  | false =>
    simp only [Bool.false_eq_true, if_false]
    have h3 := h3 hd
    split
    · exact ⟨rfl, h3⟩
    · cases hg : getF q.fs x with
      | none => exact ⟨rfl, h3⟩
      | some f => exact ⟨rfl, h3.setfs (h.fs.ren hn hg)⟩
theorem Rel.crash {p q : PS} (h : Rel p q) (hn : (p.fs.map (·.nm)).Nodup) (picks : List Int) : Rel2 (p.crash picks) (q.rcrash picks) := by
  unfold PS.crash PS.rcrash
  obtain ⟨h1, h2, h3⟩ := crash_like picks q.fs [] p.fs 0 (fun x => (h.fs.gt x).symm) h.fs.nd
  have e : crashL p.fs picks (namesF p.fs) = (q.fs.map (·.nm)).foldl (fun s x => crashF s.1 picks s.2 x) (p.fs, 0) := by rw [h.fs.names hn]; rfl
  rw [e]
  refine ⟨h1, h.room, h.ops, rfl, fun _ => rfl, ⟨fun x => (h2 x).symm, ?_⟩, by simp only [inI64]; decide⟩
  show ((q.fs.foldl (crash1 picks) ([], 0)).1.map (·.nm)).Pairwise _
  rw [h3]
  exact h.fs.st
theorem Rel.stop {p q : PS} (h : Rel p q) {n : Int} (hn : inI64 n) : Rel (p.stop n) (q.stop n) := ⟨h.room, h.ops, h.dead, fun _ => rfl, h.fs, by simp only [inI64, PS.stop] at hn ⊢; omega⟩
theorem Rel.read {p q : PS} (h : Rel p q) (x : List UInt8) : readF p.fs p.dead x = q.rread x := by
  unfold readF PS.rread
  rw [h.dead, h.fs.gt x]
  split
  · rfl
  · obtain ⟨h1, h2⟩ := fndF_get p.fs x
    cases hb : nameB x with
    | false => rfl
    | true =>
      simp only [if_true, Bool.true_eq_false, if_false]
      cases hf : fndF p.fs x with
      | none => rw [h1.1 hf]
      | some i => rw [h2 i hf]
theorem Rel.list {p q : PS} (h : Rel p q) (hn : (p.fs.map (·.nm)).Nodup) : listF p = q.rlist := by
  unfold listF PS.rlist
  rw [h.dead, h.fs.names hn]
theorem Rel.new (n : Int) : Rel ⟨n, 0, 0, false, []⟩ ⟨n, 0, 0, false, []⟩ := ⟨rfl, rfl, rfl, fun _ => rfl, ⟨fun _ => rfl, by simp⟩, by simp only [inI64]; decide⟩
end Go.SX

/- The law of the document's disk: its walk. -/
namespace Go.SX
open Go.Proofs
set_option maxRecDepth 1000000
variable {E : Env}

theorem rinv {p : PS} {r : RS} {n : Nat} (h : PInv p n) (hr : Rel p r.ps) : RInv r n := by
  have h1 := hr.room
  have h2 := hr.ops
  have hs := hr.fs.sum h.nd
  have hp := (hr.fs.perm h.nd).length_eq
  simp only [RS.ps, List.length_map] at h1 h2 hp
  have := h.ln
  exact ⟨by rw [← h1]; exact h.r0, by rw [← h1]; exact h.r1, by rw [hs]; exact h.u2, by rw [← h2]; exact h.o0, by rw [← h2]; exact h.o1, hr.lq, by omega⟩
theorem rsync {p : PS} {r : RS} {n : Nat} (h : PInv p n) (hr : Rel p r.ps) : ∀ f ∈ r.L, f.syn ≤ f.xs.length := fun f hf =>
  h.sy f.fs ((hr.fs.perm h.nd).subset (List.mem_map_of_mem hf))
structure N8 where
  i : Nat
  d : DS
  r : RS
  hi : i ≤ 100
  iv : PInv d.ps i
  rel : Rel d.ps r.ps
structure M8 (i : Nat) where
  e : Int
  d : DS
  r : RS
  iv : PInv d.ps (i + 1)
  rel : Rel d.ps r.ps

theorem dne {α : Type} (x : α) [h : Decidable (x ≠ x)] : decide (x ≠ x) = false := by simp
set_option maxHeartbeats 4000000 in
theorem c8 (n0 : Int) (a : Option Addr) (cap : Nat) (calls : List Call) (hn0 : inI64 n0) (hcl : ∀ c ∈ calls, CallOk c) : Spec Try.prog E 8 [I n0, vC a cap calls] [] (fun v _ => v = Bl true) := by
  refine spec_of (keep := k8) (args' := [I n0, vC a cap calls]) Try.func8 rfl Try.ntmps8 s8_ok (by simp) ⟨rfl, fun _ h => h⟩ (fun _ _ h => h) (go_ok _ 100 _ _ ?_)
  simp only [go_sem, s8, k8, Nat.reduceBEq, Nat.zero_add]
  refine (stp_call [] rfl rfl rfl ⟨_, Try.func10, rfl, rfl⟩ (c10.leave (Post' := fun v hp => v = Bl true ∧ hp = []) fun _ hp h => ⟨[], hp, rfl, h.1, rfl⟩) rfl (fun _ h => h) rfl (fun _ _ h => h) ?_).safe trivial
  rintro v hp ⟨rfl, rfl⟩
  refine ⟨trivial, go_ok _ 100 _ _ ?_⟩
  simp only [go_sem, Nat.reduceBEq, Try.results8]
  refine (stp_call [] rfl rfl rfl ⟨_, Try.func11, rfl, rfl⟩ (c11 n0 0) rfl (fun _ h => h) rfl (fun _ _ h => h) ?_).safe trivial
  rintro v hp (⟨hneg, rfl, rfl⟩ | ⟨hpos, b, M, rfl, rfl⟩)
  · refine ⟨trivial, go_ok _ 100 _ _ ?_⟩
    simp only [go_sem, Nat.reduceBEq]
    refine (stp_call [] rfl rfl rfl ⟨_, Try.func23, rfl, rfl⟩ (c23 n0 0) rfl (fun _ h => h) rfl (fun _ _ h => h) ?_).safe trivial
    rintro v hp (⟨_, rfl, rfl⟩ | ⟨hp, _⟩)
    · refine ⟨trivial, go_ok _ 100 _ _ ?_⟩
      simp only [go_sem, Nat.reduceBEq, Try.results8]
      refine ⟨by simp, by simp, fun _ => go_ok _ 100 _ _ ?_⟩
      simp only [go_sem]
      refine safe_loop (ι := Unit) (fun _ => ⟨[(1, vC a cap calls), (5, .val (.pointer none)), (9, I 0)], []⟩) (fun _ => 0) () (Sub.front (X := []) ⟨rfl, rfl, rfl, trivial⟩ rfl) ?_
      intro _
      refine go_ok _ 100 _ _ ?_
      simp only [go_sem, Nat.reduceBEq, Try.results8]
    · omega
  · obtain ⟨d0, hdO, e0⟩ : ∃ d0 : DS, [Chunk.cells b 68 [I n0, .val (.map (some M)), I 0, I 0, Bl false], mpC kvS M (⟨n0, 0, 0, false, M, []⟩ : DS).mp, sepC []] = dO b d0 ∧ d0.ps = ⟨n0, 0, 0, false, []⟩ := ⟨⟨n0, 0, 0, false, M, []⟩, rfl, rfl⟩
    have i0 : PInv d0.ps 0 := by rw [e0]; exact PInv.new hpos (by simp only [inI64] at hn0; omega) 0
    refine ⟨trivial, go_ok _ 100 _ _ ?_⟩
    simp only [go_sem, Nat.reduceBEq]
    refine (stp_call [] rfl rfl rfl ⟨_, Try.func23, rfl, rfl⟩ (c23 n0 3) rfl (fun _ h => h) rfl (fun _ _ h => h) ?_).safe trivial
    rintro v hp (⟨hp, _⟩ | ⟨_, b2, rfl, rfl⟩)
    · omega
    obtain ⟨r0, hrO, f0⟩ : ∃ r0 : RS, rO b2 ⟨n0, 0, 0, false, true, 0, 0, 0, []⟩ = rO b2 r0 ∧ r0.ps = ⟨n0, 0, 0, false, []⟩ := ⟨_, rfl, rfl⟩
    have l0 : Rel d0.ps r0.ps := by rw [e0, f0]; exact Rel.new n0
    refine ⟨trivial, go_ok _ 100 _ _ ?_⟩
    simp only [go_sem, Nat.reduceBEq, Try.results8]
    refine ⟨by simp, by simp, fun _ => go_ok _ 100 _ _ ?_⟩
    simp only [go_sem]
    refine safe_loop (ι := N8) (fun g => ⟨[(1, vC a cap calls), (5, .ptr 0 b 0), (7, .ptr 3 b2 0), (9, I g.i)], dO b g.d ++ rO b2 g.r⟩) (fun g => 100 - g.i)
      ⟨0, d0, r0, by decide, i0, l0⟩ (Sub.front (X := []) ⟨rfl, rfl, rfl, rfl, trivial⟩ (by rw [← hdO, ← hrO]; rfl)) ?_
    clear hdO hrO i0 l0 e0 f0
    intro g
    have hgi := g.hi
    refine go_ok _ 17 _ _ ?_
    simp only [go_sem, List.cons_append, List.nil_append, Nat.reduceBEq]
    refine ⟨fun hlt => ?_, fun _ => ?_⟩
    · have hlt : g.i < calls.length ∧ g.i < 100 := by simp at hlt; omega
      have i64 : inI64 ((g.i : Int) + 1) := by simp only [inI64]; omega
      refine go_ok _ 37 _ _ ?_
      simp only [go_sem, List.cons_append, List.nil_append, Nat.reduceBEq, Nat.reduceAdd, Nat.zero_add, Int.toNat_natCast]
      refine ⟨by omega, by decide, fun b3 => ?_⟩
      have hck : CallOk (calls.getD g.i default) := hcl _ (by
        rw [List.getD_eq_getElem?_getD, List.getElem?_eq_getElem hlt.1]
        exact List.getElem_mem hlt.1)
      generalize calls.getD g.i default = c at hck ⊢
      have hcA := hck.A
      have hcB := hck.B
      refine ⟨fun h => ⟨by simp only [h]; rfl, by simp only [inI64, List.size_toArray]; omega⟩, fun _ => ?_, fun hs => ?_⟩
      · refine go_ok _ 100 _ _ ?_
        simp only [go_sem, Nat.reduceBEq]
        exact ⟨i64, safe_lend ⟨g.i + 1, g.d, g.r, hlt.2, g.iv.mono (by omega), g.rel⟩ (by show 100 - (g.i + 1) < 100 - g.i; omega) (Sub.front (X := [_]) ⟨rfl, rfl, rfl, rfl, trivial⟩ rfl)⟩
      · have hsz : c.data.xs.length ≤ 1000 ∧ c.A.length + c.B.length ≤ 300 ∧ c.picks.xs.length ≤ 100 := by simp at hs; omega
        refine go_ok _ 10 _ _ ?_
        simp only [go_sem, List.nil_append, Nat.reduceBEq]
        refine safe_code_mid (ι := M8 g.i) (fun q => ⟨[(1, vC a cap calls), (5, .ptr 0 b 0), (7, .ptr 3 b2 0), (9, I g.i), (10, .ptr 5 b3 0), (11, I q.e), (12, I q.e)], dO b q.d ++ rO b2 q.r ++ [.cells b3 46 (encC c)]⟩) ?_ ?_
        · intro q
          refine go_ok _ 5 _ _ ?_
          simp only [go_sem, List.cons_append, List.nil_append, Nat.reduceBEq]
          have hq : decide (q.e ≠ q.e) = false := by simp
          simp only [hq]
          have qi := q.iv
          have qr := q.rel
          refine go_ok _ 100 _ _ ?_
          simp only [go_sem, List.cons_append, List.nil_append, Nat.reduceBEq, Nat.zero_add, Try.results8, reduceCtorEq]
          refine ⟨Stp.safeOn ?_ trivial, rfl⟩
          refine stp_call [0, 1, 2] (args := [.ptr 0 b 0]) rfl rfl rfl ⟨_, Try.func17, rfl, rfl⟩ kOps rfl (fun _ h => unc_oks h) rfl (fun _ _ h => h) ?_
          rintro v hp ⟨rfl, rfl⟩
          rw [show q.d.ps.ops = q.r.did from qr.ops]
          refine ⟨by simp only [recheck, recheck1, go_sem, List.cons_append, List.nil_append, Nat.reduceBEq], go_ok _ 100 _ _ ?_⟩
          simp only [go_sem, dne, encC, List.cons_append, List.nil_append, Nat.reduceBEq, Nat.zero_add, Try.results8, reduceCtorEq]
          refine ⟨Stp.safeOn ?_ trivial, rfl⟩
          refine stp_call [0, 1, 2] (args := [.ptr 0 b 0]) rfl rfl rfl ⟨_, Try.func16, rfl, rfl⟩ (kUsed qi (by omega)) rfl (fun _ h => unc_oks h) rfl (fun _ _ h => h) ?_
          rintro v hp ⟨rfl, rfl⟩
          have hsm : sumF q.d.ps.fs = (q.r.L.map fun f => f.xs.length).sum := by rw [← qr.fs.sum qi.nd]; simp only [sumF, RS.ps, List.map_map]; rfl
          have hu : (q.r.L.map fun f => f.xs.length).sum < 2 ^ 62 := by rw [← hsm]; have := qi.u2; omega
          rw [hsm]
          have hqR := rinv qi qr
          refine ⟨by simp only [recheck, recheck1, go_sem, Nat.reduceBEq], go_ok _ 100 _ _ ?_⟩
          simp only [go_sem, List.cons_append, List.nil_append, Nat.reduceBEq, Nat.zero_add, Try.results8, reduceCtorEq]
          refine ⟨Stp.safeOn ?_ trivial, rfl⟩
          refine stp_call [3, 4] (args := [.ptr 0 b2 0]) rfl rfl rfl ⟨_, Try.func32, rfl, rfl⟩ (c32 b2 q.r hu (by have := hqR.ln; omega)) rfl (fun _ h => unc_oks h) rfl (fun _ _ h => h) ?_
          rintro v hp ⟨rfl, rfl⟩
          refine ⟨trivial, go_ok _ 100 _ _ ?_⟩
          simp only [go_sem, dne, List.cons_append, List.nil_append, Nat.reduceBEq, Nat.zero_add, Try.results8, reduceCtorEq]
          refine ⟨Stp.safeOn ?_ trivial, rfl⟩
          refine stp_call [] (args := [T c.A]) rfl rfl rfl ⟨_, Try.func33, rfl, rfl⟩ (c33 c.A) rfl (fun _ h => unc_oks h) rfl (fun _ _ h => h) ?_
          rintro v hp ⟨rfl, rfl⟩
          refine ⟨by simp only [recheck, recheck1, go_sem, List.cons_append, List.nil_append, Nat.reduceBEq], go_ok _ 100 _ _ ?_⟩
          simp only [go_sem, List.cons_append, List.nil_append, Nat.reduceBEq, Try.results8, reduceCtorEq]
          refine ⟨Stp.safeOn ?_ trivial, rfl⟩
          refine stp_call [] (args := [T c.A]) rfl rfl rfl ⟨_, Try.func34, rfl, rfl⟩ (c34 c.A (by omega)) rfl (fun _ h => unc_oks h) rfl (fun _ _ h => h) ?_
          rintro v hp ⟨rfl, rfl⟩
          refine ⟨trivial, go_ok _ 100 _ _ ?_⟩
          simp only [go_sem, List.cons_append, List.nil_append, Nat.reduceBEq, Try.results8]
          refine ⟨i64, ?_⟩
          exact safe_lend ⟨g.i + 1, q.d, q.r, hlt.2, qi, qr⟩ (by show 100 - (g.i + 1) < 100 - g.i; omega) (Sub.front (X := [_]) ⟨rfl, rfl, rfl, rfl, trivial⟩ rfl)
        · intro hrest
          have hR := rinv g.iv g.rel
          have hn := g.iv.nd
          refine go_ok _ 54 _ _ ?_
          simp only [go_sem, List.cons_append, List.nil_append, Nat.reduceBEq, Nat.reduceAdd, Nat.zero_add]
          refine ⟨fun _ b4 => ?_, fun _ => ⟨fun _ => ?_, fun _ => ⟨fun _ => ?_, fun _ => ⟨fun _ => ?_, fun _ => ⟨fun _ => ?_, fun _ => ⟨fun _ => ?_, fun _ => ⟨fun _ => ?_, fun _ => ⟨fun _ => ?_, fun _ => ?_⟩⟩⟩⟩⟩⟩⟩⟩
          · refine (stp_app2 (c := 6) (b := b4) (off := 0) (nl := false) (n := 0) (cap := 0) (x := vB c.data.a c.data.cap c.data.xs) (gx := rowsV encB c.data.xs) (m := c.data.xs.length) (f := litF 1 []) (f2 := rowsV encB c.data.xs) (N := c.data.xs.length) rfl rfl rfl rfl rfl (onesF_rows fun x => ⟨rfl, by simp [encB, ones, one, Value.oneCell']⟩) (by omega) (by simp) (fun i j hi hj => by rw [appF_zero]) fun nl bo off cap' => ?_).safe trivial
            refine ⟨trivial, go_ok _ 100 _ _ ?_⟩
            simp only [go_sem, List.nil_append, Nat.reduceBEq, Nat.zero_add]
            refine (stp_call [0, 1, 2, 6] (args := [.ptr 0 b 0, T c.A, .osl 3 nl bo off c.data.xs.length cap']) rfl rfl rfl ⟨_, Try.func12, rfl, rfl⟩ (kAppO c.A nl bo off cap' c.data.xs g.iv (by omega) (by omega)) rfl (fun _ h => h) rfl (fun ro H h => h) ?_).safe trivial
            rintro v hp ⟨rfl, d', e, rfl⟩
            refine ⟨by simp only [recheck, recheck1, go_sem, List.cons_append, List.nil_append, Nat.reduceBEq], go_ok _ 100 _ _ ?_⟩
            simp only [go_sem, List.cons_append, List.nil_append]
            refine (stp_call [3, 4] (args := [.ptr 0 b2 0, T c.A, vB c.data.a c.data.cap c.data.xs]) rfl rfl rfl ⟨_, Try.func24, rfl, rfl⟩ (c24 b2 _ g.r c.A c.data.xs c.data.a c.data.cap hR (by omega) (by omega) (by omega)) rfl (fun _ h => h) rfl (fun _ _ h => h) ?_).safe trivial
            rintro v hp ⟨rfl, r', e', rfl⟩
            obtain ⟨q1, q2⟩ := g.rel.app hn c.A c.data.xs
            rw [← q1]
            have nv : PInv d'.ps (g.i + 1) := by rw [e]; exact g.iv.app (by omega)
            have nr : Rel d'.ps r'.ps := by rw [e, e']; exact q2
            generalize (g.d.ps.app c.A c.data.xs).1 = er
            clear e e' q1 q2
            refine ⟨trivial, go_ok _ 9 _ _ ?_⟩
            simp only [go_sem, List.cons_append, List.nil_append, Nat.reduceBEq]
            refine safe_loop (ι := {q : Nat × List UInt8 // q.2.length = c.data.xs.length}) (fun q => ⟨[(1, vC a cap calls), (5, .ptr 0 b 0), (7, .ptr 3 b2 0), (9, I g.i), (10, .ptr 5 b3 0), (11, I er), (12, I er), (13, .osl 6 nl bo off c.data.xs.length cap'), (14, I q.1.1)],
              dO b d' ++ rO b2 r' ++ [.cells b3 46 (encC c), .row nl bo 5 off 1 c.data.xs.length cap' (rowsV encB q.1.2)]⟩) (fun q => c.data.xs.length - q.1.1)
              ⟨(0, c.data.xs), rfl⟩ (Sub.front (X := []) ⟨rfl, rfl, rfl, rfl, rfl, rfl, rfl, rfl, rfl, trivial⟩ rfl) ?_
            rintro ⟨⟨j, zs⟩, hz⟩
            simp only at hz ⊢
            refine go_ok _ 9 _ _ ?_
            simp only [go_sem, List.cons_append, List.nil_append, Nat.reduceBEq]
            refine ⟨fun h => ?_, fun _ => ?_⟩
            · have hlt : j < c.data.xs.length := by simpa using h
              refine go_ok _ 100 _ _ ?_
              simp only [go_sem, Nat.reduceBEq, Nat.zero_add, Int.toNat_natCast]
              refine ⟨by omega, by omega, by simp only [inI64]; omega, ?_⟩
              refine safe_sees (hp' := (dO b d' ++ rO b2 r' ++ [.cells b3 46 (encC c)]) ++ [.row nl bo 5 off 1 c.data.xs.length cap' (rowsV encB (zs.set j 238))]) (Sees.app (Sees.refl (dO b d' ++ rO b2 r' ++ [.cells b3 46 (encC c)])) (Sees.cons (fun ro H h => ⟨H, [], by simp, row_congr (fun k i hk hi => rows_set (z := 238) (by omega) k i (by omega) hi) h⟩) (Sees.refl []))) ?_
              exact safe_lend ⟨(j + 1, zs.set j 238), by simpa using hz⟩ (by simp only; omega) (Sub.front (X := []) ⟨rfl, rfl, rfl, rfl, rfl, rfl, rfl, rfl, rfl, trivial⟩ rfl)
            · refine go_ok _ 2 _ _ ?_
              simp only [go_sem, Nat.reduceBEq]
              refine Safe.sub ?_ (hrest ⟨er, d', r', nv, nr⟩)
              exact Sub.front (X := [_]) ⟨rfl, rfl, rfl, rfl, rfl, rfl, rfl, trivial⟩ rfl
          · refine (stp_call [0, 1, 2] (args := [.ptr 0 b 0, T c.A]) rfl rfl rfl ⟨_, Try.func19, rfl, rfl⟩ (kSync c.A g.iv (by omega)) rfl (fun _ h => h) rfl (fun _ _ h => h) ?_).safe trivial
            rintro v hp ⟨rfl, d', e, rfl⟩
            refine ⟨by simp only [recheck, recheck1, go_sem, List.cons_append, List.nil_append, Nat.reduceBEq], go_ok _ 100 _ _ ?_⟩
            simp only [go_sem, List.cons_append, List.nil_append]
            refine (stp_call [3, 4] (args := [.ptr 0 b2 0, T c.A]) rfl rfl rfl ⟨_, Try.func25, rfl, rfl⟩ (c25 b2 _ g.r c.A hR (by omega) (by omega)) rfl (fun _ h => h) rfl (fun _ _ h => h) ?_).safe trivial
            rintro v hp ⟨rfl, r', e', rfl⟩
            obtain ⟨q1, q2⟩ := g.rel.syn c.A
            rw [← q1]
            refine ⟨trivial, go_ok _ 4 _ _ ?_⟩
            simp only [go_sem, List.cons_append, List.nil_append, Nat.reduceBEq]
            refine Safe.sub ?_ (hrest ⟨(g.d.ps.one c.A (synF · c.A)).1, d', r', by rw [e]; exact g.iv.syn, by rw [e, e']; exact q2⟩)
            exact Sub.front (X := []) ⟨rfl, rfl, rfl, rfl, rfl, rfl, rfl, trivial⟩ rfl
          · refine (stp_call [0, 1, 2] (args := [.ptr 0 b 0, T c.A, T c.B]) rfl rfl rfl ⟨_, Try.func21, rfl, rfl⟩ (kRen c.A c.B g.iv (by omega)) rfl (fun _ h => h) rfl (fun _ _ h => h) ?_).safe trivial
            rintro v hp ⟨rfl, d', e, rfl⟩
            refine ⟨by simp only [recheck, recheck1, go_sem, List.cons_append, List.nil_append, Nat.reduceBEq], go_ok _ 100 _ _ ?_⟩
            simp only [go_sem, List.cons_append, List.nil_append]
            refine (stp_call [3, 4] (args := [.ptr 0 b2 0, T c.A, T c.B]) rfl rfl rfl ⟨_, Try.func26, rfl, rfl⟩ (c26 b2 _ g.r c.A c.B hR (by omega) (by omega) (by omega)) rfl (fun _ h => h) rfl (fun _ _ h => h) ?_).safe trivial
            rintro v hp ⟨rfl, r', e', rfl⟩
            obtain ⟨q1, q2⟩ := g.rel.ren hn c.A c.B
            rw [← q1]
            refine ⟨trivial, go_ok _ 4 _ _ ?_⟩
            simp only [go_sem, List.cons_append, List.nil_append, Nat.reduceBEq]
            refine Safe.sub ?_ (hrest ⟨(g.d.ps.ren c.A c.B).1, d', r', by rw [e]; exact g.iv.ren, by rw [e, e']; exact q2⟩)
            exact Sub.front (X := []) ⟨rfl, rfl, rfl, rfl, rfl, rfl, rfl, trivial⟩ rfl
          · refine go_ok _ 100 _ _ ?_
            simp only [go_sem]
            refine (stp_call [0, 1, 2] (args := [.ptr 0 b 0, T c.A]) rfl rfl rfl ⟨_, Try.func18, rfl, rfl⟩ (kRem c.A g.iv (by omega)) rfl (fun _ h => h) rfl (fun _ _ h => h) ?_).safe trivial
            rintro v hp ⟨rfl, d', e, rfl⟩
            refine ⟨by simp only [recheck, recheck1, go_sem, List.cons_append, List.nil_append, Nat.reduceBEq], go_ok _ 100 _ _ ?_⟩
            simp only [go_sem, List.cons_append, List.nil_append]
            refine (stp_call [3, 4] (args := [.ptr 0 b2 0, T c.A]) rfl rfl rfl ⟨_, Try.func27, rfl, rfl⟩ (c27 b2 _ g.r c.A hR (by omega) (by omega)) rfl (fun _ h => h) rfl (fun _ _ h => h) ?_).safe trivial
            rintro v hp ⟨rfl, r', e', rfl⟩
            obtain ⟨q1, q2⟩ := g.rel.rem hn c.A
            rw [← q1]
            refine ⟨trivial, go_ok _ 4 _ _ ?_⟩
            simp only [go_sem, List.cons_append, List.nil_append, Nat.reduceBEq]
            refine Safe.sub ?_ (hrest ⟨(g.d.ps.one c.A (delF · c.A)).1, d', r', by rw [e]; exact g.iv.rem, by rw [e, e']; exact q2⟩)
            exact Sub.front (X := []) ⟨rfl, rfl, rfl, rfl, rfl, rfl, rfl, trivial⟩ rfl
          · refine go_ok _ 100 _ _ ?_
            simp only [go_sem]
            refine (stp_call [0, 1, 2] (args := [.ptr 0 b 0, T c.A]) rfl rfl rfl ⟨_, Try.func13, rfl, rfl⟩ (kRead 6 c.A g.iv (by omega)) rfl (fun _ h => h) rfl (fun _ _ h => h) ?_).safe trivial
            rintro v hp ⟨nl, b6, off, cap6, rfl, rfl⟩
            rw [g.rel.read c.A]
            refine ⟨trivial, go_ok _ 100 _ _ ?_⟩
            simp only [go_sem, List.cons_append, List.nil_append, Nat.reduceBEq, Nat.zero_add]
            refine (stp_call [3, 4] (args := [.ptr 0 b2 0, T c.A]) rfl rfl rfl ⟨_, Try.func28, rfl, rfl⟩ (c28 b2 _ 7 g.r c.A hR (by omega) (by omega)) rfl (fun _ h => h) rfl (fun _ _ h => h) ?_).safe trivial
            rintro v hp ⟨nl2, b7, off2, cap7, rfl, rfl⟩
            obtain ⟨xs, er⟩ := g.r.ps.rread c.A
            refine ⟨trivial, go_ok _ 100 _ _ ?_⟩
            simp only [go_sem, List.cons_append, List.nil_append, Nat.reduceBEq]
            refine safe_prune [1, 5, 7, 9, 10, 15, 16, 17, 18, 162] ?_
            simp only [prune, go_sem, Nat.reduceBEq]
            refine safe_frzA (c := 6) (rowsV encB xs) rfl (fun _ _ _ _ => rfl) (by simp [frzOk, frzOk1]) ?_
            simp only [go_sem]
            refine safe_oth (oth_str (e := 5) (xs := xs) (ad := if nl then none else some ⟨b6, off, none⟩) (n := xs.length) (cap := cap6) (f := rowsV encB xs) (xo := .t 162) rfl (by kernel_rfl) (by kernel_rfl) (by kernel_rfl) rfl rfl (fun ro h => h) rfl fun i _ => rfl) trivial ?_
            refine go_ok _ 1 _ _ ?_
            simp only [go_sem, Nat.reduceBEq]
            refine safe_frzA (c := 7) (rowsV encB xs) rfl (fun _ _ _ _ => rfl) (by simp [frzOk, frzOk1]) ?_
            simp only [go_sem]
            refine safe_oth (oth_str (e := 5) (xs := xs) (ad := if nl2 then none else some ⟨b7, off2, none⟩) (n := xs.length) (cap := cap7) (f := rowsV encB xs) (xo := .t 164) rfl (by kernel_rfl) (by kernel_rfl) (by kernel_rfl) rfl rfl (fun ro h => h) rfl fun i _ => rfl) trivial ?_
            refine go_ok _ 11 _ _ ?_
            simp only [go_sem, dne, List.cons_append, List.nil_append, Nat.reduceBEq, Try.results8]
            refine Safe.sub ?_ (hrest ⟨er, g.d, g.r, g.iv.mono (by omega), g.rel⟩)
            exact Sub.front (X := [.emp, .emp]) ⟨rfl, rfl, rfl, rfl, rfl, rfl, rfl, trivial⟩ rfl
          · refine go_ok _ 100 _ _ ?_
            simp only [go_sem]
            refine (stp_call [0, 1, 2] (args := [.ptr 0 b 0]) rfl rfl rfl ⟨_, Try.func14, rfl, rfl⟩ (kList 6 g.iv (by omega)) rfl (fun _ h => h) rfl (fun _ _ h => h) ?_).safe trivial
            rintro v hp ⟨nl, b6, off, cap6, rfl, rfl⟩
            rw [g.rel.list hn]
            refine ⟨trivial, go_ok _ 100 _ _ ?_⟩
            simp only [go_sem, List.cons_append, List.nil_append, Nat.reduceBEq]
            refine (stp_call [3, 4] (args := [.ptr 0 b2 0]) rfl rfl rfl ⟨_, Try.func29, rfl, rfl⟩ (c29 b2 _ 7 g.r hR (by omega)) rfl (fun _ h => h) rfl (fun _ _ h => h) ?_).safe trivial
            rintro v hp ⟨nl2, b7, off2, cap7, rfl, rfl⟩
            have hnl : (g.r.ps.rlist).1.length ≤ 100 := by
              have h1 := hR.ln
              unfold PS.rlist
              split
              · exact Nat.zero_le _
              · simp only [RS.ps, List.length_map]; omega
            generalize g.r.ps.rlist = R at hnl
            obtain ⟨ns, er⟩ := R
            simp only at hnl ⊢
            refine ⟨trivial, go_ok _ 100 _ _ ?_⟩
            simp only [go_sem, dne, List.cons_append, List.nil_append, Nat.reduceBEq, Try.results8]
            refine safe_loop (ι := {j : Nat // j ≤ ns.length}) (fun j => ⟨[(1, vC a cap calls), (5, .ptr 0 b 0), (7, .ptr 3 b2 0), (9, I g.i), (10, .ptr 5 b3 0), (19, .osl 6 nl b6 off ns.length cap6), (20, I er), (21, .osl 7 nl2 b7 off2 ns.length cap7), (22, I er), (23, I j.1)],
              dO b g.d ++ rO b2 g.r ++ [.cells b3 46 (encC c), .row nl b6 9 off 1 ns.length cap6 (rowsV encT ns), .row nl2 b7 9 off2 1 ns.length cap7 (rowsV encT ns)]⟩) (fun j => ns.length - j.1)
              ⟨0, Nat.zero_le _⟩ (Sub.front (X := []) ⟨rfl, rfl, rfl, rfl, rfl, rfl, rfl, rfl, rfl, rfl, trivial⟩ rfl) ?_
            rintro ⟨j, hj⟩
            refine go_ok _ 9 _ _ ?_
            simp only [go_sem, List.cons_append, List.nil_append, Nat.reduceBEq]
            refine ⟨fun h => ?_, fun _ => ?_⟩
            · have hlt : j < ns.length := by simpa using h
              refine go_ok _ 100 _ _ ?_
              simp only [go_sem, dne, List.cons_append, List.nil_append, Nat.reduceBEq, Int.toNat_natCast, Try.results8]
              refine ⟨by omega, by omega, by omega, by omega, by simp only [inI64]; omega, ?_⟩
              exact safe_lend ⟨j + 1, hlt⟩ (by simp only; omega) (Sub.front (X := []) ⟨rfl, rfl, rfl, rfl, rfl, rfl, rfl, rfl, rfl, rfl, trivial⟩ rfl)
            · refine go_ok _ 8 _ _ ?_
              simp only [go_sem, Nat.reduceBEq]
              refine Safe.sub ?_ (hrest ⟨er, g.d, g.r, g.iv.mono (by omega), g.rel⟩)
              exact Sub.front (X := [_, _]) ⟨rfl, rfl, rfl, rfl, rfl, rfl, rfl, trivial⟩ rfl
          · refine go_ok _ 100 _ _ ?_
            simp only [go_sem]
            refine (stp_call [0, 1, 2] (args := [.ptr 0 b 0, I c.n]) rfl rfl rfl ⟨_, Try.func20, rfl, rfl⟩ (kStop c.n) rfl (fun _ h => h) rfl (fun _ _ h => h) ?_).safe trivial
            rintro v hp ⟨rfl, d', e, rfl⟩
            refine ⟨trivial, go_ok _ 100 _ _ ?_⟩
            simp only [go_sem, List.cons_append, List.nil_append, Nat.reduceBEq, Nat.zero_add]
            refine (stp_call [3, 4] (args := [.ptr 0 b2 0, I c.n]) rfl rfl rfl ⟨_, Try.func30, rfl, rfl⟩ (c30 b2 g.r c.n) rfl (fun _ h => h) rfl (fun _ _ h => h) ?_).safe trivial
            rintro v hp ⟨rfl, rfl⟩
            refine ⟨trivial, go_ok _ 2 _ _ ?_⟩
            simp only [go_sem, List.cons_append, List.nil_append, Nat.reduceBEq]
            refine Safe.sub ?_ (hrest ⟨0, d', { g.r with left := max c.n 0 }, by rw [e]; exact (g.iv.stop hck.n).mono (by omega), by rw [e]; exact g.rel.stop hck.n⟩)
            exact Sub.front (X := []) ⟨rfl, rfl, rfl, rfl, rfl, rfl, rfl, trivial⟩ rfl
          · refine go_ok _ 100 _ _ ?_
            simp only [go_sem, Nat.reduceBEq, Nat.zero_add]
            refine (stp_call [0, 1, 2] (args := [.ptr 0 b 0, vI c.picks.a c.picks.cap c.picks.xs]) rfl rfl rfl ⟨_, Try.func22, rfl, rfl⟩ (kCrash c.picks.a c.picks.cap c.picks.xs g.iv (by omega)) rfl (fun _ h => h) rfl (fun _ _ h => h) ?_).safe trivial
            rintro v hp ⟨rfl, d', e, rfl⟩
            refine ⟨by simp only [recheck, recheck1, go_sem, List.cons_append, List.nil_append, Nat.reduceBEq], go_ok _ 100 _ _ ?_⟩
            simp only [go_sem, List.cons_append, List.nil_append]
            refine (stp_call [3, 4] (args := [.ptr 0 b2 0, vI c.picks.a c.picks.cap c.picks.xs]) rfl rfl rfl ⟨_, Try.func31, rfl, rfl⟩ (c31 b2 _ g.r c.picks.a c.picks.cap c.picks.xs hR (by omega) (rsync g.iv g.rel)) rfl (fun _ h => h) rfl (fun _ _ h => h) ?_).safe trivial
            rintro v hp ⟨rfl, r', e', rfl⟩
            obtain ⟨q1, q2⟩ := g.rel.crash hn c.picks.xs
            rw [← q1]
            refine ⟨trivial, go_ok _ 5 _ _ ?_⟩
            simp only [go_sem, dne, List.cons_append, List.nil_append, Nat.reduceBEq]
            refine Safe.sub ?_ (hrest ⟨0, d', r', by rw [e]; exact g.iv.crash.mono (by omega), by rw [e, e']; exact q2⟩)
            exact Sub.front (X := []) ⟨rfl, rfl, rfl, rfl, rfl, rfl, rfl, trivial⟩ rfl
          · refine go_ok _ 2 _ _ ?_
            simp only [go_sem]
            refine Safe.sub ?_ (hrest ⟨0, g.d, g.r, g.iv.mono (by omega), g.rel⟩)
            exact Sub.front (X := []) ⟨rfl, rfl, rfl, rfl, rfl, rfl, rfl, trivial⟩ rfl
    · refine go_ok _ 100 _ _ ?_
      simp only [go_sem, List.nil_append, Nat.reduceBEq, Try.results8]
end Go.SX

