/- The executor: how far a program goes by itself. -/
import Derived.Test.YthlkoehifpnoeaaDoorSxN
namespace Go.SX

def fin (S : Setup) (k : List Frag) (st : St) : Prop := match S.C.D, retV st.env S.fn.results.toList with | [], some l => S.Post (retS l) st.heap | _, _ => Safe S k st

/-- the slots that stay behind a region -/
def prune (env : List (Nat × SV)) : List Nat → List (Nat × SV)
  | [] => []
  | t :: ts => match look env t with | some s => (t, s) :: prune env ts | none => prune env ts
theorem prune_look (env : List (Nat × SV)) : ∀ (ts : List Nat) (t : Nat) (s : SV), look (prune env ts) t = some s → look env t = some s
  | [], t, s, h => by simp [prune, look] at h
  | t0 :: ts, t, s, h => by
    simp only [prune] at h
    split at h
    · rename_i s0 hs0
      simp only [look] at h
      cases he : (t0 == t) with
      | true =>
        rw [he, cond_true] at h
        injection h with h
        have : t0 = t := by simpa using he
        subst this
        rw [hs0, h]
      | false =>
        rw [he, cond_false] at h
        exact prune_look env ts t s h
    · exact prune_look env ts t s h
theorem safe_prune {S : Setup} {k : List Frag} {st : St} (ts : List Nat) (h : Safe S k ⟨prune st.env ts, st.heap⟩) : Safe S k st :=
  Safe.sub (st' := ⟨prune st.env ts, st.heap⟩) ⟨fun t s ht => ⟨s, prune_look _ _ _ _ ht, rfl, fun _ h => h⟩, fun ro H hs => ⟨H, [], by simp, hs⟩⟩ h

theorem safe_gs {S : Setup} {k : List Frag} {st : St} {g : Nat} {wn gb : Bool} {so : SOp} {ps : List SOp} {l : List (SOp × List SOp)} (hgv : gval st.env g wn = some gb) (hon : gb = true → Safe S (.opn so ps l :: k) st)
    (hoff : gb = false → recheck S.C ⟨skipE st.env (dstS so), st.heap⟩ ps ∧ Safe S (.ops l :: k) ⟨skipE st.env (dstS so), st.heap⟩) (hd : (dstS so).all (· < S.C.N) = true) : Safe S (.ops ((.gs g wn so, ps) :: l) :: k) st := by
  cases gb with
  | true =>
    intro ro0 F a w hg ops m pre rest hsel hc
    have hon' := hon rfl ro0 F a w hg
    simp only [contK] at hon'
    cases rest with
    | nil => simp [compOps] at hc
    | cons i rest =>
      have hc0 := hc
      simp only [compOps] at hc
      split at hc
      · cases hc
      · rename_i o ho
        split at hc
        · rename_i so' ps' l' h1 h2 h3
          simp only [Option.some.injEq, List.cons.injEq, Prod.mk.injEq] at hc
          obtain ⟨⟨rfl, rfl⟩, rfl⟩ := hc
          obtain ⟨⟨j, hgd, hj⟩, _⟩ := gs_of h1
          obtain ⟨ro, H, _, g'⟩ := hg
          have hw : Region.wanted o (yielded ops a.tmps) = true := by
            unfold Region.wanted
            rw [hgd]
            exact gval_ok g' hj hgv
          exact hon' ops m pre i o rest g wn hsel ho hw h1 hc0
        · cases hc
  | false =>
    refine ops_step fun ro0 F a w o ops b hg hc _ => ?_
    obtain ⟨⟨j, hgd, hj⟩, hce⟩ := gs_of hc
    obtain ⟨ro, H, hle, g'⟩ := hg
    have hw : Region.wanted o (yielded ops a.tmps) = false := by
      unfold Region.wanted
      rw [hgd]
      exact gval_ok g' hj hgv
    rw [hw]
    simp only [Bool.false_eq_true, if_false]
    obtain ⟨q1, q2⟩ := hoff rfl
    have hdst : o.dst = dstS so := by
      obtain ⟨_, hce⟩ | ⟨_, d, rfl, hd2, _⟩ := hce
      case inr => exact hd2
      have := ceff_inv hce
      cases so <;> simp only [Inv1] at this <;> simp only [dstS]
      case box => obtain ⟨_, _, h, _⟩ := this; exact h
      case alloc => obtain ⟨_, _, h, _⟩ := this; exact h
      case store => obtain ⟨_, _, _, _, _, _, _, h⟩ := this; exact h
      case call => obtain ⟨_, _, _, _, h, _⟩ := this; exact h
      case app => obtain ⟨_, _, _, _, _, _, _, _, h, _⟩ := this; exact h
      case bsl => obtain ⟨_, _, _, _, _, h, _⟩ := this; exact h
      case mksl => obtain ⟨_, _, _, _, _, _, h, _⟩ := this; exact h
      case oth => exact this.2.1
    rw [hdst]
    cases hds : dstS so with
    | none =>
      rw [hds] at q1 q2
      exact ⟨_, ⟨ro, H, hle, g'⟩, q1, q2⟩
    | some d =>
      rw [hds] at q1 q2 hd
      have := g'.put (d := d) (s := .cnd false (.val (.bool false))) (by simpa using hd) (by simp only [SV.ok]; intro h; cases h)
      simp only [SV.den, Bool.false_eq_true, if_false] at this
      exact ⟨_, ⟨ro, H, hle, this⟩, q1, q2⟩

def condT : SCode → List Nat
  | .cond (.t c) _ _ => [c]
  | .seq a _ => condT a
  | _ => []
def keepOf (S : Setup) : List Frag → List Nat
  | .code c :: _ => condT c ++ S.keep
  | _ => S.keep

def go (S : Setup) : Nat → List Frag → St → Prop
  | 0, k, st => Safe S k st
  | n + 1, k, st =>
    match k with
    | [] => fin S [] st
    | .ops [] :: k => go S n k ⟨prune st.env (keepOf S k), st.heap⟩
    | .ops ((so, ps) :: l) :: k =>
      match so with
      | .rd d r =>
        match rdv st r with
        | some (s, vc) => vc ∧ recheck S.C ⟨(d, s) :: st.env, st.heap⟩ ps ∧ go S n (.ops l :: k) ⟨(d, s) :: st.env, st.heap⟩
        | none => Safe S (.ops ((.rd d r, ps) :: l) :: k) st
      | .grd g w d r =>
        match gval st.env g w with
        | some gb => match rdvG st gb r with
          | some (s, vc) => vc ∧ recheck S.C ⟨(d, .cnd gb s) :: st.env, st.heap⟩ ps ∧ go S n (.ops l :: k) ⟨(d, .cnd gb s) :: st.env, st.heap⟩
          | none => Safe S (.ops ((.grd g w d r, ps) :: l) :: k) st
        | none => Safe S (.ops ((.grd g w d r, ps) :: l) :: k) st
      | .box d T x =>
        match opv st.env x with
        | some s => match cellsOf s with
          | some cs => ∀ b, recheck S.C ⟨(d, .ptr st.heap.length b 0) :: st.env, st.heap ++ [.cells b T cs]⟩ ps ∧ go S n (.ops l :: k) ⟨(d, .ptr st.heap.length b 0) :: st.env, st.heap ++ [.cells b T cs]⟩
          | none => Safe S (.ops ((.box d T x, ps) :: l) :: k) st
        | none => Safe S (.ops ((.box d T x, ps) :: l) :: k) st
      | .alloc d T z => ∀ b, recheck S.C ⟨(d, .ptr st.heap.length b 0) :: st.env, st.heap ++ [.cells b T (z.map cst1)]⟩ ps ∧ go S n (.ops l :: k) ⟨(d, .ptr st.heap.length b 0) :: st.env, st.heap ++ [.cells b T (z.map cst1)]⟩
      | .store x y m =>
        match opv st.env x, opv st.env y with
        | some sx, some sy => match cellsOf sy with
          | some cs => match stV st.heap sx cs with
            | some (hp, vc) => cs.length = m ∧ ones cs ∧ vc ∧ recheck S.C ⟨st.env, hp⟩ ps ∧ go S n (.ops l :: k) ⟨st.env, hp⟩
            | none => Safe S (.ops ((.store x y m, ps) :: l) :: k) st
          | none => Safe S (.ops ((.store x y m, ps) :: l) :: k) st
        | _, _ => Safe S (.ops ((.store x y m, ps) :: l) :: k) st
      | .bsl d e sz len z qs =>
        match buildV st.env (z.map cst1) qs with
        | some cs => ∀ b, recheck S.C ⟨(d, .osl st.heap.length false b 0 len len) :: st.env, st.heap ++ [.row false b e 0 sz len len (litF sz cs)]⟩ ps ∧
            go S n (.ops l :: k) ⟨(d, .osl st.heap.length false b 0 len len) :: st.env, st.heap ++ [.row false b e 0 sz len len (litF sz cs)]⟩
        | none => Safe S (.ops ((.bsl d e sz len z qs, ps) :: l) :: k) st
      | .gs g wn so =>
        match gval st.env g wn with
        | some gb => (gb = true → Safe S (.opn so ps l :: k) st) ∧ (gb = false → recheck S.C ⟨skipE st.env (dstS so), st.heap⟩ ps ∧ go S n (.ops l :: k) ⟨skipE st.env (dstS so), st.heap⟩) ∧ (dstS so).all (· < S.C.N) = true
        | none => Safe S (.ops ((.gs g wn so, ps) :: l) :: k) st
      | so => Safe S (.ops ((so, ps) :: l) :: k) st
    | .opn so ps l :: k => Safe S (.opn so ps l :: k) st
    | .code c :: k =>
      match c with
      | .skip => go S n k st
      | .ops l => go S n (.ops l :: k) st
      | .seq a b => go S n (.code a :: .code b :: k) st
      | .block id x => go S n (.code x :: .blk id :: k) st
      | .exit id => match hasBlk id k with | true => go S n (exitK id k) st | false => Safe S (.code (.exit id) :: k) st
      | .ret => match (botK k).isNone with | true => fin S (.code .ret :: k) st | false => Safe S (.code .ret :: k) st
      | .cond c a b =>
        match opv st.env c with
        | some (.val (.bool p)) => (p = true → go S n (.code a :: k) st) ∧ (p = false → go S n (.code b :: k) st)
        | _ => Safe S (.code (.cond c a b) :: k) st
      | c => Safe S (.code c :: k) st
    | .blk _ :: k => go S n k st
    | .lend J :: k => Safe S (.lend J :: k) st
    | .bot J :: k => Safe S (.bot J :: k) st

theorem go_ok (S : Setup) : ∀ (n : Nat) (k : List Frag) (st : St), go S n k st → Safe S k st
  | 0, _, _, h => h
  | n + 1, k, st, h => by
    unfold go at h
    split at h
    · unfold fin at h
      split at h
      · rename_i l hD hl
        exact safe_end hl h hD
      · exact h
    · exact safe_nil (safe_prune _ (go_ok S n _ _ h))
    · split at h
      · split at h
        · rename_i hv
          exact safe_rd hv h.1 h.2.1 (go_ok S n _ _ h.2.2)
        · exact h
      · split at h
        · rename_i hg
          split at h
          · rename_i hv
            exact safe_grd hg hv h.1 h.2.1 (go_ok S n _ _ h.2.2)
          · exact h
        · exact h
      · split at h
        · rename_i hx
          split at h
          · rename_i hcs
            exact (stp_box hx hcs fun b => ⟨(h b).1, go_ok S n _ _ (h b).2⟩).safe trivial
          · exact h
        · exact h
      · exact (stp_alloc fun b => ⟨(h b).1, go_ok S n _ _ (h b).2⟩).safe trivial
      · split at h
        · rename_i hx hy
          split at h
          · rename_i hcs
            split at h
            · rename_i hv
              exact (stp_store hx hy hcs h.1 h.2.1 hv h.2.2.1 h.2.2.2.1 (go_ok S n _ _ h.2.2.2.2)).safe trivial
            · exact h
          · exact h
        · exact h
      · split at h
        · rename_i hb
          exact (stp_bsl hb fun b => ⟨(h b).1, go_ok S n _ _ (h b).2⟩).safe trivial
        · exact h
      · split at h
        · rename_i hg
          exact safe_gs hg h.1 (fun e => ⟨(h.2.1 e).1, go_ok S n _ _ (h.2.1 e).2⟩) h.2.2
        · exact h
      · exact h
    · exact h
    · split at h
      · exact safe_skip (go_ok S n _ _ h)
      · exact safe_region (go_ok S n _ _ h)
      · exact safe_seq (go_ok S n _ _ h)
      · exact safe_block (go_ok S n _ _ h)
      · split at h
        · rename_i hb
          exact safe_exit hb (go_ok S n _ _ h)
        · exact h
      · split at h
        · rename_i hb
          unfold fin at h
          split at h
          · rename_i l hD hl
            exact safe_ret hl h hD hb
          · exact h
        · exact h
      · split at h
        · rename_i hc
          exact safe_cond hc (fun hp => go_ok S n _ _ (h.1 hp)) (fun hp => go_ok S n _ _ (h.2 hp))
        · exact h
      · exact h
    · exact safe_blk (go_ok S n _ _ h)
    · exact h
    · exact h

attribute [go_sem] go rdv opv opvs look env0 ldV cst stV getC setC cellsOf overL takeL dropL getL partV funL recheck recheck1 cst1 fin retV retS idxV intOf slcV sslV ivOf binV binI binS binN isNil ar bpart gval rdvG stripE rdSlots oslot oslots ooslot
  Option.isNone_none Option.isNone_some buildV skipE dstS Option.all_some Option.all_none decide_true prune keepOf condT srcV exitK hasBlk botK ones one pick place BEq.rfl cond_true cond_false Value.oneCell' true_and and_true eq_self List.length_cons List.length_nil List.cons_append List.nil_append List.map_cons List.map_nil
  Bool.true_and Bool.and_true Bool.false_and Bool.and_false Bool.true_or Bool.or_true Bool.false_or Bool.or_false Bool.not_true Bool.not_false Bool.true_beq Bool.false_beq beq_true beq_false List.flatMap_cons List.flatMap_nil
  Option.map_some Option.map_none List.append_nil Bool.cond_true_left Bool.cond_false_left Bool.cond_true_right Bool.cond_false_right forall_const true_implies false_implies implies_true Bool.false_eq_true Bool.not_eq_true' imp_self
end Go.SX
