/- append onto a slice of which is not known whether there is room behind it. -/
import Derived.Test.YtbakjgolhekmgaaGreatDoorAmMem
namespace Go.Am

theorem beq_ne {a b : Nat} (h : a ≠ b) : Nat.beq a b = false := by
  cases hh : Nat.beq a b with
  | false => rfl
  | true => exact absurd (Nat.eq_of_beq_eq_true hh) h

/-- abstract memory behind such an append. -/
noncomputable def appH (h : AH) (b : Nat) (bt : Tr AV) (bn : Nat) (sh : Bool) (fam co : Nat) (pl : Bool) (o len z n : Nat) (L : List AV) : AH :=
  AH.kills ⟨(bif sh then h.t else h.t.set b (.cells bt bn true h.nx co pl false)).set h.nx (.cells (Tr.ofList L) (Nat.mul (Nat.add len n) z) true (bif sh then fam else h.nx) (Nat.add co o) pl false),
    h.f.set (bif sh then fam else h.nx) (h.nx :: (bif sh then (match h.f.get fam with | some ms => ms | none => []) else [b])), Nat.succ h.nx⟩
    (bif sh then fam else h.nx) h.nx (Nat.add (Nat.add co o) (Nat.mul len z)) (Nat.add (Nat.add (Nat.add co o) (Nat.mul len z)) (Nat.mul n z))

theorem appH_spec {E : Env} {h : AH} {w : World} (hr : HRel E h w) {b : Nat} {bt : Tr AV} {bn : Nat} {sh : Bool} {fam co : Nat} {pl : Bool} (hg : h.t.get b = some (.cells bt bn sh fam co pl false)) (o len z n : Nat) (L : List AV) :
    let h' := appH h b bt bn sh fam co pl o len z n L
    let F := bif sh then fam else h.nx
    h'.nx = h.nx + 1 ∧ h'.t.get h.nx = some (.cells (Tr.ofList L) ((len + n) * z) true F (co + o) pl false) ∧
    (∀ k o', k ≠ h.nx → h'.t.get k = some o' → ∃ o0, h.t.get k = some o0 ∧ (o' = o0 ∨ (k = b ∧ o0 = .cells bt bn false fam co pl false ∧ o' = .cells bt bn true F co pl false))) ∧
    (∀ k ct cn cf cc cp cr, k ≠ h.nx → h'.t.get k = some (.cells ct cn true cf cc cp cr) → cf = F → co + o + len * z + n * z ≤ cc ∨ cc + cn ≤ co + o + len * z) ∧
    (∀ k, h'.t.get k = h.t.get k ∨ True) ∧
    (h'.t.get b = none ∨ ∃ ct cn cf cc cp, h'.t.get b = some (.cells ct cn true cf cc cp false) ∧ cf = F) ∧
    (∀ k ct cn cf cc cp cr, h'.t.get k = some (.cells ct cn true cf cc cp cr) → cf < h'.nx ∧ ∃ ms, h'.f.get cf = some ms ∧ k ∈ ms) := by
  intro h' F
  obtain ⟨xb, hxb, _⟩ := hr.obj b _ hg
  have hbn : b ≠ h.nx := by
    intro e
    have := hr.fresh b (by omega)
    rw [this] at hxb; cases hxb
  -- the list of the family
  have hms : ∃ ms, b ∈ ms ∧ h' = AH.kills ⟨(bif sh then h.t else h.t.set b (.cells bt bn true h.nx co pl false)).set h.nx (.cells (Tr.ofList L) ((len + n) * z) true F (co + o) pl false), h.f.set F (h.nx :: ms), h.nx + 1⟩ F h.nx (co + o + len * z) (co + o + len * z + n * z) ∧
      (∀ k ct cn cc cp cr, h.t.get k = some (.cells ct cn true F cc cp cr) → k ∈ ms) ∧ F < h.nx + 1 ∧ (sh = false → ms = [b]) := by
    cases sh with
    | true =>
      obtain ⟨h1, ms, h2, h3⟩ := hr.shl b bt bn fam co pl false hg
      refine ⟨ms, h3, ?_, fun k ct cn cc cp cr hk => ?_, by show fam < h.nx + 1; omega, fun h => by cases h⟩
      · show appH h b bt bn true fam co pl o len z n L = _
        unfold appH
        simp only [cond_true, h2]
        rfl
      · obtain ⟨_, ms', h4, h5⟩ := hr.shl k _ _ _ _ _ _ hk
        have : F = fam := rfl
        rw [this, h2] at h4
        obtain rfl := Option.some.inj h4
        exact h5
    | false =>
      refine ⟨[b], by simp, rfl, fun k ct cn cc cp cr hk => ?_, by show h.nx < h.nx + 1; omega, fun _ => rfl⟩
      obtain ⟨h1, _⟩ := hr.shl k _ _ _ _ _ _ hk
      have : F = h.nx := rfl
      omega
  obtain ⟨ms, hbm, he, hall, hF, hsing⟩ := hms
  -- the tree ahead of what is forgotten
  have ht1 : ∀ k o', k ≠ h.nx → ((bif sh then h.t else h.t.set b (.cells bt bn true h.nx co pl false)).set h.nx (.cells (Tr.ofList L) ((len + n) * z) true F (co + o) pl false)).get k = some o' →
      ∃ o0, h.t.get k = some o0 ∧ (o' = o0 ∨ (k = b ∧ o0 = .cells bt bn false fam co pl false ∧ o' = .cells bt bn true F co pl false)) := by
    intro k o' hk hgk
    rw [Tr.get_set_other _ _ hk] at hgk
    cases sh with
    | true => exact ⟨o', hgk, .inl rfl⟩
    | false =>
      simp only [cond_false] at hgk
      rw [Tr.get_set] at hgk
      by_cases e : k = b
      · rw [if_pos e] at hgk
        obtain rfl := Option.some.inj hgk
        subst e
        exact ⟨_, hg, .inr ⟨rfl, rfl, rfl⟩⟩
      · rw [if_neg e] at hgk
        exact ⟨o', hgk, .inl rfl⟩
  have hshl1 : ∀ k ct cn cf cc cp cr, ((bif sh then h.t else h.t.set b (.cells bt bn true h.nx co pl false)).set h.nx (.cells (Tr.ofList L) ((len + n) * z) true F (co + o) pl false)).get k = some (.cells ct cn true cf cc cp cr) →
      (cf = F → k ∈ h.nx :: ms) ∧ (cf ≠ F → cf < h.nx + 1 ∧ ∃ ms, h.f.get cf = some ms ∧ k ∈ ms) := by
    intro k ct cn cf cc cp cr hk
    by_cases e : k = h.nx
    · subst e
      rw [Tr.get_set_same] at hk
      cases hk
      exact ⟨fun _ => List.mem_cons_self .., fun h => absurd rfl h⟩
    · obtain ⟨o0, g1, g2⟩ := ht1 k _ e hk
      rcases g2 with g2 | ⟨g2, g3, g4⟩
      · subst g2
        refine ⟨fun h9 => ?_, fun h9 => ?_⟩
        · subst h9; exact List.mem_cons_of_mem _ (hall k _ _ _ _ _ g1)
        · obtain ⟨h8, h7⟩ := hr.shl k _ _ _ _ _ _ g1
          exact ⟨by omega, h7⟩
      · cases g4
        subst g2
        exact ⟨fun _ => List.mem_cons_of_mem _ hbm, fun h => absurd rfl h⟩
  cases hk : kill h.nx (co + o + len * z) (co + o + len * z + n * z) (h.nx :: ms) ((bif sh then h.t else h.t.set b (.cells bt bn true h.nx co pl false)).set h.nx (.cells (Tr.ofList L) ((len + n) * z) true F (co + o) pl false)) with
  | mk t2 ms2 =>
    obtain ⟨a1, a2, a3, a4, a5⟩ := kill_spec _ _ _ _ _ _ _ hk
    have heq : h' = ⟨t2, (h.f.set F (h.nx :: ms)).set F ms2, h.nx + 1⟩ := by
      rw [he]
      simp only [AH.kills, Tr.get_set_same, hk]
    rw [heq]
    refine ⟨rfl, ?_, fun k o' hne hgk => ht1 k o' hne (a1 k o' hgk), fun k ct cn cf cc cp cr hne hgk hcf => ?_, fun _ => .inr trivial, ?_, fun k ct cn cf cc cp cr hgk => ?_⟩
    · show t2.get h.nx = _
      rw [a2, Tr.get_set_same]
    · exact a3 k ((hshl1 k _ _ _ _ _ _ (a1 k _ hgk)).1 hcf) hne _ _ _ _ _ _ _ hgk
    · show t2.get b = none ∨ _
      cases hb2 : t2.get b with
      | none => exact .inl rfl
      | some ob =>
        obtain ⟨o0, g1, g2⟩ := ht1 b ob hbn (a1 b ob hb2)
        rw [hg] at g1
        obtain rfl := Option.some.inj g1
        refine .inr ?_
        rcases g2 with g2 | ⟨_, g3, g4⟩
        · subst g2
          cases sh with
          | true => exact ⟨bt, bn, fam, co, pl, rfl, rfl⟩
          | false =>
            exfalso
            have := a1 b _ hb2
            rw [Tr.get_set_other _ _ hbn] at this
            simp only [cond_false] at this
            rw [Tr.get_set_same] at this
            cases this
        · subst g4
          exact ⟨bt, bn, F, co, pl, rfl, rfl⟩
    · simp only at hgk ⊢
      obtain ⟨g1, g2⟩ := hshl1 k _ _ _ _ _ _ (a1 k _ hgk)
      by_cases e : cf = F
      · subst e
        exact ⟨hF, ms2, Tr.get_set_same _ _ _, a4 k (g1 rfl) (.inr ⟨_, _, _, _, _, _, _, hgk⟩)⟩
      · obtain ⟨h8, ms', h7, h6⟩ := g2 e
        refine ⟨h8, ms', ?_, h6⟩
        rw [Tr.get_set_other _ _ e, Tr.get_set_other _ _ e]; exact h7

/-- what stays of memory, whether the new row lies where the old one lay, or elsewhere. -/
theorem HRel.app {E : Env} {h : AH} {w w' : World} (hr : HRel E h w) {b : Nat} {bt : Tr AV} {bn : Nat} {sh : Bool} {fam co : Nat} {pl : Bool} (hg : h.t.get b = some (.cells bt bn sh fam co pl false)) {x : Slot} (hx : E.σ b = some x)
    (o len z n : Nat) (L : List AV) (_hL : L.length = (len + n) * z) (y : Slot) (c' : Array Value) (el : TypeId) (fz : Nat × Nat)
    (hy : w'.heap[y.blk]? = some (.cells c' el fz)) (hy2 : y.off + y.room ≤ c'.size) (hy3 : (len + n) * z ≤ y.room) (hy4 : ∀ i, i < y.room → ¬ (fz.1 ≤ y.off + i ∧ y.off + i < fz.2)) (hy5 : pl = true → fz.2 = 0)
    (hy6 : ∀ E', E.le E' → CRel E' (Tr.ofList L) ((len + n) * z) y c')
    (hcase : (w.heap.size ≤ y.blk ∧ ∀ k, k < w.heap.size → w'.heap[k]? = w.heap[k]?) ∨
      (y.blk = x.blk ∧ y.off = x.off + o ∧ (∀ k, k ≠ x.blk → w'.heap[k]? = w.heap[k]?) ∧
        ∃ c el' fz', w.heap[x.blk]? = some (.cells c el' fz') ∧ el' = el ∧ fz' = fz ∧ c'.size = c.size ∧ ∀ j, ¬ (x.off + o + len * z ≤ j ∧ j < x.off + o + len * z + n * z) → c'[j]? = c[j]?))
    (hos : w'.os = w.os) (htape : w'.tape = w.tape) (hout : w'.output = w.output) (hsize : w.heap.size ≤ w'.heap.size) :
    HRel (E.with h.nx y) (appH h b bt bn sh fam co pl o len z n L) w' ∧ Ext E h w (E.with h.nx y) (appH h b bt bn sh fam co pl o len z n L) w' := by
  obtain ⟨f1, f2, f3, f4, _, f5, f6⟩ := appH_spec hr hg o len z n L
  have hfr : E.σ h.nx = none := hr.fresh _ (Nat.le_refl _)
  have hle := Env.le_with y hfr
  have hbn : b ≠ h.nx := by intro e; rw [e, hfr] at hx; cases hx
  obtain ⟨x', hx', hxo⟩ := hr.obj b _ hg
  rw [hx] at hx'
  obtain rfl : x = x' := Option.some.inj hx'
  -- which of the old names lie where the new row lies
  have near : ∀ k o' u, k ≠ h.nx → (appH h b bt bn sh fam co pl o len z n L).t.get k = some o' → E.σ k = some u → y.blk = u.blk →
      y.blk = x.blk ∧ y.off = x.off + o ∧ ∃ ct cn cc cp, o' = .cells ct cn true (bif sh then fam else h.nx) cc cp false ∧ x.off + cc = u.off + co ∧ (co + o + len * z + n * z ≤ cc ∨ cc + cn ≤ co + o + len * z) := by
    intro k o' u hk hgk hu hblk
    obtain ⟨o0, g1, g2⟩ := f3 k o' hk hgk
    obtain ⟨u', hu', hur⟩ := hr.obj k o0 g1
    rw [hu] at hu'
    obtain rfl : u = u' := Option.some.inj hu'
    rcases hcase with ⟨hc1, _⟩ | ⟨hc1, hc2, _⟩
    · have := hur.lt; omega
    refine ⟨hc1, hc2, ?_⟩
    by_cases e : k = b
    · subst e
      rw [hx] at hu
      obtain rfl : x = u := Option.some.inj hu
      rcases f5 with h9 | ⟨ct, cn, cf, cc, cp, h9, h8⟩
      · rw [h9] at hgk; cases hgk
      · rw [h9] at hgk
        obtain rfl := Option.some.inj hgk
        subst h8
        have hcc : cc = co := by
          rw [hg] at g1
          obtain rfl := Option.some.inj g1
          rcases g2 with g2 | ⟨_, _, g4⟩
          · cases g2; rfl
          · cases g4; rfl
        subst hcc
        exact ⟨ct, cn, cc, cp, rfl, rfl, f4 k _ _ _ _ _ _ hk h9 rfl⟩
    · obtain ⟨t1, n1, fam1, co1, pl1, t2, n2, co2, pl2, e1, e2, e3⟩ := hr.sep b k _ o0 x u (fun h => e h.symm) hg g1 hx hu (by omega)
      cases e1
      subst e2
      rcases g2 with g2 | ⟨g2, _⟩
      · subst g2
        exact ⟨t2, n2, co2, pl2, rfl, e3, f4 k _ _ _ _ _ _ hk hgk rfl⟩
      · exact absurd g2 e
  refine ⟨⟨?_, ?_, fun k ct cn cf cc cp cr hk => f6 k ct cn cf cc cp cr hk, ?_, ?_, by rw [f1]; have := hr.base; omega⟩, ⟨hle, hos, htape, hout, hsize, by rw [f1]; omega, ?_, ?_, ?_, fun b hb => Env.with_other _ _ (by omega)⟩⟩
  · intro k o' hgk
    by_cases e : k = h.nx
    · subst e
      rw [f2] at hgk
      obtain rfl := Option.some.inj hgk
      exact ⟨y, Env.with_same _ _ _, c', el, fz, hy, hy2, hy3, fun _ => hy4, hy5, hy6 _ hle⟩
    · obtain ⟨o0, g1, g2⟩ := f3 k o' e hgk
      obtain ⟨u, hu, hur⟩ := hr.obj k o0 g1
      refine ⟨u, by rw [Env.with_other _ _ e]; exact hu, ?_⟩
      -- the kind of the object is of no account
      have hsame : ORel E o' u w := by
        rcases g2 with g2 | ⟨_, g3, g4⟩
        · subst g2; exact hur
        · subst g3 g4; exact hur
      by_cases hblk : y.blk = u.blk
      · obtain ⟨n1, n2, ct, cn, cc, cp, rfl, n4, n5⟩ := near k o' u e hgk hu hblk
        rcases hcase with ⟨hc1, _⟩ | ⟨hc1, hc2, hc3, c, el', fz', hc4, rfl, rfl, hc5, hc6⟩
        · have := hur.lt; omega
        obtain ⟨cc', el2, fz2, g1', g2', g3', g4', g5', g6'⟩ := hsame
        have hub : u.blk = x.blk := by omega
        rw [hub, hc4] at g1'
        cases g1'
        refine ⟨c', el', fz', by rw [← hblk]; exact hy, by rw [hc5]; exact g2', g3', g4', g5', fun i v hi => ?_⟩
        obtain ⟨q1, u', q2, q3⟩ := g6' i v hi
        refine ⟨q1, u', ?_, VR.mono hle v u' q3⟩
        rw [hc6 _ (by omega)]; exact q2
      · have hw : w'.heap[u.blk]? = w.heap[u.blk]? := by
          rcases hcase with ⟨_, hc⟩ | ⟨hc1, _, hc, _⟩
          · exact hc _ hur.lt
          · exact hc _ (by omega)
        exact hsame.mono hle hw
  · intro k k' o1 o2 u u' hne g1 g2 hu hu' hblk
    by_cases e : k = h.nx
    · subst e
      have e' : k' ≠ h.nx := fun h => hne h.symm
      rw [f2] at g1
      obtain rfl := Option.some.inj g1
      rw [Env.with_same] at hu
      obtain rfl : y = u := Option.some.inj hu
      rw [Env.with_other _ _ e'] at hu'
      obtain ⟨n1, n2, ct, cn, cc, cp, rfl, n4, n5⟩ := near k' o2 u' e' g2 hu' hblk
      exact ⟨_, _, _, _, _, ct, cn, cc, cp, rfl, rfl, by omega⟩
    · rw [Env.with_other _ _ e] at hu
      by_cases e' : k' = h.nx
      · subst e'
        rw [f2] at g2
        obtain rfl := Option.some.inj g2
        rw [Env.with_same] at hu'
        obtain rfl : y = u' := Option.some.inj hu'
        obtain ⟨n1, n2, ct, cn, cc, cp, rfl, n4, n5⟩ := near k o1 u e g1 hu hblk.symm
        exact ⟨ct, cn, _, cc, cp, _, _, _, _, rfl, rfl, by omega⟩
      · rw [Env.with_other _ _ e'] at hu'
        obtain ⟨p1, a1, a2⟩ := f3 k o1 e g1
        obtain ⟨p2, b1, b2⟩ := f3 k' o2 e' g2
        obtain ⟨t1, n1, fam1, co1, pl1, t2, n2, co2, pl2, e1, e2, e3⟩ := hr.sep k k' p1 p2 u u' hne a1 b1 hu hu' hblk
        subst e1 e2
        rcases a2 with rfl | ⟨_, a3, _⟩
        · rcases b2 with rfl | ⟨_, b3, _⟩
          · exact ⟨t1, n1, fam1, co1, pl1, t2, n2, co2, pl2, rfl, rfl, e3⟩
          · cases b3
        · cases a3
  · intro k hk
    rw [f1] at hk
    rw [Env.with_other _ _ (by omega)]
    exact hr.fresh k (by omega)
  · intro g hgl
    have := hr.base
    rw [Env.with_other _ _ (by omega)]
    exact hr.glob g hgl
  · intro k hk hn
    rcases hcase with ⟨_, hc⟩ | ⟨_, _, hc, _⟩
    · exact hc k hk
    · exact hc k fun e => hn b _ x hg rfl hx e.symm
  · intro k o' u hgk hu
    by_cases e : k = h.nx
    · subst e
      rw [Env.with_same] at hu
      obtain rfl : y = u := Option.some.inj hu
      rcases hcase with ⟨hc, _⟩ | ⟨hc, _⟩
      · exact .inl hc
      · exact .inr ⟨b, _, x, hg, fun _ => rfl, hx, hc.symm⟩
    · rw [Env.with_other _ _ e] at hu
      obtain ⟨o0, g1, g2⟩ := f3 k o' e hgk
      refine .inr ⟨k, o0, u, g1, ?_, hu, rfl⟩
      rcases g2 with rfl | ⟨_, g3, _⟩
      · exact id
      · subst g3; exact fun _ => rfl
  · intro k hk u hu
    rw [f1]
    by_cases e : k = h.nx
    · omega
    · rw [Env.with_other _ _ e, hr.fresh k hk] at hu; cases hu

end Go.Am
