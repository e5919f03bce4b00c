/- Regions whose order is open: one operation, of each kind. -/
import Derived.Test.YtbakjgolhekmgaaGreatDoorAmDraw
namespace Go.Am

section wpop
variable {P : Program} {ops : Array Oper} {Q : Exit → Act → World → Prop} {i : Nat} {o : Oper} {K : Act → World → Prop} {a : Act} {w w' : World}
theorem wp_not (ho : ops[i]? = some o) (hw : Region.wanted o (yielded ops a.tmps) = false) (h : K (a.put o.dst undef) w) : wpOp P ops Q i K a w := by
  simp only [wpOp, ho, hw, Bool.false_eq_true, if_false]; exact h
theorem wp_upon (ho : ops[i]? = some o) (hw : Region.wanted o (yielded ops a.tmps) = true) {r : Result Next} (hr : (execOp a.eval o).run P w = r) (h : o.upon P a K Q r) : wpOp P ops Q i K a w := by
  simp only [wpOp, ho, hw, if_true]
  left
  unfold Oper.wp
  rw [hr]; exact h
theorem wp_val (ho : ops[i]? = some o) (hw : Region.wanted o (yielded ops a.tmps) = true) {y : Value} {nx : Next} (hn : nx = .value y ∨ (nx = .skip ∧ y = undef)) (hr : (execOp a.eval o).run P w = .ok nx w') (h : K (a.put o.dst y) w') : wpOp P ops Q i K a w := by
  refine wp_upon ho hw hr ?_
  rcases hn with rfl | ⟨rfl, rfl⟩ <;> exact h
end wpop

section
variable {P : Program} {hyp : Hyp} {call : Nat → List AV → AH → Option (AEnd × AH)} {nt : Nat} {ops : Array Oper} {ms : List Nat} {ps : List Pl} {nx0 : Nat} {D : Nat → DS} {val : Nat → AV} {N : Nat} {tm0 : Tr AV} {hb0 : AH} {df0 : List (Nat × List AV)}
  {E0 : Env} {h0 : AH} {w0 : World} {L : Nat → Prop} {a : Act} {w : World} {E : Env} {q : Nat}

/-- a reading gives the same now as in the text's order. -/
theorem Inv.again (c : Ctx P hyp call nt ops ms ps nx0 D val N tm0 hb0 df0) (v : Inv P hyp nt ops ms ps nx0 D val N tm0 E0 h0 w0 L a w E q) (hq : q < N → ∃ p, ps[q]? = some p ∧ p.k = .w) {i : Nat} {p : Pl} (hp : ps[i]? = some p) (hi : i < N) (hn : ¬ L i) (hpre : ∀ k, ltIn ms k i = true → L k)
    (hk : p.k = .r) (hw : wantedIn (D i).tm p.co.guard = some true) : ∃ h2, xop P hyp (D i).tm (D q).h p.co.op = .v (val i) h2 := by
  have hs := c.st i p hi hp
  have hx : (∃ h2, xop P hyp (D i).tm (D i).h p.co.op = .v (val i) h2) ∧ aheadAll P hyp p.co.op (D i).tm (val i) p.un (D i).ws = true := by
    generalize D (i + 1) = d' at hs
    generalize val i = vi at hs ⊢
    cases hs with
    | skip h2 => rw [hw] at h2; cases h2
    | r v h' h2 h3 h4 h5 => exact ⟨⟨h', h4⟩, h5⟩
    | a v h' o h2 h3 => rw [hk] at h3; cases h3
    | w v h' df h2 h3 => rw [hk] at h3; cases h3
  have hiq : i ≠ q := by
    intro e
    subst e
    obtain ⟨p', e1, e2⟩ := hq hi
    rw [hp] at e1
    cases e1
    rw [hk] at e2; cases e2
  rcases Nat.lt_or_ge i q with hlt | hge
  · rcases last_or_none (EffW ps D) i q with h1 | ⟨m, h1, h2, h3, h4⟩
    · rw [(c.hConst' (Nat.le_of_lt hlt) v.qle h1).1]; exact hx.1
    · obtain ⟨pm, m1, m2, m3⟩ := h3
      have hmi : i ≠ m := by
        intro e
        subst e
        rw [hp] at m1
        cases m1
        rw [hk] at m2; cases m2
      have hmN : m < N := Nat.lt_of_lt_of_le h2 v.qle
      have hc := c.hConst' (i := m + 1) (j := q) h2 v.qle fun j h5 h6 => h4 j (by omega) h6
      have hagain : againAll P hyp (D (m + 1)).h pm.un (D m).rs = true := by
        have hsm := c.st m pm hmN m1
        generalize D (m + 1) = d' at hsm
        generalize val m = vm at hsm
        cases hsm with
        | skip h2 => rw [m3] at h2; cases h2
        | r v h' h2 h3 => rw [m2] at h3; cases h3
        | a v h' o h2 h3 => rw [m2] at h3; cases h3
        | w v h' df h2 h3 h4 h5 => exact h5
      have hun : i ∈ pm.un := by
        rcases (c.pf.w m pm m1 m2).2.1 i p (by omega) hp hk with h5 | h5
        · exact absurd (v.clos m (v.qdone m pm h2 m1 m2) i h5) hn
        · exact h5.1
      have := againAll_spec hagain i _ _ _ (c.rsMem hp hk hw m (by omega) (by omega)) hun
      rw [hc.1]
      exact again_spec this
  · have hqN : q < N := by omega
    rcases first_or_none (EffW ps D) q i with h1 | ⟨m, h1, h2, h3, h4⟩
    · rw [← (c.hConst' hge (Nat.le_of_lt hi) h1).1]; exact hx.1
    · obtain ⟨pm, m1, m2, m3⟩ := h3
      have hc := c.hConst' h1 (by omega) fun j h5 h6 => h4 j h5 h6
      have hun : m ∈ p.un := by
        rcases c.pf.r i p hp hk m pm h2 m1 m2 with h5 | h5
        · exact absurd (hpre m h5) (v.qrest m pm h1 m1 m2)
        · exact h5
      have := aheadAll_spec hx.2 m _ (c.wsMem m1 m2 m3 i h2 (Nat.le_of_lt hi)) hun
      rw [← hc.1]
      exact again_spec this

/-- rows that wait, all laid into memory. -/
theorem Inv.puts (c : Ctx P hyp call nt ops ms ps nx0 D val N tm0 hb0 df0) (v : Inv P hyp nt ops ms ps nx0 D val N tm0 E0 h0 w0 L a w E q) (hA : ∀ i p, i < q → ps[i]? = some p → p.k = .a → L i) :
    HRel E ((D q).h.puts (D q).pa) w ∧ Ext E0 h0 w0 E ((D q).h.puts (D q).pa) w ∧ nx0 + ops.size ≤ ((D q).h.puts (D q).pa).nx ∧
      ∀ b o, ((D q).h.puts (D q).pa).t.get b = some o → (D q).h.t.get b = some o ∨ ∃ i, i < q ∧ b = nx0 + i ∧ Pn P hyp nx0 ps D L q i o := by
  obtain ⟨hm, hpw⟩ := c.paMem q v.qle
  have hin : ∀ b o, (b, o) ∈ (D q).pa → ∃ i, i < q ∧ b = nx0 + i ∧ Pn P hyp nx0 ps D L q i o := by
    intro b o hb
    obtain ⟨i, h1, h2, h3, h4⟩ := hm b o hb
    obtain ⟨p, _, _, e1, e2, _⟩ := id h3
    exact ⟨i, h1, h2, hA i p h1 e1 e2, h3, h4⟩
  have key : ∀ l : List (Nat × AO), (∀ b o, (b, o) ∈ l → ∃ i, i < q ∧ b = nx0 + i ∧ Pn P hyp nx0 ps D L q i o) → l.Pairwise (fun x y => y.1 < x.1) →
      HRel E ((D q).h.puts l) w ∧ Ext E0 h0 w0 E ((D q).h.puts l) w ∧ nx0 + ops.size ≤ ((D q).h.puts l).nx ∧ ∀ b o, ((D q).h.puts l).t.get b = some o → (D q).h.t.get b = some o ∨ (b, o) ∈ l := by
    intro l
    induction l with
    | nil => exact fun _ _ => ⟨v.hr, v.ext, v.nx, fun b o h => .inl h⟩
    | cons x l ih =>
      intro hl hpl
      obtain ⟨b, o⟩ := x
      obtain ⟨g1, g2, g3, g4⟩ := ih (fun b o h => hl b o (List.mem_cons_of_mem _ h)) (List.pairwise_cons.1 hpl).2
      obtain ⟨i, i1, rfl, i3⟩ := hl b o (List.mem_cons_self ..)
      obtain ⟨x, x1, x2, x3, x4, x5, x6⟩ := v.pend i o i3
      have hd : ∀ b' o' y, ((D q).h.puts l).t.get b' = some o' → E.σ b' = some y → y.blk ≠ x.blk := by
        intro b' o' y hb hy
        rcases g4 b' o' hb with h1 | h1
        · exact x5 b' o' y h1 hy
        · obtain ⟨i', _, e2, e3⟩ := hl b' o' (List.mem_cons_of_mem _ h1)
          have hlt := (List.pairwise_cons.1 hpl).1 _ h1
          subst e2
          exact x6 i' o' y e3 (by simp only at hlt; omega) hy
      refine ⟨g1.put1 x1 x2 x3 hd, ⟨g2.le, g2.os, g2.tape, g2.output, g2.size, by show _ ≤ (((D q).h.puts l).over _ o).nx; rw [over_nx]; exact g2.nx, g2.keep, fun b' o' y hb hy => ?_, fun b' hb' y hy => ?_, g2.low⟩, by show _ ≤ (((D q).h.puts l).over _ o).nx; rw [over_nx]; exact g3, fun b' o' hb => ?_⟩
      · have hb : (((D q).h.puts l).over (nx0 + i) o).t.get b' = some o' := hb
        rw [get_over] at hb
        by_cases e : b' = nx0 + i
        · subst e
          rw [x1] at hy
          cases hy
          exact .inl x4
        · rw [if_neg e] at hb
          exact g2.org b' o' y hb hy
      · show b' < (((D q).h.puts l).over _ o).nx
        rw [over_nx]; exact g2.new b' hb' y hy
      · have hb : (((D q).h.puts l).over (nx0 + i) o).t.get b' = some o' := hb
        rw [get_over] at hb
        by_cases e : b' = nx0 + i
        · rw [if_pos e] at hb
          cases hb
          subst e
          exact .inr (List.mem_cons_self ..)
        · rw [if_neg e] at hb
          rcases g4 b' o' hb with h1 | h1
          · exact .inl h1
          · exact .inr (List.mem_cons_of_mem _ h1)
  obtain ⟨g1, g2, g3, g4⟩ := key _ hin hpw
  exact ⟨g1, g2, g3, fun b o hb => (g4 b o hb).imp_right (hin b o)⟩

theorem EffA.kind {i : Nat} {ob : AO} (h : EffA P hyp nx0 ps D i ob) {p : Pl} (hp : ps[i]? = some p) : p.k = .a ∧ wantedIn (D i).tm p.co.guard = some true := by
  obtain ⟨p', _, _, e1, e2, e3, _⟩ := h
  rw [hp] at e1
  cases e1
  exact ⟨e2, e3⟩

/-- a step that keeps memory as it is known: an operation that reads, or that is not wanted. -/
theorem Inv.still (c : Ctx P hyp call nt ops ms ps nx0 D val N tm0 hb0 df0) (v : Inv P hyp nt ops ms ps nx0 D val N tm0 E0 h0 w0 L a w E q) (hq : q < N → ∃ p, ps[q]? = some p ∧ p.k = .w) {i : Nat} {o : Oper} {p : Pl} (ho : ops[i]? = some o) (hp : ps[i]? = some p) (hi : i < N) (hn : ¬ L i) (hpre : ∀ k, ltIn ms k i = true → L k)
    (hnw : ¬ EffW ps D i) (hna : ∀ ob, ¬ EffA P hyp nx0 ps D i ob) {E' : Env} {w' : World} {y : Value} (hy : VR E' (val i) y) (hr : HRel E' (D q).h w') (he : Ext E (D q).h w E' (D q).h w') :
    ∃ q', Inv P hyp nt ops ms ps nx0 D val N tm0 E0 h0 w0 (fun j => j = i ∨ L j) (a.put o.dst y) w' E' q' := by
  have hcar : ∀ q', q ≤ q' → (D q').h = (D q).h → ∀ j ob, Pn P hyp nx0 ps D (fun j => j = i ∨ L j) q' j ob → ∃ x, E'.σ (nx0 + j) = some x ∧ ORel E' ob x w' ∧ ob.alone ∧ w0.heap.size ≤ x.blk ∧ (∀ b o' y, (D q').h.t.get b = some o' → E'.σ b = some y → y.blk ≠ x.blk) ∧
      ∀ j' ob' y, Pn P hyp nx0 ps D (fun j => j = i ∨ L j) q' j' ob' → j' ≠ j → E'.σ (nx0 + j') = some y → y.blk ≠ x.blk := by
    intro q' hqq hh j ob hpn
    have hpn' : ∀ {j ob}, Pn P hyp nx0 ps D (fun j => j = i ∨ L j) q' j ob → Pn P hyp nx0 ps D L q j ob := by
      intro j ob hpn
      refine ⟨?_, hpn.2.1, fun k h1 h2 => hpn.2.2 k h1 (by omega)⟩
      rcases hpn.1 with rfl | h1
      · exact absurd hpn.2.1 (hna ob)
      · exact h1
    obtain ⟨x, x1, x2, x3, x4, x5, x6⟩ := v.pend j ob (hpn' hpn)
    obtain ⟨c1, c2⟩ := carry he x2 x5
    refine ⟨x, he.le.σ _ _ x1, c1, x3, x4, by rw [hh]; exact c2, fun j' ob' y' h1 h2 h3 => ?_⟩
    obtain ⟨x', y1, _⟩ := v.pend j' ob' (hpn' h1)
    have := he.le.σ _ _ y1
    rw [h3] at this
    cases this
    exact x6 j' ob' _ (hpn' h1) h2 y1
  have hnames : ∀ j, j < ops.size → ¬ (j = i ∨ L j) → E'.σ (nx0 + j) = none := by
    intro j hj hnj
    rw [he.low _ (by have := v.nx; omega)]
    exact v.names j hj (fun h => hnj (.inr h))
  by_cases hkw : p.k = .w
  · -- not wanted: then it is the next one that writes
    have hiq : i = q := by
      rcases Nat.lt_or_ge i q with h1 | h1
      · exact absurd (v.qdone i p h1 hp hkw) hn
      · by_cases e : i = q
        · exact e
        · obtain ⟨pq, e1, e2⟩ := hq (by omega)
          have := (c.pf.w i p hp hkw).1 q pq (by omega) e1 (by rw [e2]; intro h; cases h)
          exact absurd (hpre q this) (v.qrest q pq (Nat.le_refl _) e1 e2)
    subst hiq
    have hc := c.hConst' (i := i) (j := i + 1) (by omega) hi (fun m h1 h2 => by obtain rfl : m = i := by omega
                                                                                exact hnw)
    refine ⟨i + 1, v.next c ho hp hi hn hpre he.le hy rfl hi (fun j r h1 h2 h3 => ?_) (fun j r h1 h2 h3 h4 => ?_) (by rw [hc.1]; exact hr) (by rw [hc.1]; exact v.nx) (by rw [hc.2, put_defers]; exact v.df.mono he.le) (hcar (i + 1) (by omega) hc.1) hnames (by rw [hc.1]; exact v.ext.trans he)⟩
    · by_cases e : j = i
      · exact .inl e
      · exact .inr (v.qdone j r (by omega) h2 h3)
    · rcases h4 with rfl | h4
      · omega
      · exact v.qrest j r (by omega) h2 h3 h4
  · refine ⟨q, v.next c ho hp hi hn hpre he.le hy rfl v.qle (fun j r h1 h2 h3 => .inr (v.qdone j r h1 h2 h3)) (fun j r h1 h2 h3 h4 => ?_) hr v.nx (by rw [put_defers]; exact v.df.mono he.le) (hcar q (Nat.le_refl _) rfl) hnames (v.ext.trans he)⟩
    rcases h4 with rfl | h4
    · rw [hp] at h2
      cases h2
      exact hkw h3
    · exact v.qrest j r h1 h2 h3 h4
end
end Go.Am
