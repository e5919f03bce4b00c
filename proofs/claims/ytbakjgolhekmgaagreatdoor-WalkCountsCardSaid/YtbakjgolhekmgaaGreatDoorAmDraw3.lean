/- Regions whose order is open: rows, writes, the end. -/
import Derived.Test.YtbakjgolhekmgaaGreatDoorAmDraw2
namespace Go.Am

section
variable {P : Program} {hyp : Hyp} {call : Nat → List AV → AH → Option (AEnd × AH)} {nt : Nat} {ops : Array Oper} {ms : List Nat} {ps : List Pl} {nx0 : Nat} {D : Nat → DS} {val : Nat → AV} {N : Nat} {tm0 : Tr AV} {hb0 : AH} {df0 : List (Nat × List AV)}
  {E0 : Env} {h0 : AH} {w0 : World} {L : Nat → Prop} {a : Act} {w : World} {E : Env} {q : Nat}

theorem EffA.uniq {i : Nat} {ob ob' : AO} (h : EffA P hyp nx0 ps D i ob) (h' : EffA P hyp nx0 ps D i ob') : ob = ob' := by
  obtain ⟨p, v, k, e1, _, _, e4, e5⟩ := h
  obtain ⟨p', v', k', f1, _, _, f4, f5⟩ := h'
  rw [e1] at f1
  cases f1
  rw [e4] at f4
  cases f4
  rw [e5] at f5
  exact Option.some.inj f5

/-- a new row. -/
theorem Inv.row (hnx : h0.nx = nx0) (c : Ctx P hyp call nt ops ms ps nx0 D val N tm0 hb0 df0) (v : Inv P hyp nt ops ms ps nx0 D val N tm0 E0 h0 w0 L a w E q) {i : Nat} {o : Oper} {p : Pl} (ho : ops[i]? = some o) (hp : ps[i]? = some p) (hi : i < N) (hn : ¬ L i) (hpre : ∀ k, ltIn ms k i = true → L k)
    (hk : p.k = .a) {ob : AO} (hea : EffA P hyp nx0 ps D i ob) {w' : World} {x : Slot} {y : Value} (hok : NOk E (nx0 + i) w ob x w') (hy : VR (E.with (nx0 + i) x) (val i) y) :
    Inv P hyp nt ops ms ps nx0 D val N tm0 E0 h0 w0 (fun j => j = i ∨ L j) (a.put o.dst y) w' (E.with (nx0 + i) x) q := by
  have hisz : i < ops.size := (Array.getElem?_eq_some_iff.1 ho).1
  have hno := v.names i hisz hn
  have hlt : nx0 + i < (D q).h.nx := by have := v.nx; omega
  have hle := Env.le_with x hno
  have hobj : ∀ b o' z, (D q).h.t.get b = some o' → (E.with (nx0 + i) x).σ b = some z → E.σ b = some z ∧ z.blk < w.heap.size := by
    intro b o' z hb hz
    obtain ⟨z', hz', hzr⟩ := v.hr.obj b o' hb
    have := hle.σ _ _ hz'
    rw [hz] at this
    cases this
    exact ⟨hz', hzr.lt⟩
  have hblk := hok.blk
  have hpold : ∀ {j ob'}, j ≠ i → Pn P hyp nx0 ps D (fun j => j = i ∨ L j) q j ob' → Pn P hyp nx0 ps D L q j ob' := fun hne h => ⟨h.1.resolve_left hne, h.2.1, h.2.2⟩
  refine v.next c ho hp hi hn hpre hle hy rfl v.qle (fun j r h1 h2 h3 => .inr (v.qdone j r h1 h2 h3)) (fun j r h1 h2 h3 h4 => ?_) (v.hr.name hlt hno x hok.keep) v.nx (by rw [put_defers]; exact v.df.mono hle) (fun j ob' hpn => ?_) (fun j hj hnj => ?_) (v.ext.name v.hr hno (by omega) hlt x hok.keep hok.size hok.os hok.tape hok.output)
  · rcases h4 with rfl | h4
    · rw [hp] at h2
      cases h2
      rw [hk] at h3; cases h3
    · exact v.qrest j r h1 h2 h3 h4
  · by_cases e : j = i
    · subst e
      obtain rfl := EffA.uniq hpn.2.1 hea
      refine ⟨x, Env.with_same _ _ _, hok.rel, hok.al, Nat.le_trans v.ext.size hblk, fun b o' z hb hz => ?_, fun j' ob'' z h1 h2 h3 => ?_⟩
      · have := (hobj b o' z hb hz).2
        omega
      · obtain ⟨x', y1, y2, _⟩ := v.pend j' ob'' (hpold h2 h1)
        rw [Env.with_other _ _ (by omega), y1] at h3
        cases h3
        have := y2.lt
        omega
    · obtain ⟨x', y1, y2, y3, y4, y5, y6⟩ := v.pend j ob' (hpold e hpn)
      have hxl := y2.lt
      refine ⟨x', by rw [Env.with_other _ _ (by omega)]; exact y1, y2.mono hle (hok.keep _ hxl), y3, y4, fun b o' z hb hz => y5 b o' z hb (hobj b o' z hb hz).1, fun j' ob'' z h1 h2 h3 => ?_⟩
      by_cases e' : j' = i
      · subst e'
        rw [Env.with_same] at h3
        cases h3
        omega
      · rw [Env.with_other _ _ (by omega)] at h3
        exact y6 j' ob'' z (hpold e' h1) h2 h3
  · rw [Env.with_other _ _ (by intro h; exact hnj (.inl (by omega)))]
    exact v.names j hj fun h => hnj (.inr h)

/-- who writes is the next one that does. -/
theorem Inv.isNext (c : Ctx P hyp call nt ops ms ps nx0 D val N tm0 hb0 df0) (v : Inv P hyp nt ops ms ps nx0 D val N tm0 E0 h0 w0 L a w E q) (hq : q < N → ∃ p, ps[q]? = some p ∧ p.k = .w) {i : Nat} {p : Pl} (hp : ps[i]? = some p) (hi : i ≤ N) (hn : ¬ L i) (hpre : ∀ k, ltIn ms k i = true → L k)
    (hk : p.k = .w) : i = q ∧ ∀ j r, j < i → ps[j]? = some r → r.k ≠ .r → L j := by
  refine ⟨?_, fun j r h1 h2 h3 => hpre j ((c.pf.w i p hp hk).1 j r h1 h2 h3)⟩
  rcases Nat.lt_or_ge i q with h1 | h1
  · exact absurd (v.qdone i p h1 hp hk) hn
  · by_cases e : i = q
    · exact e
    · obtain ⟨pq, e1, e2⟩ := hq (by omega)
      have := (c.pf.w i p hp hk).1 q pq (by omega) e1 (by rw [e2]; intro h; cases h)
      exact absurd (hpre q this) (v.qrest q pq (Nat.le_refl _) e1 e2)

theorem Inv.wrote (c : Ctx P hyp call nt ops ms ps nx0 D val N tm0 hb0 df0) (v : Inv P hyp nt ops ms ps nx0 D val N tm0 E0 h0 w0 L a w E q) {o : Oper} {p : Pl} (ho : ops[q]? = some o) (hp : ps[q]? = some p) (hi : q < N) (hn : ¬ L q) (hpre : ∀ k, ltIn ms k q = true → L k)
    (hk : p.k = .w) (hw : wantedIn (D q).tm p.co.guard = some true) (hall : ∀ j r, j < q → ps[j]? = some r → r.k ≠ .r → L j) {E' : Env} {w' : World} {a' : Act} {y : Value} (hy : VR E' (val q) y) (ha : a'.tmps = (a.put o.dst y).tmps)
    (hr : HRel E' (D (q + 1)).h w') (he : Ext E ((D q).h.puts (D q).pa) w E' (D (q + 1)).h w') (df : DsRel P E' (D (q + 1)).defers a'.defers) :
    Inv P hyp nt ops ms ps nx0 D val N tm0 E0 h0 w0 (fun j => j = q ∨ L j) a' w' E' (q + 1) := by
  obtain ⟨g1, g2, g3, g4⟩ := v.puts c fun j r h1 h2 h3 => hall j r h1 h2 (by rw [h3]; intro h; cases h)
  have hpn' : ∀ {j ob}, Pn P hyp nx0 ps D (fun j => j = q ∨ L j) (q + 1) j ob → q < j ∧ Pn P hyp nx0 ps D L q j ob := by
    intro j ob hpn
    have hjq : j ≠ q := by
      intro e
      subst e
      have := (EffA.kind hpn.2.1 hp).1
      rw [hk] at this; cases this
    have hlt : q < j := by
      rcases Nat.lt_or_ge j q with h1 | h1
      · exact absurd ⟨p, hp, hk, hw⟩ (hpn.2.2 q h1 (by omega))
      · omega
    exact ⟨hlt, hpn.1.resolve_left hjq, hpn.2.1, fun k h1 h2 => by omega⟩
  refine v.next c ho hp hi hn hpre he.le hy ha hi (fun j r h1 h2 h3 => ?_) (fun j r h1 h2 h3 h4 => ?_) hr (Nat.le_trans g3 he.nx) df (fun j ob hpn => ?_) (fun j hj hnj => ?_) (g2.trans he)
  · by_cases e : j = q
    · exact .inl e
    · exact .inr (v.qdone j r (by omega) h2 h3)
  · rcases h4 with rfl | h4
    · omega
    · exact v.qrest j r (by omega) h2 h3 h4
  · obtain ⟨hlt, hpo⟩ := hpn' hpn
    obtain ⟨x, x1, x2, x3, x4, x5, x6⟩ := v.pend j ob hpo
    obtain ⟨c1, c2⟩ := carry he x2 fun b o' y' hb hy' => by
      rcases g4 b o' hb with h1 | ⟨k, k1, rfl, k3⟩
      · exact x5 b o' y' h1 hy'
      · exact x6 k o' y' k3 (by omega) hy'
    refine ⟨x, he.le.σ _ _ x1, c1, x3, x4, c2, fun j' ob' y' h1 h2 h3 => ?_⟩
    obtain ⟨hlt', hpo'⟩ := hpn' h1
    obtain ⟨x', y1, _⟩ := v.pend j' ob' hpo'
    have := he.le.σ _ _ y1
    rw [h3] at this
    cases this
    exact x6 j' ob' _ hpo' h2 y1
  · rw [he.low _ (by omega)]
    exact v.names j hj fun h => hnj (.inr h)

/-- one operation, of whichever kind. -/
theorem Inv.step (hcs : CSound P hyp call) (hh : HypOk hyp E0.ρ) (hnx : h0.nx = nx0) (c : Ctx P hyp call nt ops ms ps nx0 D val N tm0 hb0 df0) (v : Inv P hyp nt ops ms ps nx0 D val N tm0 E0 h0 w0 L a w E q) (hq : q < N → ∃ p, ps[q]? = some p ∧ p.k = .w) {i : Nat} (hi : i < N) (hn : ¬ L i) (hpre : ∀ k, ltIn ms k i = true → L k)
    {Q : Exit → Act → World → Prop} {K : Act → World → Prop} (hK : ∀ a' w' E' q', Inv P hyp nt ops ms ps nx0 D val N tm0 E0 h0 w0 (fun j => j = i ∨ L j) a' w' E' q' → K a' w') : wpOp P ops Q i K a w := by
  obtain ⟨p, hp⟩ := c.pl (i := i) (by have := c.hN; omega)
  obtain ⟨hpi, o, ho, hs, hkind, ⟨hcov, hcovg⟩, hal⟩ := c.pf.at_ i p hp
  have hrd := v.reads c ho (Nat.le_of_lt hi) hn hpre
  have hh' : HypOk hyp E.ρ := by rw [v.ext.le.ρ]; exact hh
  have hev := covered_spec (tm := (D i).tm) (tm' := restr (D i).tm (namesIn ops.toList o)) (fun t ht => by rw [get_restr, if_pos ht]) hcov
  have hwt : ∀ {b}, wantedIn (D i).tm p.co.guard = some b → Region.wanted o (yielded ops a.tmps) = b := by
    intro b hb
    refine wanted_spec hs hrd ?_
    rw [← hb]
    cases hg : p.co.guard with
    | none => rfl
    | some g =>
      obtain ⟨pth, want⟩ := g
      rw [hg] at hcovg
      simp only [coveredG, List.any_eq_true, decide_eq_true_eq] at hcovg
      obtain ⟨t, ht, rfl⟩ := hcovg
      simp only [wantedIn, Tr.getP_pathOf, get_restr, if_pos ht]
  have hx := fun h => xop_cong P hyp h p.co.op hev
  have hst := c.st i p hi hp
  generalize hd' : D (i + 1) = d' at hst
  generalize hvi : val i = vi at hst
  cases hst with
  | skip h2 =>
    refine wp_not ho (hwt h2) ?_
    obtain ⟨q', hv⟩ := v.still c hq ho hp hi hn hpre (fun ⟨r, e1, _, e3⟩ => by rw [hp] at e1; cases e1; rw [h2] at e3; cases e3) (fun ob he => by have := (EffA.kind he hp).2; rw [h2] at this; cases this)
      (y := undef) (by rw [hvi]; exact undef_rel) v.hr (.refl v.hr)
    exact hK _ _ _ _ hv
  | r vv h' h2 h3 h4 h5 =>
    obtain ⟨hq2, hag⟩ := v.again c hq hp hi hn hpre h3 h2
    have hxs := xop_spec (h := (D q).h) (w := w) (hyp := hyp) (a := a) hh' v.hr hrd hs.op
    have hkr : kindOf p.co.op = .r := by rw [← hkind]; exact h3
    obtain rfl := r_keeps hkr hag
    rw [hx, hag] at hxs
    obtain ⟨nx, y, w', E', e1, e2, e3, e4, e5⟩ := hxs
    obtain ⟨q', hv⟩ := v.still c hq ho hp hi hn hpre (fun ⟨r, f1, f2, _⟩ => by rw [hp] at f1; cases f1; rw [h3] at f2; cases f2) (fun ob he => by have := (EffA.kind he hp).1; rw [h3] at this; cases this) e3 e4 e5
    exact wp_val ho (hwt h2) e2 e1 (hK _ _ _ _ hv)
  | a vv h' ob h2 h3 h4 h5 =>
    rw [hpi] at h4 h5
    have hka : kindOf p.co.op = .a := by rw [← hkind]; exact h3
    have has := aop_spec (N := nx0 + i) (w := w) (hyp := hyp) (a := a) ⟨v.hr.globs, v.names i (by have := c.hN; omega) hn⟩ hrd hs.op hka (hal h3)
    rw [hx, h4] at has
    obtain ⟨ob', g1, y, w', x, e1, e2, e3⟩ := has
    rw [h5] at g1
    cases g1
    refine wp_val ho (hwt h2) (.inl rfl) e1 (hK _ _ _ _ (v.row hnx c ho hp hi hn hpre h3 ⟨p, _, h', hp, h3, h2, h4, h5⟩ e2 (by rw [hvi]; exact e3)))
  | w vv h' df h2 h3 h4 h5 =>
    obtain ⟨rfl, hall⟩ := v.isNext c hq hp (Nat.le_of_lt hi) hn hpre h3
    obtain ⟨g1, g2, g3, g4⟩ := v.puts c fun j r h1 h2 h3 => hall j r h1 h2 (by rw [h3]; intro h; cases h)
    have hxs := xop_spec (h := (D i).h.puts (D i).pa) (w := w) (hyp := hyp) (a := a) hh' g1 hrd hs.op
    rw [hx] at hxs
    have fin : ∀ {E' : Env} {w' : World} {a' : Act} {y : Value}, VR E' vi y → a'.tmps = (a.put o.dst y).tmps → HRel E' h' w' → Ext E ((D i).h.puts (D i).pa) w E' h' w' → DsRel P E' df a'.defers → K a' w' := by
      intro E' w' a' y k1 k2 k3 k4 k5
      exact hK _ _ _ _ (v.wrote c ho hp hi hn hpre h3 h2 hall (by rw [hvi]; exact k1) k2 (by rw [hd']; exact k3) (by rw [hd']; exact k4) (by rw [hd']; exact k5))
    rcases h4 with ⟨h6, rfl⟩ | ⟨g, args, h6, rfl, rfl⟩ | ⟨f, args, h1, h6, h7, rfl⟩
    · rw [h6] at hxs
      obtain ⟨nx, y, w', E', e1, e2, e3, e4, e5⟩ := hxs
      exact wp_val ho (hwt h2) e2 e1 (fin e3 rfl e4 e5 (by rw [put_defers]; exact v.df.mono e5.le))
    · rw [h6] at hxs
      obtain ⟨fn, cap, xs, ys, e1, e2, rfl, e4⟩ := hxs
      refine wp_upon ho (hwt h2) e1 ?_
      exact fin (y := undef) undef_rel (by cases o.dst <;> rfl) g1 (.refl g1) (by rw [put_defers]; exact ⟨_, _, rfl, ⟨fn, cap, ys, rfl, e2, e4⟩, v.df⟩)
    · rw [h6] at hxs
      obtain ⟨ys, e1, e2, rfl⟩ := hxs
      refine wp_upon ho (hwt h2) e1 ?_
      intro cs
      obtain ⟨E', w', fr, en, s1, ⟨y, rfl, s2⟩, s3, s4, s5, s6⟩ := hcs f args _ _ _ h7 E w ys hh' g1 e2 cs
      exact ⟨.returned y, w', fr, fin s2 rfl s5 s6 (by rw [put_defers]; exact v.df.mono s6.le), s1, s4, s3⟩

/-- all is done. -/
theorem Inv.final (c : Ctx P hyp call nt ops ms ps nx0 D val N tm0 hb0 df0) (hN : N = ops.size) (v : Inv P hyp nt ops ms ps nx0 D val N tm0 E0 h0 w0 L a w E q) (hq : q < N → ∃ p, ps[q]? = some p ∧ p.k = .w) (hall : ∀ i, i < ops.size → L i) :
    RRel P E nt (D N).tm ((D N).h.puts (D N).pa) (D N).defers [] a [] w ∧ Ext E0 h0 w0 E ((D N).h.puts (D N).pa) w := by
  have hqN : q = N := by
    rcases Nat.lt_or_ge q N with h1 | h1
    · obtain ⟨p, e1, e2⟩ := hq h1
      exact absurd (hall q (by omega)) (v.qrest q p (Nat.le_refl _) e1 e2)
    · have := v.qle; omega
  subst hqN
  obtain ⟨g1, g2, g3, g4⟩ := v.puts c fun j r h1 h2 h3 => hall j (by omega)
  refine ⟨⟨g1, fun t u hu => ?_, v.tsz, v.df, rfl⟩, g2⟩
  rcases c.tmGet q (Nat.le_refl _) t u hu with ⟨j, oj, h1, h2, h3, rfl⟩ | ⟨h1, h2⟩
  · exact v.s1 j oj t (hall j (by omega)) h2 h3
  · exact v.s2 t u (fun k ok hk hok => h1 k ok (v.lst k hk) hok) h2

theorem get_forget : ∀ (l : List Nat) (tm : Tr AV) (s : Nat) (v : AV), (forgetIn l tm).get s = some v → s ∉ l ∧ tm.get s = some v
  | [], tm, s, v, h => ⟨by simp, h⟩
  | d :: l, tm, s, v, h => by
    obtain ⟨h1, h2⟩ := get_forget l (tm.del d) s v h
    rw [Tr.get_del] at h2
    split at h2
    · cases h2
    · rename_i hne
      exact ⟨by simp [h1, hne], h2⟩
/-- a panic ends all. -/
theorem Inv.panics (hcs : CSound P hyp call) (hh : HypOk hyp E0.ρ) (c : Ctx P hyp call nt ops ms ps nx0 D val N tm0 hb0 df0) (v : Inv P hyp nt ops ms ps nx0 D val N tm0 E0 h0 w0 L a w E q) (hq : q < N → ∃ p, ps[q]? = some p ∧ p.k = .w) (hn : ¬ L N) (hpre : ∀ k, ltIn ms k N = true → L k) {p : Pl} (hp : ps[N]? = some p)
    (hw : wantedIn (D N).tm p.co.guard = some true) (hk : p.k = .w) (hl : p.last = true) {cc : List (AV × Bool)} {h' : AH} (hres : PRes P hyp call (D N).tm ((D N).h.puts (D N).pa) p.co.op cc h')
    {Q : Exit → Act → World → Prop} {K : Act → World → Prop} (hQ : ∀ c' w' E', PsRel E' cc c' → RRel P E' nt (forgetIn p.fg (D N).tm) h' (D N).defers [] a [] w' → Ext E0 h0 w0 E' h' w' → Q (.panic c') a w') : wpOp P ops Q N K a w := by
  obtain ⟨hpi, o, ho, hs, hkind, ⟨hcov, hcovg⟩, hal⟩ := c.pf.at_ N p hp
  have hrd := v.reads c ho (Nat.le_refl _) hn hpre
  have hh' : HypOk hyp E.ρ := by rw [v.ext.le.ρ]; exact hh
  have hev := covered_spec (tm := (D N).tm) (tm' := restr (D N).tm (namesIn ops.toList o)) (fun t ht => by rw [get_restr, if_pos ht]) hcov
  have hwt : Region.wanted o (yielded ops a.tmps) = true := by
    refine wanted_spec hs hrd ?_
    rw [← hw]
    cases hg : p.co.guard with
    | none => rfl
    | some g =>
      obtain ⟨pth, want⟩ := g
      rw [hg] at hcovg
      simp only [coveredG, List.any_eq_true, decide_eq_true_eq] at hcovg
      obtain ⟨t, ht, rfl⟩ := hcovg
      simp only [wantedIn, Tr.getP_pathOf, get_restr, if_pos ht]
  have hx := fun h => xop_cong P hyp h p.co.op hev
  obtain ⟨hqN, hall⟩ := v.isNext c hq hp (Nat.le_refl _) hn hpre hk
  subst hqN
  obtain ⟨g1, g2, g3, g4⟩ := v.puts c fun j r h1 h2 h3 => hall j r h1 h2 (by rw [h3]; intro h; cases h)
  have hxs := xop_spec (h := (D N).h.puts (D N).pa) (w := w) (hyp := hyp) (a := a) hh' g1 hrd hs.op
  rw [hx] at hxs
  have htm : ∀ {E' : Env}, E.le E' → TRel E' (forgetIn p.fg (D N).tm) a.tmps := by
    intro E' hle t u hu
    obtain ⟨h1, h2⟩ := get_forget _ _ _ _ hu
    refine VR.mono hle _ _ ?_
    rcases c.tmGet N (Nat.le_refl _) t u h2 with ⟨j, oj, j1, j2, j3, rfl⟩ | ⟨j1, j2⟩
    · obtain ⟨pj, hpj⟩ := c.pl (i := j) (Array.getElem?_eq_some_iff.1 j2).1
      by_cases hr : pj.k = .r
      · rcases (c.pf.w N p hp hk).2.1 j pj j1 hpj hr with h3 | ⟨_, h3⟩
        · exact v.s1 j oj t (hpre j h3) j2 j3
        · refine absurd (h3 t ?_) h1
          have : ops.toList[j]? = some oj := by rw [Array.getElem?_toList]; exact j2
          simp only [dstOf, this, j3]
      · exact v.s1 j oj t (hall j pj j1 hpj hr) j2 j3
    · exact v.s2 t u (fun k ok hk' hok => j1 k ok (v.lst k hk') hok) j2
  rcases hres with ⟨vv, h6, rfl⟩ | ⟨f, args, h1, h6, h7⟩
  · rw [h6] at hxs
    obtain ⟨y, e1, e2, rfl⟩ := hxs
    refine wp_upon ho hwt e1 ?_
    exact hQ _ _ E ⟨_, [], rfl, e2, rfl, rfl, rfl⟩ ⟨g1, htm (.refl E), v.tsz, v.df, rfl⟩ g2
  · rw [h6] at hxs
    obtain ⟨ys, e1, e2, rfl⟩ := hxs
    refine wp_upon ho hwt e1 ?_
    intro cs
    obtain ⟨E', w', fr, en, s1, ⟨c', rfl, s2⟩, s3, s4, s5, s6⟩ := hcs f args _ _ _ h7 E w ys hh' g1 e2 cs
    exact ⟨.panicked c', w', fr, hQ _ _ E' s2 ⟨s5, htm s6.le, v.tsz, v.df.mono s6.le, rfl⟩ (g2.trans s6), s1, s4, s3⟩

theorem Inv.congr {L' : Nat → Prop} (hL : ∀ i, L i ↔ L' i) (v : Inv P hyp nt ops ms ps nx0 D val N tm0 E0 h0 w0 L a w E q) : Inv P hyp nt ops ms ps nx0 D val N tm0 E0 h0 w0 L' a w E q := by
  have : L = L' := funext fun i => propext (hL i)
  rw [← this]; exact v

/-- how many are still to come. -/
def left (n : Nat) (listed : Array Bool) : Nat := (List.range n).countP fun i => !(listed.getD i false)
theorem count_lt {p p' : Nat → Bool} (h : ∀ i, p' i = true → p i = true) : ∀ {l : List Nat} {i : Nat}, i ∈ l → p i = true → p' i = false → l.countP p' < l.countP p
  | [], _, hm, _, _ => by cases hm
  | x :: l, i, hm, h1, h2 => by
    have hle : l.countP p' ≤ l.countP p := List.countP_mono_left fun y _ => h y
    rcases List.mem_cons.1 hm with rfl | hm
    · rw [List.countP_cons, List.countP_cons, h1, h2]
      simp; omega
    · have := count_lt h hm h1 h2
      rw [List.countP_cons, List.countP_cons]
      have hx : (if p' x = true then 1 else 0) ≤ (if p x = true then 1 else 0) := by
        by_cases e : p' x = true
        · rw [if_pos e, if_pos (h x e)]; exact Nat.le_refl _
        · rw [if_neg e]; exact Nat.zero_le _
      omega

theorem draw_any (hcs : CSound P hyp call) (hh : HypOk hyp E0.ρ) (hnx : h0.nx = nx0) (c : Ctx P hyp call nt ops ms ps nx0 D val N tm0 hb0 df0) {Q : Exit → Act → World → Prop}
    (hfin : ∀ L a w E q, Inv P hyp nt ops ms ps nx0 D val N tm0 E0 h0 w0 L a w E q → (q < N → ∃ p, ps[q]? = some p ∧ p.k = .w) → (∀ i, i < ops.size → L i) → Q .normal a w)
    (hpan : ∀ L a w E q, Inv P hyp nt ops ms ps nx0 D val N tm0 E0 h0 w0 L a w E q → (q < N → ∃ p, ps[q]? = some p ∧ p.k = .w) → ∀ i, N ≤ i → i < ops.size → ¬ L i → (∀ k, ltIn ms k i = true → L k) → ∀ K, wpOp P ops Q i K a w) :
    ∀ (fuel : Nat) (listed : Array Bool) (a : Act) (w : World) (E : Env) (q : Nat), listed.size = ops.size → left ops.size listed ≤ fuel → Inv P hyp nt ops ms ps nx0 D val N tm0 E0 h0 w0 (fun i => listed.getD i false = true) a w E q → wpAny P .any ops Q fuel listed a w := by
  -- where nothing is ready, all is done
  have hready : ∀ (listed : Array Bool), listed.size = ops.size → Region.ready .any ops listed = [] → ∀ i, i < ops.size → listed.getD i false = true := by
    intro listed hsz hr i
    induction i using Nat.strongRecOn with
    | ind i ih =>
      intro hi
      cases hc : listed.getD i false with
      | true => rfl
      | false =>
        exfalso
        have : i ∈ Region.ready .any ops listed := by
          rw [mem_ready]
          refine ⟨?_, ops[i], Array.getElem?_eq_getElem hi, fun e he hb => ?_⟩
          · rw [Array.getD_eq_getD_getElem?] at hc ⊢
            rw [Array.getElem?_eq_getElem (by omega)] at hc ⊢
            exact hc
          · have := c.pf.edge i _ (Array.getElem?_eq_getElem hi) e he hb
            exact ih e.on this (by omega)
        rw [hr] at this
        cases this
  intro fuel
  induction fuel with
  | zero =>
    intro listed a w E q hsz hleft v
    have hall : ∀ i, i < ops.size → listed.getD i false = true := by
      intro i hi
      have h0 : (List.range ops.size).countP (fun i => !(listed.getD i false)) = 0 := Nat.le_zero.1 hleft
      rw [List.countP_eq_zero] at h0
      have := h0 i (List.mem_range.2 hi)
      simpa using this
    obtain ⟨q', v', hq'⟩ := v.adv c
    refine ⟨?_, hfin _ _ _ _ _ v' hq' hall⟩
    cases hr : Region.ready .any ops listed with
    | nil => rfl
    | cons i l =>
      exfalso
      have hm : i ∈ Region.ready .any ops listed := by rw [hr]; exact List.mem_cons_self ..
      rw [mem_ready] at hm
      obtain ⟨h1, o, h2, _⟩ := hm
      have hi := (Array.getElem?_eq_some_iff.1 h2).1
      have h3 := hall i hi
      rw [Array.getD_eq_getD_getElem?, Array.getElem?_eq_getElem (by omega)] at h1 h3
      simp only [Option.getD_some] at h1 h3
      rw [h1] at h3; cases h3
  | succ fuel ih =>
    intro listed a w E q hsz hleft v
    obtain ⟨q', v', hq'⟩ := v.adv c
    refine ⟨fun hr => hfin _ _ _ _ _ v' hq' (hready listed hsz hr), fun i hm => ?_⟩
    rw [mem_ready] at hm
    obtain ⟨h1, o, h2, h3⟩ := hm
    have hi := (Array.getElem?_eq_some_iff.1 h2).1
    have hnl : ¬ (listed.getD i false = true) := by
      rw [Array.getD_eq_getD_getElem?, Array.getElem?_eq_getElem (by omega)] at h1 ⊢
      simp only [Option.getD_some] at h1 ⊢
      rw [h1]; simp
    have hpre : ∀ k, ltIn ms k i = true → listed.getD k false = true := by
      intro k hk
      obtain ⟨e, e1, e2, e3, e4⟩ := c.pf.pre i o h2 k hk
      have := h3 e e1 e2
      rcases e4 with rfl | e4
      · exact this
      · exact v.clos e.on this k e4
    rcases Nat.lt_or_ge i N with hiN | hiN
    · refine v'.step hcs hh hnx c hq' hiN hnl hpre fun a' w' E' q'' hv => ?_
      have hset : ∀ j, (listed.setIfInBounds i true).getD j false = true ↔ (j = i ∨ listed.getD j false = true) := by
        intro j
        by_cases e : j = i
        · subst e
          rw [Array.getD_eq_getD_getElem?, Array.getElem?_setIfInBounds, if_pos rfl, if_pos (by omega)]
          simp
        · rw [getD_set_ne _ (fun h => e h.symm)]
          simp [e]
      refine ih _ a' w' E' q'' (by simpa using hsz) ?_ (hv.congr fun j => (hset j).symm)
      have : left ops.size (listed.setIfInBounds i true) < left ops.size listed := by
        refine count_lt (fun j hj => ?_) (List.mem_range.2 hi) (by simpa using hnl) (by
          have := (hset i).2 (.inl rfl)
          rw [this]; rfl)
        cases hg : listed.getD j false with
        | false => rfl
        | true =>
          have := (hset j).2 (.inr hg)
          rw [this] at hj; cases hj
      omega
    · exact hpan _ _ _ _ _ v' hq' i hiN hi hnl hpre _
end

theorem draw_sound {P : Program} (hmix : P.follows .mixedOrders = true) {hyp : Hyp} {call : Nat → List AV → AH → Option (AEnd × AH)} (hcs : CSound P hyp call) : DrawSound P hyp call := by
  intro nt id ops ps hp E h w tm df a b k base hh hr
  obtain ⟨ms, pf⟩ := plan_facts hp
  obtain ⟨t, f, nx⟩ := h
  simp only [drawIn]
  have inv0 : ∀ (D : Nat → DS) (val : Nat → AV) (N : Nat), D 0 = ⟨tm, ⟨t, f, nx + ps.length⟩, [], df, [], []⟩ → Inv P hyp nt ops ms ps nx D val N tm E ⟨t, f, nx⟩ w (fun i => (Array.replicate ops.size false).getD i false = true) a w.drew E 0 := by
    intro D val N h0
    have hno : ∀ i, ¬ ((Array.replicate ops.size false).getD i false = true) := by
      intro i hi
      rw [Array.getD_eq_getD_getElem?] at hi
      rcases Nat.lt_or_ge i ops.size with h1 | h1
      · rw [Array.getElem?_eq_getElem (by simpa using h1)] at hi
        simp at hi
      · rw [Array.getElem?_eq_none (by simpa using h1)] at hi
        simp at hi
    have hb := hr.hr.bump ps.length
    have heq : Ext E ⟨t, f, nx⟩ w E ⟨t, f, nx + ps.length⟩ w.drew := (Ext.drew hr.hr).trans (Ext.bump hr.hr.drew ps.length)
    refine ⟨fun i hi => absurd hi (hno i), fun i hi => absurd hi (hno i), Nat.zero_le _, fun i p hi => by omega, fun i p _ _ _ => hno i, by rw [h0]; exact hb.drew, by rw [h0]; show nx + ops.size ≤ nx + ps.length; rw [pf.len]; exact Nat.le_refl _, by rw [h0]; exact hr.df, hr.size, fun i o d hi => absurd hi (hno i), fun s v _ hv => hr.tm s v hv, fun i ob hp => absurd hp.1 (hno i), fun i _ _ => hr.hr.fresh _ (Nat.le_add_right _ _), by rw [h0]; exact heq⟩
  have hleft : left ops.size (Array.replicate ops.size false) ≤ ops.size := by
    unfold left
    have := List.countP_le_length (l := List.range ops.size) (p := fun i => !((Array.replicate ops.size false).getD i false))
    rwa [List.length_range] at this
  have mkval : ∀ (D : Nat → DS) (N : Nat), (∀ i p, i < N → ps[i]? = some p → drawOne P hyp call nx p (D i) = .go (D (i + 1))) → ∃ val : Nat → AV, ∀ i p, i < N → ps[i]? = some p → Kd P hyp call nx p (D i) (D (i + 1)) (val i) := by
    intro D N hD
    have : ∀ i, ∃ v, ∀ p, i < N → ps[i]? = some p → Kd P hyp call nx p (D i) (D (i + 1)) v := by
      intro i
      by_cases hi : i < N
      · cases hpi : ps[i]? with
        | none => exact ⟨.undef, fun p _ h => by cases h⟩
        | some p =>
          obtain ⟨v, hv⟩ := drawOne_go (hD i p hi hpi)
          exact ⟨v, fun p' _ h => by cases h; exact hv⟩
      · exact ⟨.undef, fun p h => absurd h hi⟩
    exact ⟨fun i => Classical.choose (this i), fun i p => Classical.choose_spec (this i) p⟩
  cases hd : drawAll P hyp call nx ps ⟨tm, ⟨t, f, Nat.add nx ps.length⟩, [], df, [], []⟩ with
  | no => trivial
  | go d =>
    obtain ⟨D, g1, g2, g3⟩ := drawAll_go _ _ _ hd
    rw [pf.len] at g2
    obtain ⟨val, hval⟩ := mkval D ops.size (fun i p _ hpi => g3 i p hpi)
    have c : Ctx P hyp call nt ops ms ps nx D val ops.size tm ⟨t, f, nx + ps.length⟩ df := ⟨pf, Nat.le_refl _, g1, hval⟩
    have hwp : (Code.region id ops true).wp P (fun e a' w' => match e with | .normal => ∃ E', RRel P E' nt d.tm (d.h.puts d.pa) d.defers [] a' [] w' ∧ Ext E ⟨t, f, nx⟩ w E' (d.h.puts d.pa) w' | _ => False) a w := by
      refine wp_region_any hmix (draw_any (h0 := ⟨t, f, nx⟩) (w0 := w) hcs hh rfl c (fun L a w E' q v hq hall => ?_) (fun L a w E' q v hq i h1 h2 => absurd h2 (Nat.not_lt.2 h1)) ops.size _ a _ E 0 (by simp) hleft (inv0 D val _ g1))
      have := v.final c rfl hq hall
      rw [g2] at this
      exact ⟨E', this⟩
    obtain ⟨e, a', w', hQ, harr⟩ := hwp b k base
    cases e with
    | normal =>
      obtain ⟨E', q1, q2⟩ := hQ
      exact ⟨E', a', w', harr, q1, q2⟩
    | _ => exact hQ.elim
  | pan tm' cc h' df' =>
    obtain ⟨D, m, p, g1, g2, g3, g4⟩ := drawAll_pan _ _ _ _ _ _ hd
    obtain ⟨val, hval⟩ := mkval D m g3
    have hm : m < ops.size := by rw [← pf.len]; exact (List.getElem?_eq_some_iff.1 g2).1
    have c : Ctx P hyp call nt ops ms ps nx D val m tm ⟨t, f, nx + ps.length⟩ df := ⟨pf, Nat.le_of_lt hm, g1, hval⟩
    obtain ⟨p1, p2, p3, p4, rfl, rfl⟩ := drawOne_pan g4
    have hwp : (Code.region id ops true).wp P (fun e a' w' => match e with | .panic c' => ∃ E', PsRel E' cc c' ∧ RRel P E' nt (forgetIn p.fg (D m).tm) h' (D m).defers [] a' [] w' ∧ Ext E ⟨t, f, nx⟩ w E' h' w' | _ => False) a w := by
      refine wp_region_any hmix (draw_any (h0 := ⟨t, f, nx⟩) (w0 := w) hcs hh rfl c (fun L a w E' q v hq hall => absurd (v.lst m (hall m hm)) (Nat.lt_irrefl m)) (fun L a w E' q v hq i h1 h2 h3 h4 K => ?_) ops.size _ a _ E 0 (by simp) hleft (inv0 D val _ g1))
      have hnm : ¬ L m := fun h => Nat.lt_irrefl m (v.lst m h)
      rcases Nat.lt_or_ge m i with h5 | h5
      · exact absurd (h4 m ((pf.w m p g2 p2).2.2 p3 i h5 h2)) hnm
      · obtain rfl : i = m := by omega
        exact v.panics hcs hh c hq h3 h4 g2 p1 p2 p3 p4 fun c' w' E' k1 k2 k3 => ⟨E', k1, k2, k3⟩
    obtain ⟨e, a', w', hQ, harr⟩ := hwp b k base
    cases e with
    | panic c' =>
      obtain ⟨E', q1, q2, q3⟩ := hQ
      obtain ⟨todo, hs⟩ := harr
      exact ⟨E', a', w', c', todo, hs, q1, q2, q3⟩
    | _ => exact hQ.elim
end Go.Am
