/- Regions whose order is open: whichever order is drawn, it comes to what the run in the text's order says. -/
import Derived.Test.YtbakjgolhekmgaaGreatDoorAmTrace
namespace Go.Am

theorem last_or_none (Q : Nat → Prop) (i : Nat) : ∀ q, (∀ w, i ≤ w → w < q → ¬ Q w) ∨ ∃ w, i ≤ w ∧ w < q ∧ Q w ∧ ∀ w', w < w' → w' < q → ¬ Q w'
  | 0 => .inl fun w _ h => by omega
  | q + 1 => by
    by_cases h : i ≤ q ∧ Q q
    · exact .inr ⟨q, h.1, by omega, h.2, fun w' h1 h2 => by omega⟩
    · rcases last_or_none Q i q with h1 | ⟨w, h1, h2, h3, h4⟩
      · refine .inl fun w h2 h3 hq => ?_
        rcases Nat.lt_or_ge w q with h4 | h4
        · exact h1 w h2 h4 hq
        · obtain rfl : w = q := by omega
          exact h ⟨h2, hq⟩
      · refine .inr ⟨w, h1, by omega, h3, fun w' h5 h6 hq => ?_⟩
        rcases Nat.lt_or_ge w' q with h7 | h7
        · exact h4 w' h5 h7 hq
        · obtain rfl : w' = q := by omega
          exact h ⟨by omega, hq⟩
theorem first_or_none (Q : Nat → Prop) (i : Nat) : ∀ q, (∀ w, i ≤ w → w < q → ¬ Q w) ∨ ∃ w, i ≤ w ∧ w < q ∧ Q w ∧ ∀ w', i ≤ w' → w' < w → ¬ Q w'
  | 0 => .inl fun w _ h => by omega
  | q + 1 => by
    rcases first_or_none Q i q with h1 | ⟨w, h1, h2, h3, h4⟩
    · by_cases h : i ≤ q ∧ Q q
      · exact .inr ⟨q, h.1, by omega, h.2, fun w' h2 h3 => h1 w' h2 h3⟩
      · refine .inl fun w h2 h3 hq => ?_
        rcases Nat.lt_or_ge w q with h4 | h4
        · exact h1 w h2 h4 hq
        · obtain rfl : w = q := by omega
          exact h ⟨h2, hq⟩
    · exact .inr ⟨w, h1, by omega, h3, h4⟩
theorem mem_spec {j : Nat} : ∀ {l : List Nat}, j ∈ l → mem j l = true
  | [], h => by cases h
  | x :: l, h => by
    simp only [mem, Bool.or_eq_true]
    rcases List.mem_cons.1 h with rfl | h
    · exact .inl (Nat.beq_refl _)
    · exact .inr (mem_spec h)
section
variable {P : Program} {hyp : Hyp}
theorem again_spec {h : AH} {o : AO'} {tm : Tr AV} {v : AV} (hh : again P hyp h o tm v = true) : ∃ h2, xop P hyp tm h o = .v v h2 := by
  unfold again at hh
  split at hh
  · rename_i v' h2 e
    rw [same_eq _ _ hh] at e
    exact ⟨h2, e⟩
  · cases hh
theorem againAll_spec {h : AH} {un : List Nat} : ∀ {rs : List (Nat × AO' × Tr AV × AV)}, againAll P hyp h un rs = true → ∀ j o tm v, (j, o, tm, v) ∈ rs → j ∈ un → again P hyp h o tm v = true
  | [], _, _, _, _, _, hm, _ => by cases hm
  | (j', o', tm', v') :: l, hh, j, o, tm, v, hm, hj => by
    simp only [againAll, Bool.and_eq_true, Bool.or_eq_true] at hh
    rcases List.mem_cons.1 hm with e | hm
    · cases e
      rcases hh.1 with h1 | h1
      · rw [mem_spec hj] at h1; cases h1
      · exact h1
    · exact againAll_spec hh.2 j o tm v hm hj
theorem aheadAll_spec {o : AO'} {tm : Tr AV} {v : AV} {un : List Nat} : ∀ {ws : List (Nat × AH)}, aheadAll P hyp o tm v un ws = true → ∀ w h, (w, h) ∈ ws → w ∈ un → again P hyp h o tm v = true
  | [], _, _, _, hm, _ => by cases hm
  | (w', h') :: l, hh, w, h, hm, hj => by
    simp only [aheadAll, Bool.and_eq_true, Bool.or_eq_true] at hh
    rcases List.mem_cons.1 hm with e | hm
    · cases e
      rcases hh.1 with h1 | h1
      · rw [mem_spec hj] at h1; cases h1
      · exact h1
    · exact aheadAll_spec hh.2 w h hm hj
end

/-- rows that only wait to be named: what stays of them. -/
theorem carry {E E' : Env} {H H' : AH} {w w' : World} (e : Ext E H w E' H' w') {ob : AO} {x : Slot} (ho : ORel E ob x w) (hd : ∀ b o y, H.t.get b = some o → E.σ b = some y → y.blk ≠ x.blk) :
    ORel E' ob x w' ∧ ∀ b o y, H'.t.get b = some o → E'.σ b = some y → y.blk ≠ x.blk := by
  refine ⟨ho.mono e.le (e.keep _ ho.lt fun b o y h1 _ h3 => hd b o y h1 h3), fun b o y h1 h2 h3 => ?_⟩
  have hlt := ho.lt
  rcases e.org b o y h1 h2 with h4 | ⟨b0, o0, x0, g1, _, g3, g4⟩
  · omega
  · exact hd b0 o0 x0 g1 g3 (g4.trans h3)

/-- a name more, that was kept. -/
theorem Ext.name {E0 E : Env} {h0 h : AH} {w0 w w' : World} (e : Ext E0 h0 w0 E h w) (hr : HRel E h w) {M : Nat} (hs : E.σ M = none) (h1 : h0.nx ≤ M) (h2 : M < h.nx) (x : Slot)
    (hk : ∀ k, k < w.heap.size → w'.heap[k]? = w.heap[k]?) (hsz : w.heap.size ≤ w'.heap.size) (hos : w'.os = w.os) (ht : w'.tape = w.tape) (ho : w'.output = w.output) : Ext E0 h0 w0 (E.with M x) h w' where
  le := e.le.trans (Env.le_with x hs)
  os := hos.trans e.os
  tape := ht.trans e.tape
  output := ho.trans e.output
  size := Nat.le_trans e.size hsz
  nx := e.nx
  keep := fun k hk0 hn => (hk k (Nat.lt_of_lt_of_le hk0 e.size)).trans (e.keep k hk0 hn)
  org := fun b o y hb hy => by
    have hne : b ≠ M := by
      intro e'
      subst e'
      obtain ⟨z, hz, _⟩ := hr.obj b o hb
      rw [hs] at hz; cases hz
    rw [Env.with_other _ _ hne] at hy
    exact e.org b o y hb hy
  new := fun b hb y hy => by
    by_cases e' : b = M
    · omega
    · rw [Env.with_other _ _ e'] at hy; exact e.new b hb y hy
  low := fun b hb => by rw [Env.with_other _ _ (by omega)]; exact e.low b hb

def Pn (P : Program) (hyp : Hyp) (nx0 : Nat) (ps : List Pl) (D : Nat → DS) (L : Nat → Prop) (q i : Nat) (ob : AO) : Prop := L i ∧ EffA P hyp nx0 ps D i ob ∧ ∀ v, i < v → v < q → ¬ EffW ps D v
structure Inv (P : Program) (hyp : Hyp) (nt : Nat) (ops : Array Oper) (ms : List Nat) (ps : List Pl) (nx0 : Nat) (D : Nat → DS) (val : Nat → AV) (N : Nat) (tm0 : Tr AV) (E0 : Env) (h0 : AH) (w0 : World) (L : Nat → Prop) (a : Act) (w : World) (E : Env) (q : Nat) : Prop where
  lst : ∀ i, L i → i < N
  clos : ∀ j, L j → ∀ i, ltIn ms i j = true → L i
  qle : q ≤ N
  qdone : ∀ i p, i < q → ps[i]? = some p → p.k = .w → L i
  qrest : ∀ i p, q ≤ i → ps[i]? = some p → p.k = .w → ¬ L i
  hr : HRel E (D q).h w
  nx : nx0 + ops.size ≤ (D q).h.nx
  df : DsRel P E (D q).defers a.defers
  tsz : nt ≤ a.tmps.size
  s1 : ∀ i o d, L i → ops[i]? = some o → o.dst = some d → VR E (val i) (a.tmps.getD d undef)
  s2 : ∀ s v, (∀ i o, L i → ops[i]? = some o → o.dst ≠ some s) → tm0.get s = some v → VR E v (a.tmps.getD s undef)
  pend : ∀ i ob, Pn P hyp nx0 ps D L q i ob → ∃ x, E.σ (nx0 + i) = some x ∧ ORel E ob x w ∧ ob.alone ∧ w0.heap.size ≤ x.blk ∧ (∀ b o' y, (D q).h.t.get b = some o' → E.σ b = some y → y.blk ≠ x.blk) ∧
    ∀ i' ob' y, Pn P hyp nx0 ps D L q i' ob' → i' ≠ i → E.σ (nx0 + i') = some y → y.blk ≠ x.blk
  names : ∀ i, i < ops.size → ¬ L i → E.σ (nx0 + i) = none
  ext : Ext E0 h0 w0 E (D q).h w

section
variable {P : Program} {hyp : Hyp} {call : Nat → List AV → AH → Option (AEnd × AH)} {nt : Nat} {ops : Array Oper} {ms : List Nat} {ps : List Pl} {nx0 : Nat} {D : Nat → DS} {val : Nat → AV} {N : Nat} {tm0 : Tr AV} {hb0 : AH} {df0 : List (Nat × List AV)}
  {E0 : Env} {h0 : AH} {w0 : World} {L : Nat → Prop} {a : Act} {w : World} {E : Env} {q : Nat}

/-- to the next operation that writes. -/
theorem Inv.adv (c : Ctx P hyp call nt ops ms ps nx0 D val N tm0 hb0 df0) (v : Inv P hyp nt ops ms ps nx0 D val N tm0 E0 h0 w0 L a w E q) : ∃ q', Inv P hyp nt ops ms ps nx0 D val N tm0 E0 h0 w0 L a w E q' ∧ (q' < N → ∃ p, ps[q']? = some p ∧ p.k = .w) := by
  rcases first_or_none (fun j => ∃ p, ps[j]? = some p ∧ p.k = .w) q N with h1 | ⟨q', h1, h2, h3, h4⟩
  · have hc := c.hConst' v.qle (Nat.le_refl N) fun j h2 h3 ⟨p, e1, e2, _⟩ => h1 j h2 h3 ⟨p, e1, e2⟩
    refine ⟨N, ⟨v.lst, v.clos, Nat.le_refl _, fun i p hi hp hk => ?_, fun i p hi hp hk hl => ?_, by rw [hc.1]; exact v.hr, by rw [hc.1]; exact v.nx, by rw [hc.2]; exact v.df, v.tsz, v.s1, v.s2, fun i ob hp => ?_, v.names, by rw [hc.1]; exact v.ext⟩, fun h => by omega⟩
    · rcases Nat.lt_or_ge i q with h5 | h5
      · exact v.qdone i p h5 hp hk
      · exact absurd ⟨p, hp, hk⟩ (h1 i h5 hi)
    · have := v.lst i hl; omega
    · have hp' : ∀ {i ob}, Pn P hyp nx0 ps D L N i ob → Pn P hyp nx0 ps D L q i ob := fun hp => ⟨hp.1, hp.2.1, fun j h5 h6 => hp.2.2 j h5 (Nat.lt_of_lt_of_le h6 v.qle)⟩
      obtain ⟨x, x1, x2, x3, x4, x5, x6⟩ := v.pend i ob (hp' hp)
      exact ⟨x, x1, x2, x3, x4, by rw [hc.1]; exact x5, fun i' ob' y h5 => x6 i' ob' y (hp' h5)⟩
  · have hc := c.hConst' h1 (Nat.le_of_lt h2) fun j h5 h6 ⟨p, e1, e2, _⟩ => h4 j h5 h6 ⟨p, e1, e2⟩
    refine ⟨q', ⟨v.lst, v.clos, Nat.le_of_lt h2, fun i p hi hp hk => ?_, fun i p hi hp hk => v.qrest i p (Nat.le_trans h1 hi) hp hk, by rw [hc.1]; exact v.hr, by rw [hc.1]; exact v.nx, by rw [hc.2]; exact v.df, v.tsz, v.s1, v.s2, fun i ob hp => ?_, v.names, by rw [hc.1]; exact v.ext⟩, fun _ => h3⟩
    · rcases Nat.lt_or_ge i q with h5 | h5
      · exact v.qdone i p h5 hp hk
      · exact absurd ⟨p, hp, hk⟩ (h4 i h5 hi)
    · have hp' : ∀ {i ob}, Pn P hyp nx0 ps D L q' i ob → Pn P hyp nx0 ps D L q i ob := fun hp => ⟨hp.1, hp.2.1, fun j h5 h6 => hp.2.2 j h5 (Nat.lt_of_lt_of_le h6 h1)⟩
      obtain ⟨x, x1, x2, x3, x4, x5, x6⟩ := v.pend i ob (hp' hp)
      exact ⟨x, x1, x2, x3, x4, by rw [hc.1]; exact x5, fun i' ob' y h5 => x6 i' ob' y (hp' h5)⟩

/-- what an operation reads is as it is known. -/
theorem Inv.reads (c : Ctx P hyp call nt ops ms ps nx0 D val N tm0 hb0 df0) (v : Inv P hyp nt ops ms ps nx0 D val N tm0 E0 h0 w0 L a w E q) {i : Nat} {o : Oper} (ho : ops[i]? = some o) (hi : i ≤ N) (hn : ¬ L i) (hpre : ∀ k, ltIn ms k i = true → L k) :
    TRel E (restr (D i).tm (namesIn ops.toList o)) a.tmps := by
  have hisz : i < ops.size := (Array.getElem?_eq_some_iff.1 ho).1
  intro t u hu
  rw [get_restr] at hu
  split at hu
  · rename_i hmem
    rcases c.tmGet i hi t u hu with ⟨j, oj, h1, h2, h3, rfl⟩ | ⟨h1, h2⟩
    · have hj : j < ops.size := Nat.lt_trans h1 hisz
      rcases (c.pf.slots j i oj o t h2 ho h3 (by omega)).2 hmem with h4 | h4
      · exact v.s1 j oj t (hpre j h4) h2 h3
      · have := c.pf.lt j i hj h4; omega
    · refine v.s2 t u (fun k ok hk hok hdk => ?_) h2
      have hki : k ≠ i := fun e => hn (e ▸ hk)
      rcases (c.pf.slots k i ok o t hok ho hdk (fun e => hki e.symm)).2 hmem with h4 | h4
      · exact h1 k ok (c.pf.lt i k hisz h4) hok hdk
      · exact hn (v.clos k hk i h4)
  · cases hu
theorem put_getD (a : Act) (dst : Option Nat) (y : Value) (s : Nat) (hs : dst ≠ some s) : (a.put dst y).tmps.getD s undef = a.tmps.getD s undef := by
  cases dst with
  | none => rfl
  | some d =>
    simp only [Act.put]
    rw [Array.getD_eq_getD_getElem?, Array.getElem?_setIfInBounds, if_neg (fun h => hs (by rw [h])), ← Array.getD_eq_getD_getElem?]
theorem put_getD_same (a : Act) (d : Nat) (y : Value) (hs : d < a.tmps.size) : (a.put (some d) y).tmps.getD d undef = y := by
  simp only [Act.put]
  rw [Array.getD_eq_getD_getElem?, Array.getElem?_setIfInBounds, if_pos rfl, if_pos hs]; rfl
theorem put_size (a : Act) (dst : Option Nat) (y : Value) : (a.put dst y).tmps.size = a.tmps.size := by cases dst <;> simp [Act.put]

/-- one operation more is done. -/
theorem Inv.next (c : Ctx P hyp call nt ops ms ps nx0 D val N tm0 hb0 df0) (v : Inv P hyp nt ops ms ps nx0 D val N tm0 E0 h0 w0 L a w E q) {i : Nat} {o : Oper} {p : Pl} (ho : ops[i]? = some o) (hp : ps[i]? = some p) (hi : i < N) (hn : ¬ L i) (hpre : ∀ k, ltIn ms k i = true → L k)
    {E' : Env} {w' : World} {a' : Act} {y : Value} {q' : Nat} (hle : E.le E') (hy : VR E' (val i) y) (ha : a'.tmps = (a.put o.dst y).tmps) (hq' : q' ≤ N)
    (qdone : ∀ j r, j < q' → ps[j]? = some r → r.k = .w → j = i ∨ L j) (qrest : ∀ j r, q' ≤ j → ps[j]? = some r → r.k = .w → ¬ (j = i ∨ L j))
    (hr : HRel E' (D q').h w') (nx : nx0 + ops.size ≤ (D q').h.nx) (df : DsRel P E' (D q').defers a'.defers)
    (pend : ∀ j ob, Pn P hyp nx0 ps D (fun j => j = i ∨ L j) q' j ob → ∃ x, E'.σ (nx0 + j) = some x ∧ ORel E' ob x w' ∧ ob.alone ∧ w0.heap.size ≤ x.blk ∧ (∀ b o' y, (D q').h.t.get b = some o' → E'.σ b = some y → y.blk ≠ x.blk) ∧
      ∀ j' ob' y, Pn P hyp nx0 ps D (fun j => j = i ∨ L j) q' j' ob' → j' ≠ j → E'.σ (nx0 + j') = some y → y.blk ≠ x.blk)
    (names : ∀ j, j < ops.size → ¬ (j = i ∨ L j) → E'.σ (nx0 + j) = none) (ext : Ext E0 h0 w0 E' (D q').h w') :
    Inv P hyp nt ops ms ps nx0 D val N tm0 E0 h0 w0 (fun j => j = i ∨ L j) a' w' E' q' := by
  obtain ⟨_, o', ho', hs, _⟩ := c.pf.at_ i p hp
  rw [ho] at ho'
  cases ho'
  refine ⟨fun j hj => ?_, fun j hj k hk => ?_, hq', qdone, qrest, hr, nx, df, by rw [ha, put_size]; exact v.tsz, fun j oj d hj hoj hd => ?_, fun s u hw hu => ?_, pend, names, ext⟩
  · rcases hj with rfl | hj
    · exact hi
    · exact v.lst j hj
  · rcases hj with rfl | hj
    · exact .inr (hpre k hk)
    · exact .inr (v.clos j hj k hk)
  · rw [ha]
    by_cases e : j = i
    · subst e
      rw [ho] at hoj
      cases hoj
      rw [hd, put_getD_same _ _ _ (Nat.lt_of_lt_of_le (hs.lt d hd) v.tsz)]
      exact hy
    · have hne := (c.pf.slots j i oj o d hoj ho hd (fun h => e h.symm)).1
      rw [put_getD _ _ _ _ hne]
      exact VR.mono hle _ _ (v.s1 j oj d (hj.resolve_left e) hoj hd)
  · rw [ha, put_getD _ _ _ _ (hw i o (.inl rfl) ho)]
    exact VR.mono hle _ _ (v.s2 s u (fun k ok hk => hw k ok (.inr hk)) hu)
end
end Go.Am
