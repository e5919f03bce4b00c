/- Regions whose order is open: the run in the text's order, step by step. -/
import Derived.Test.YtbakjgolhekmgaaGreatDoorAmDrawB
namespace Go.Am

section
variable {P : Program} {hyp : Hyp} {call : Nat → List AV → AH → Option (AEnd × AH)} {nx0 : Nat}
def WRes (P : Program) (hyp : Hyp) (call : Nat → List AV → AH → Option (AEnd × AH)) (tm : Tr AV) (h : AH) (op : AO') (df0 : List (Nat × List AV)) (v : AV) (h' : AH) (df : List (Nat × List AV)) : Prop :=
  (xop P hyp tm h op = .v v h' ∧ df = df0) ∨ (∃ g args, xop P hyp tm h op = .dfr g args h' ∧ v = .undef ∧ df = (g, args) :: df0) ∨ ∃ f args h1, xop P hyp tm h op = .call f args h1 ∧ call f args h1 = some (.ret v, h') ∧ df = df0
def PRes (P : Program) (hyp : Hyp) (call : Nat → List AV → AH → Option (AEnd × AH)) (tm : Tr AV) (h : AH) (op : AO') (c : List (AV × Bool)) (h' : AH) : Prop :=
  (∃ v, xop P hyp tm h op = .pan v h' ∧ c = [(v, false)]) ∨ ∃ f args h1, xop P hyp tm h op = .call f args h1 ∧ call f args h1 = some (.pan c, h')
inductive Kd (P : Program) (hyp : Hyp) (call : Nat → List AV → AH → Option (AEnd × AH)) (nx0 : Nat) (p : Pl) (d : DS) : DS → AV → Prop where
  | skip : wantedIn d.tm p.co.guard = some false → Kd P hyp call nx0 p d ⟨putP d.tm p.co.dst .undef, d.h, d.pa, d.defers, (p.i, .mv (.v .undef), d.tm, .undef) :: d.rs, d.ws⟩ .undef
  | r (v : AV) (h' : AH) : wantedIn d.tm p.co.guard = some true → p.k = .r → xop P hyp d.tm d.h p.co.op = .v v h' → aheadAll P hyp p.co.op d.tm v p.un d.ws = true →
      Kd P hyp call nx0 p d ⟨putP d.tm p.co.dst v, d.h, d.pa, d.defers, (p.i, p.co.op, d.tm, v) :: d.rs, d.ws⟩ v
  | a (v : AV) (h' : AH) (o : AO) : wantedIn d.tm p.co.guard = some true → p.k = .a → xop P hyp d.tm ⟨.leaf, .leaf, nx0 + p.i⟩ p.co.op = .v v h' → h'.t.get (nx0 + p.i) = some o →
      Kd P hyp call nx0 p d ⟨putP d.tm p.co.dst v, d.h, (nx0 + p.i, o) :: d.pa, d.defers, d.rs, d.ws⟩ v
  | w (v : AV) (h' : AH) (df : List (Nat × List AV)) : wantedIn d.tm p.co.guard = some true → p.k = .w → WRes P hyp call d.tm (d.h.puts d.pa) p.co.op d.defers v h' df → againAll P hyp h' p.un d.rs = true →
      Kd P hyp call nx0 p d ⟨putP d.tm p.co.dst v, h', [], df, d.rs, (p.i, d.h) :: d.ws⟩ v

theorem drawW_go {p : Pl} {d d' : DS} {v : AV} {h' : AH} {df : List (Nat × List AV)} (h : drawW P hyp p d v h' df = .go d') : againAll P hyp h' p.un d.rs = true ∧ d' = ⟨putP d.tm p.co.dst v, h', [], df, d.rs, (p.i, d.h) :: d.ws⟩ := by
  obtain ⟨tm, hh, pa, dfs, rs, ws⟩ := d
  simp only [drawW] at h
  cases hb : againAll P hyp h' p.un rs with
  | false => rw [hb] at h; cases h
  | true => rw [hb] at h; cases h; exact ⟨rfl, rfl⟩
theorem drawW_pan {p : Pl} {d : DS} {v : AV} {h' : AH} {df : List (Nat × List AV)} {tm' : Tr AV} {c : List (AV × Bool)} {hh : AH} {dd : List (Nat × List AV)} : drawW P hyp p d v h' df ≠ .pan tm' c hh dd := by
  obtain ⟨tm, hh, pa, dfs, rs, ws⟩ := d
  simp only [drawW]
  cases againAll P hyp h' p.un rs <;> intro e <;> cases e
theorem drawOne_go {p : Pl} {d d' : DS} (h : drawOne P hyp call nx0 p d = .go d') : ∃ v, Kd P hyp call nx0 p d d' v := by
  unfold drawOne at h
  cases hw : wantedIn d.tm p.co.guard with
  | none => rw [hw] at h; cases h
  | some b =>
    rw [hw] at h
    cases b with
    | false =>
      have hs := Kd.skip (P := P) (hyp := hyp) (call := call) (nx0 := nx0) (p := p) hw
      obtain ⟨tm, hh, pa, dfs, rs, ws⟩ := d
      cases h
      exact ⟨_, hs⟩
    | true =>
      simp only at h
      cases hk : p.k with
      | w =>
        rw [hk] at h
        simp only at h
        cases hx : xop P hyp d.tm (d.h.puts d.pa) p.co.op with
        | no => rw [hx] at h; cases h
        | rcv => rw [hx] at h; cases h
        | v v h' =>
          rw [hx] at h
          obtain ⟨g1, rfl⟩ := drawW_go h
          exact ⟨_, .w _ _ _ hw hk (.inl ⟨hx, rfl⟩) g1⟩
        | dfr g args h' =>
          rw [hx] at h
          obtain ⟨g1, rfl⟩ := drawW_go h
          exact ⟨_, .w _ _ _ hw hk (.inr (.inl ⟨g, args, hx, rfl, rfl⟩)) g1⟩
        | call f args h' =>
          rw [hx] at h
          simp only at h
          cases hc : call f args h' with
          | none => rw [hc] at h; cases h
          | some r =>
            obtain ⟨r, h''⟩ := r
            rw [hc] at h
            cases r with
            | ret v =>
              obtain ⟨g1, rfl⟩ := drawW_go h
              exact ⟨_, .w _ _ _ hw hk (.inr (.inr ⟨f, args, h', hx, hc, rfl⟩)) g1⟩
            | pan c =>
              simp only [drawD] at h
              cases hl : p.last <;> rw [hl] at h <;> cases h
        | pan v h' =>
          rw [hx] at h
          simp only [drawD] at h
          cases hl : p.last <;> rw [hl] at h <;> cases h
      | a =>
        rw [hk] at h
        simp only at h
        cases hx : xop P hyp d.tm ⟨.leaf, .leaf, Nat.add nx0 p.i⟩ p.co.op with
        | v v h' =>
          rw [hx] at h
          simp only at h
          cases ho : h'.t.get (Nat.add nx0 p.i) with
          | none => rw [ho] at h; cases h
          | some o =>
            rw [ho] at h
            have hs := Kd.a (P := P) (hyp := hyp) (call := call) (nx0 := nx0) (p := p) v h' o hw hk hx ho
            obtain ⟨tm, hh, pa, dfs, rs, ws⟩ := d
            cases h
            exact ⟨_, hs⟩
        | _ => rw [hx] at h; cases h
      | r =>
        rw [hk] at h
        simp only at h
        cases hx : xop P hyp d.tm d.h p.co.op with
        | v v h' =>
          rw [hx] at h
          cases hb : aheadAll P hyp p.co.op d.tm v p.un d.ws with
          | false =>
            obtain ⟨tm, hh, pa, dfs, rs, ws⟩ := d
            simp only at hb h
            rw [hb] at h; cases h
          | true =>
            have hs := Kd.r (P := P) (hyp := hyp) (call := call) (nx0 := nx0) (p := p) v h' hw hk hx hb
            obtain ⟨tm, hh, pa, dfs, rs, ws⟩ := d
            simp only at hb h
            rw [hb] at h
            cases h
            exact ⟨_, hs⟩
        | _ => rw [hx] at h; cases h
theorem drawOne_pan {p : Pl} {d : DS} {tm' : Tr AV} {c : List (AV × Bool)} {h' : AH} {df' : List (Nat × List AV)} (h : drawOne P hyp call nx0 p d = .pan tm' c h' df') :
    wantedIn d.tm p.co.guard = some true ∧ p.k = .w ∧ p.last = true ∧ PRes P hyp call d.tm (d.h.puts d.pa) p.co.op c h' ∧ tm' = forgetIn p.fg d.tm ∧ df' = d.defers := by
  unfold drawOne at h
  cases hw : wantedIn d.tm p.co.guard with
  | none => rw [hw] at h; cases h
  | some b =>
    rw [hw] at h
    cases b with
    | false =>
      obtain ⟨tm, hh, pa, dfs, rs, ws⟩ := d
      cases h
    | true =>
      simp only at h
      have hD : ∀ {cc : List (AV × Bool)} {hh : AH}, drawD p d cc hh = .pan tm' c h' df' → p.last = true ∧ cc = c ∧ hh = h' ∧ tm' = forgetIn p.fg d.tm ∧ df' = d.defers := by
        intro cc hh e
        simp only [drawD] at e
        cases hl : p.last with
        | false => rw [hl] at e; cases e
        | true => rw [hl] at e; cases e; exact ⟨rfl, rfl, rfl, rfl, rfl⟩
      cases hk : p.k with
      | w =>
        rw [hk] at h
        simp only at h
        cases hx : xop P hyp d.tm (d.h.puts d.pa) p.co.op with
        | no => rw [hx] at h; cases h
        | rcv => rw [hx] at h; cases h
        | v v h' => rw [hx] at h; exact absurd h drawW_pan
        | dfr g args h' => rw [hx] at h; exact absurd h drawW_pan
        | call f args h1 =>
          rw [hx] at h
          simp only at h
          cases hc : call f args h1 with
          | none => rw [hc] at h; cases h
          | some r =>
            obtain ⟨r, h''⟩ := r
            rw [hc] at h
            cases r with
            | ret v => exact absurd h drawW_pan
            | pan cc =>
              obtain ⟨e1, rfl, rfl, e4, e5⟩ := hD h
              exact ⟨rfl, rfl, e1, .inr ⟨f, args, h1, hx, hc⟩, e4, e5⟩
        | pan v h1 =>
          rw [hx] at h
          obtain ⟨e1, rfl, rfl, e4, e5⟩ := hD h
          exact ⟨rfl, rfl, e1, .inl ⟨v, hx, rfl⟩, e4, e5⟩
      | a =>
        rw [hk] at h
        simp only at h
        split at h
        · split at h
          · obtain ⟨tm, hh, pa, dfs, rs, ws⟩ := d
            cases h
          · cases h
        · cases h
      | r =>
        rw [hk] at h
        simp only at h
        split at h
        · obtain ⟨tm, hh, pa, dfs, rs, ws⟩ := d
          simp only at h
          rename_i v _ _
          cases hb : aheadAll P hyp p.co.op tm v p.un ws <;> rw [hb] at h <;> cases h
        · cases h

theorem drawAll_go : ∀ (l : List Pl) (d d' : DS), drawAll P hyp call nx0 l d = .go d' → ∃ D : Nat → DS, D 0 = d ∧ D l.length = d' ∧ ∀ i p, l[i]? = some p → drawOne P hyp call nx0 p (D i) = .go (D (i + 1))
  | [], d, d', h => by
    cases h
    exact ⟨fun _ => d, rfl, rfl, fun i p hp => by simp at hp⟩
  | p :: l, d, d', h => by
    simp only [drawAll] at h
    cases h1 : drawOne P hyp call nx0 p d with
    | no => rw [h1] at h; cases h
    | pan => rw [h1] at h; cases h
    | go d1 =>
      rw [h1] at h
      obtain ⟨D, g1, g2, g3⟩ := drawAll_go l d1 d' h
      refine ⟨fun i => match i with | 0 => d | i + 1 => D i, rfl, g2, fun i q hq => ?_⟩
      cases i with
      | zero =>
        simp only [List.getElem?_cons_zero, Option.some.injEq] at hq
        subst hq
        show drawOne P hyp call nx0 p d = .go (D 0)
        rw [g1]; exact h1
      | succ i => exact g3 i q (by simpa using hq)
theorem drawAll_pan : ∀ (l : List Pl) (d : DS) (tm' : Tr AV) (c : List (AV × Bool)) (h' : AH) (df' : List (Nat × List AV)), drawAll P hyp call nx0 l d = .pan tm' c h' df' →
    ∃ (D : Nat → DS) (m : Nat) (p : Pl), D 0 = d ∧ l[m]? = some p ∧ (∀ i q, i < m → l[i]? = some q → drawOne P hyp call nx0 q (D i) = .go (D (i + 1))) ∧ drawOne P hyp call nx0 p (D m) = .pan tm' c h' df'
  | [], d, _, _, _, _, h => by cases h
  | p :: l, d, tm', c, h', df', h => by
    simp only [drawAll] at h
    cases h1 : drawOne P hyp call nx0 p d with
    | no => rw [h1] at h; cases h
    | pan =>
      rw [h1] at h
      cases h
      exact ⟨fun _ => d, 0, p, rfl, rfl, fun i q hi => by omega, h1⟩
    | go d1 =>
      rw [h1] at h
      obtain ⟨D, m, q, g1, g2, g3, g4⟩ := drawAll_pan l d1 tm' c h' df' h
      refine ⟨fun i => match i with | 0 => d | i + 1 => D i, m + 1, q, rfl, by simpa using g2, fun i q' hi hq => ?_, g4⟩
      cases i with
      | zero =>
        simp only [List.getElem?_cons_zero, Option.some.injEq] at hq
        subst hq
        show drawOne P hyp call nx0 p d = .go (D 0)
        rw [g1]; exact h1
      | succ i => exact g3 i q' (by omega) (by simpa using hq)
end

/- the run -/
structure Ctx (P : Program) (hyp : Hyp) (call : Nat → List AV → AH → Option (AEnd × AH)) (nt : Nat) (ops : Array Oper) (ms : List Nat) (ps : List Pl) (nx0 : Nat) (D : Nat → DS) (val : Nat → AV) (N : Nat) (tm0 : Tr AV) (h0 : AH) (df0 : List (Nat × List AV)) : Prop where
  pf : PFacts P nt ops ms ps
  hN : N ≤ ops.size
  d0 : D 0 = ⟨tm0, h0, [], df0, [], []⟩
  st : ∀ i p, i < N → ps[i]? = some p → Kd P hyp call nx0 p (D i) (D (i + 1)) (val i)
def EffW (ps : List Pl) (D : Nat → DS) (i : Nat) : Prop := ∃ p, ps[i]? = some p ∧ p.k = .w ∧ wantedIn (D i).tm p.co.guard = some true
def EffA (P : Program) (hyp : Hyp) (nx0 : Nat) (ps : List Pl) (D : Nat → DS) (i : Nat) (o : AO) : Prop :=
  ∃ p v h', ps[i]? = some p ∧ p.k = .a ∧ wantedIn (D i).tm p.co.guard = some true ∧ xop P hyp (D i).tm ⟨.leaf, .leaf, nx0 + i⟩ p.co.op = .v v h' ∧ h'.t.get (nx0 + i) = some o

section
variable {P : Program} {hyp : Hyp} {call : Nat → List AV → AH → Option (AEnd × AH)} {nt : Nat} {ops : Array Oper} {ms : List Nat} {ps : List Pl} {nx0 : Nat} {D : Nat → DS} {val : Nat → AV} {N : Nat} {tm0 : Tr AV} {h0 : AH} {df0 : List (Nat × List AV)}
theorem Kd.tm_eq {p : Pl} {d d' : DS} {v : AV} (k : Kd P hyp call nx0 p d d' v) : d'.tm = putP d.tm p.co.dst v := by cases k <;> rfl
theorem Ctx.pl (c : Ctx P hyp call nt ops ms ps nx0 D val N tm0 h0 df0) {i : Nat} (hi : i < ops.size) : ∃ p, ps[i]? = some p := ⟨ps[i]'(by rw [c.pf.len]; exact hi), List.getElem?_eq_getElem _⟩
theorem Ctx.tmGet (c : Ctx P hyp call nt ops ms ps nx0 D val N tm0 h0 df0) : ∀ i, i ≤ N → ∀ s v, (D i).tm.get s = some v →
    (∃ j o, j < i ∧ ops[j]? = some o ∧ o.dst = some s ∧ v = val j) ∨ ((∀ j o, j < i → ops[j]? = some o → o.dst ≠ some s) ∧ tm0.get s = some v)
  | 0, _, s, v, h => .inr ⟨fun j o hj => by omega, by rw [c.d0] at h; exact h⟩
  | i + 1, hi, s, v, h => by
    obtain ⟨p, hp⟩ := c.pl (i := i) (by have := c.hN; omega)
    have hk := (c.st i p (by omega) hp).tm_eq
    obtain ⟨hpi, o, ho, hs, _⟩ := c.pf.at_ i p hp
    rw [hk, hs.dst] at h
    have old : ∀ (hne : o.dst ≠ some s), (D i).tm.get s = some v → (∃ j o, j < i + 1 ∧ ops[j]? = some o ∧ o.dst = some s ∧ v = val j) ∨ ((∀ j o, j < i + 1 → ops[j]? = some o → o.dst ≠ some s) ∧ tm0.get s = some v) := by
      intro hne hg
      rcases Ctx.tmGet c i (by omega) s v hg with ⟨j, o', h1, h2, h3, h4⟩ | ⟨h1, h2⟩
      · exact .inl ⟨j, o', by omega, h2, h3, h4⟩
      · refine .inr ⟨fun j o' hj ho' => ?_, h2⟩
        rcases Nat.lt_or_ge j i with h5 | h5
        · exact h1 j o' h5 ho'
        · obtain rfl : j = i := by omega
          rw [ho] at ho'
          cases ho'
          exact hne
    cases hd : o.dst with
    | none =>
      rw [hd] at h
      exact old (by rw [hd]; intro e; cases e) h
    | some d =>
      rw [hd] at h
      simp only [Option.map_some, putP, Tr.get_setP] at h
      by_cases e : s = d
      · rw [if_pos e] at h
        cases h
        exact .inl ⟨i, o, by omega, ho, by rw [hd, e], rfl⟩
      · rw [if_neg e] at h
        exact old (by rw [hd]; intro e'; cases e'; exact e rfl) h
theorem Kd.h_eq {p : Pl} {d d' : DS} {v : AV} (k : Kd P hyp call nx0 p d d' v) (hn : ¬ (p.k = .w ∧ wantedIn d.tm p.co.guard = some true)) : d'.h = d.h ∧ d'.defers = d.defers := by
  cases k with
  | skip => exact ⟨rfl, rfl⟩
  | r => exact ⟨rfl, rfl⟩
  | a => exact ⟨rfl, rfl⟩
  | w v h' df h1 h2 => exact absurd ⟨h2, h1⟩ hn
theorem Ctx.hConst (c : Ctx P hyp call nt ops ms ps nx0 D val N tm0 h0 df0) : ∀ n i, i + n ≤ N → (∀ w, i ≤ w → w < i + n → ¬ EffW ps D w) → (D (i + n)).h = (D i).h ∧ (D (i + n)).defers = (D i).defers
  | 0, i, _, _ => ⟨rfl, rfl⟩
  | n + 1, i, hi, hn => by
    obtain ⟨g1, g2⟩ := Ctx.hConst c n i (by omega) fun w h1 h2 => hn w h1 (by omega)
    obtain ⟨p, hp⟩ := c.pl (i := i + n) (by have := c.hN; omega)
    obtain ⟨q1, q2⟩ := (c.st (i + n) p (by omega) hp).h_eq fun h => hn (i + n) (by omega) (by omega) ⟨p, hp, h.1, h.2⟩
    exact ⟨q1.trans g1, q2.trans g2⟩
theorem Ctx.hConst' (c : Ctx P hyp call nt ops ms ps nx0 D val N tm0 h0 df0) {i j : Nat} (hij : i ≤ j) (hj : j ≤ N) (hn : ∀ w, i ≤ w → w < j → ¬ EffW ps D w) : (D j).h = (D i).h ∧ (D j).defers = (D i).defers := by
  have := c.hConst (j - i) i (by omega) (fun w h1 h2 => hn w h1 (by omega))
  rwa [show i + (j - i) = j by omega] at this
theorem Ctx.rsMem (c : Ctx P hyp call nt ops ms ps nx0 D val N tm0 h0 df0) {i : Nat} {p : Pl} (hp : ps[i]? = some p) (hk : p.k = .r) (hw : wantedIn (D i).tm p.co.guard = some true) : ∀ j, i < j → j ≤ N → (i, p.co.op, (D i).tm, val i) ∈ (D j).rs
  | 0, h, _ => by omega
  | j + 1, h, hj => by
    obtain ⟨q, hq⟩ := c.pl (i := j) (by have := c.hN; omega)
    have hs := c.st j q (by omega) hq
    rcases Nat.lt_or_ge i j with h1 | h1
    · have ih := Ctx.rsMem c hp hk hw j h1 (by omega)
      generalize D (j + 1) = d' at hs ⊢
      generalize val j = vj at hs
      cases hs with
      | skip => exact List.mem_cons_of_mem _ ih
      | r => exact List.mem_cons_of_mem _ ih
      | a => exact ih
      | w => exact ih
    · obtain rfl : i = j := by omega
      rw [hp] at hq
      cases hq
      have hpi := (c.pf.at_ i p hp).1
      generalize D (i + 1) = d' at hs ⊢
      generalize val i = vi at hs ⊢
      cases hs with
      | skip h2 => rw [hw] at h2; cases h2
      | r v h' h2 h3 => rw [hpi]; exact List.mem_cons_self ..
      | a v h' o h2 h3 => rw [hk] at h3; cases h3
      | w v h' df h2 h3 => rw [hk] at h3; cases h3
theorem Ctx.wsMem (c : Ctx P hyp call nt ops ms ps nx0 D val N tm0 h0 df0) {i : Nat} {p : Pl} (hp : ps[i]? = some p) (hk : p.k = .w) (hw : wantedIn (D i).tm p.co.guard = some true) : ∀ j, i < j → j ≤ N → (i, (D i).h) ∈ (D j).ws
  | 0, h, _ => by omega
  | j + 1, h, hj => by
    obtain ⟨q, hq⟩ := c.pl (i := j) (by have := c.hN; omega)
    have hs := c.st j q (by omega) hq
    rcases Nat.lt_or_ge i j with h1 | h1
    · have ih := Ctx.wsMem c hp hk hw j h1 (by omega)
      generalize D (j + 1) = d' at hs ⊢
      generalize val j = vj at hs
      cases hs with
      | skip => exact ih
      | r => exact ih
      | a => exact ih
      | w => exact List.mem_cons_of_mem _ ih
    · obtain rfl : i = j := by omega
      rw [hp] at hq
      cases hq
      have hpi := (c.pf.at_ i p hp).1
      generalize D (i + 1) = d' at hs ⊢
      generalize val i = vi at hs ⊢
      cases hs with
      | skip h2 => rw [hw] at h2; cases h2
      | r v h' h2 h3 => rw [hk] at h3; cases h3
      | a v h' o h2 h3 => rw [hk] at h3; cases h3
      | w v h' df h2 h3 => rw [hpi]; exact List.mem_cons_self ..
theorem Ctx.paMem (c : Ctx P hyp call nt ops ms ps nx0 D val N tm0 h0 df0) : ∀ j, j ≤ N → (∀ b o, (b, o) ∈ (D j).pa → ∃ i, i < j ∧ b = nx0 + i ∧ EffA P hyp nx0 ps D i o ∧ ∀ w, i < w → w < j → ¬ EffW ps D w) ∧ (D j).pa.Pairwise (fun x y => y.1 < x.1)
  | 0, _ => by rw [c.d0]; exact ⟨fun b o h => (by cases h), List.Pairwise.nil⟩
  | j + 1, hj => by
    obtain ⟨q, hq⟩ := c.pl (i := j) (by have := c.hN; omega)
    have hs := c.st j q (by omega) hq
    have hpi := (c.pf.at_ j q hq).1
    obtain ⟨ih1, ih2⟩ := Ctx.paMem c j (by omega)
    have keep : ¬ EffW ps D j → ∀ b o, (b, o) ∈ (D j).pa → ∃ i, i < j + 1 ∧ b = nx0 + i ∧ EffA P hyp nx0 ps D i o ∧ ∀ w, i < w → w < j + 1 → ¬ EffW ps D w := by
      intro hn b o hb
      obtain ⟨i, h1, h2, h3, h4⟩ := ih1 b o hb
      refine ⟨i, by omega, h2, h3, fun w h5 h6 => ?_⟩
      rcases Nat.lt_or_ge w j with h7 | h7
      · exact h4 w h5 h7
      · obtain rfl : w = j := by omega
        exact hn
    have noW : ∀ {x : Prop}, (q.k = .w → wantedIn (D j).tm q.co.guard = some true → x) → ¬ x → ¬ EffW ps D j := by
      rintro x h1 h2 ⟨q', e1, e2, e3⟩
      rw [hq] at e1
      cases e1
      exact h2 (h1 e2 e3)
    generalize D (j + 1) = d' at hs ⊢
    generalize val j = vj at hs
    cases hs with
    | skip h2 => exact ⟨keep (noW (x := False) (fun _ h => by rw [h2] at h; cases h) id), ih2⟩
    | r v h' h2 h3 => exact ⟨keep (noW (x := False) (fun h _ => by rw [h3] at h; cases h) id), ih2⟩
    | a v h' o h2 h3 h4 h5 =>
      have hn := noW (x := False) (fun h _ => by rw [h3] at h; cases h) id
      rw [hpi] at h4 h5
      refine ⟨fun b o' hb => ?_, ?_⟩
      · rcases List.mem_cons.1 hb with e | hb
        · cases e
          exact ⟨j, by omega, by rw [hpi], ⟨q, _, h', hq, h3, h2, h4, h5⟩, fun w h6 h7 => by omega⟩
        · exact keep hn b o' hb
      · refine List.pairwise_cons.2 ⟨fun y hy => ?_, ih2⟩
        obtain ⟨i, h6, h7, _⟩ := ih1 y.1 y.2 hy
        rw [hpi]
        show y.1 < nx0 + j
        omega
    | w v h' df h2 h3 => exact ⟨fun b o hb => (by cases hb), List.Pairwise.nil⟩
end
end Go.Am
