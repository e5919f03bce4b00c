/- From the end: states from which a run ends well. -/
import Derived.Test.YtbakjgolhekmgaaGreatDoorAmRen
namespace Go.Am

/-- of a list: each is so. -/
def HypT (ρ : Nat → Int) : Hyp → Prop
  | [] => True
  | (o, a, b, r) :: l => icmp o (a.den ρ) (b.den ρ) = some r ∧ HypT ρ l
theorem HypT.ok {ρ : Nat → Int} : ∀ {l : Hyp}, HypT ρ l → HypOk l ρ
  | [], _ => fun o a b r h => by simp [Hyp.find] at h
  | (o', a', b', r') :: l, ⟨h1, h2⟩ => fun o a b r h => by
    simp only [Hyp.find] at h
    split at h
    · rename_i e
      obtain ⟨rfl, rfl, rfl⟩ := e
      cases h; exact h1
    · exact HypT.ok h2 o a b r h

/-- since memory h0 in the world w0: what was not to be written is as it was; what may be written is new, or was to be written then; the elder names are as they were. -/
structure Since (E0 : Env) (h0 : AH) (w0 : World) (E : Env) (h : AH) (w : World) : Prop where
  os : w.os = w0.os
  tape : w.tape = w0.tape
  output : w.output = w0.output
  size : w0.heap.size ≤ w.heap.size
  nx : h0.nx ≤ h.nx
  keep : ∀ k, k < w0.heap.size → (∀ b o x, h0.t.get b = some o → o.ro = false → E0.σ b = some x → x.blk ≠ k) → w.heap[k]? = w0.heap[k]?
  org : ∀ b o x, h.t.get b = some o → E.σ b = some x → w0.heap.size ≤ x.blk ∨ ∃ b0 o0 x0, h0.t.get b0 = some o0 ∧ (o.ro = false → o0.ro = false) ∧ E0.σ b0 = some x0 ∧ x0.blk = x.blk
  low : ∀ b x, b < h0.nx → E.σ b = some x → E0.σ b = some x

/-- names by a list: the old ones in their new order. -/
noncomputable def Ren.go : List Nat → Nat → Tr Nat → Tr Nat → Ren
  | [], n, a, b => ⟨a, b, n⟩
  | x :: l, n, a, b => Ren.go l (Nat.succ n) (a.set x n) (b.set n x)
noncomputable def idT : List Nat → Tr Nat → Tr Nat
  | [], t => t
  | x :: l, t => idT l (t.set x x)
/-- some names stay; the others are counted from n0 on. -/
noncomputable def Ren.of (olds l : List Nat) (n0 : Nat) : Ren := Ren.go l n0 (idT olds .leaf) (idT olds .leaf)
/-- the slots of a frame that are kept. -/
noncomputable def keepT (tm : Tr AV) : List Nat → Tr AV → Tr AV
  | [], t => t
  | k :: l, t => match tm.get k with
    | some v => keepT tm l (t.set k v)
    | none => keepT tm l t
noncomputable def AF.keepS (c : AF) (ks : List Nat) : AF := match c with
  | ⟨fn, nt, tm, todo, df, mode, d⟩ => ⟨fn, nt, keepT tm ks .leaf, todo, df, mode, d⟩
noncomputable def keepFs : List (List Nat) → List AF → List AF
  | ks :: kss, c :: cs => c.keepS ks :: keepFs kss cs
  | [], cs => cs
  | _ :: _, [] => []
noncomputable def St.keepS (ks : List Nat) (kss : List (List Nat)) (s : St) : St := match s with
  | ⟨fr, cs, h⟩ => ⟨fr.keepS ks, keepFs kss cs, h⟩
def Tr.trim {α : Type} : Tr α → Tr α
  | .leaf => .leaf
  | .node v l r => match v, l.trim, r.trim with
    | none, .leaf, .leaf => .leaf
    | v, l, r => .node v l r
/-- rows that are alone in their family have none. -/
noncomputable def calmIn : List Nat → AH → AH
  | [], h => h
  | b :: l, h => match calmIn l h with
    | ⟨t, f, nx⟩ => match t.get b with
      | some (.cells ct n true fam _ pl ro) => match f.get fam with
        | some [b'] => bif Nat.beq b b' then ⟨t.set b (.cells ct n false 0 0 pl ro), f.del fam, nx⟩ else ⟨t, f, nx⟩
        | _ => ⟨t, f, nx⟩
      | _ => ⟨t, f, nx⟩
noncomputable def AH.trim (h : AH) : AH := match h with
  | ⟨t, f, nx⟩ => ⟨t, f.trim, nx⟩
def seqN : Nat → Nat → List Nat
  | 0, _ => []
  | k + 1, n => n :: seqN k (Nat.succ n)
/-- memory by new names; gs: rows that are named below all these. -/
noncomputable def heapR (olds l ms gs : List Nat) (n0 : Nat) (h : AH) : AH := (calmIn (olds ++ seqN l.length n0) (heapRen (Ren.of olds (l ++ ms) n0) h (olds ++ (l ++ gs)))).trim
noncomputable def St.renR (olds l ms gs : List Nat) (n0 : Nat) (s : St) : St := match s with
  | ⟨fr, cs, h⟩ => ⟨fr.ren (Ren.of olds (l ++ ms) n0), fsRen (Ren.of olds (l ++ ms) n0) cs, heapR olds l ms gs n0 h⟩
/-- so many steps; then only some slots; then the names anew. -/
noncomputable def stepsR (P : Program) (hyp : Hyp) (sm : Nat → List AV → AH → Option (AEnd × AH)) (fuel n : Nat) (ks : List Nat) (kss : List (List Nat)) (olds l ms gs : List Nat) (n0 : Nat) (s : St) : Option St :=
  match steps P hyp sm fuel n s with
  | some s' => some ((s'.keepS ks kss).renR olds l ms gs n0)
  | none => none
noncomputable def AEnd.ren (r : Ren) (e : AEnd) : AEnd := match e with
  | .ret v => .ret (v.renB r)
  | .pan c => .pan (psRen r c)
def AEnd.sub (f : Nat → SX) (e : AEnd) : AEnd := match e with
  | .ret v => .ret (v.sub f)
  | .pan c => .pan (psSub f c)
/-- to the end; then the names anew; then the numbers by others. -/
noncomputable def runR (P : Program) (hyp : Hyp) (sm : Nat → List AV → AH → Option (AEnd × AH)) (n : Nat) (olds l ms gs : List Nat) (n0 : Nat) (g : Nat → SX) (s : St) : Option (AEnd × AH) :=
  match run P hyp sm n s with
  | some (r, h) => some ((r.ren (Ren.of olds (l ++ ms) n0)).sub g, (heapR olds l ms gs n0 h).sub g)
  | none => none

/-- from such a state, where its numbers are as φ says, the run ends as r0 and h1 say (their numbers by E0's). -/
def Good (P : Program) (E0 : Env) (h0 : AH) (w0 : World) (f0 : Nat) (r0 : AEnd) (h1 : AH) (φ : (Nat → Int) → Prop) (s : St) : Prop :=
  ∀ E fr fs w, φ E.ρ → SRel P E s fr fs w → Since E0 h0 w0 E s.h w → bot s = f0 → ∀ base,
    ∃ E' fr' w' en, Steps P (lone fr (fs ++ base) w) (lone fr' base w') ∧ E'.ρ = E0.ρ ∧ EndRel E' r0 en ∧ fr'.leaving P w' en ∧ fr'.fn = f0 ∧ HRel E' h1 w' ∧ Since E0 h0 w0 E' h1 w'

section
variable {E0 E : Env} {h0 h : AH} {w0 w : World}
theorem Since.start (E : Env) (h : AH) (w : World) : Since E h w E h w :=
  ⟨rfl, rfl, rfl, Nat.le_refl _, Nat.le_refl _, fun _ _ _ => rfl, fun b o x h1 h2 => .inr ⟨b, o, x, h1, id, h2, rfl⟩, fun _ _ _ h => h⟩
theorem Since.step {E' : Env} {h' : AH} {w' : World} (a : Since E0 h0 w0 E h w) (b : Ext E h w E' h' w') : Since E0 h0 w0 E' h' w' where
  os := b.os.trans a.os
  tape := b.tape.trans a.tape
  output := b.output.trans a.output
  size := Nat.le_trans a.size b.size
  nx := Nat.le_trans a.nx b.nx
  keep := fun k hk hn => by
    rw [b.keep k (Nat.lt_of_lt_of_le hk a.size), a.keep k hk hn]
    intro c o x h1 h2 h3
    rcases a.org c o x h1 h3 with h4 | ⟨b0, o0, x0, g1, g2, g3, g4⟩
    · omega
    · rw [← g4]; exact hn b0 o0 x0 g1 (g2 h2) g3
  org := fun c o x h1 h3 => by
    rcases b.org c o x h1 h3 with h4 | ⟨b0, o0, x0, g1, g2, g3, g4⟩
    · exact .inl (Nat.le_trans a.size h4)
    · rcases a.org b0 o0 x0 g1 g3 with h5 | ⟨b1, o1, x1, k1, k2, k3, k4⟩
      · exact .inl (by rw [← g4]; exact h5)
      · exact .inr ⟨b1, o1, x1, k1, fun h => k2 (g2 h), k3, k4.trans g4⟩
  low := fun c x hc hx => by
    rw [b.low c (Nat.lt_of_lt_of_le hc a.nx)] at hx
    exact a.low c x hc hx
theorem ro_sub (f : Nat → SX) (o : AO) : (o.sub f).ro = o.ro := by cases o <;> rfl
theorem Since.sub {f : Nat → SX} (m : Since E0 h0 w0 E (h.sub f) w) : Since E0 h0 w0 (E.sub f) h w :=
  ⟨m.os, m.tape, m.output, m.size, m.nx, m.keep, fun b o x h1 h2 => by
    have := m.org b (o.sub f) x (by show (h.t.map (AO.sub f)).get b = _; rw [Tr.get_map, h1]; rfl) h2
    rwa [ro_sub] at this, m.low⟩
theorem Since.unsub {f : Nat → SX} (m : Since E0 h0 w0 E h w) (ρ : Nat → Int) : Since E0 h0 w0 ⟨E.σ, ρ⟩ (h.sub f) w :=
  ⟨m.os, m.tape, m.output, m.size, m.nx, m.keep, fun b o x h1 h2 => by
    have h1 : (h.t.map (AO.sub f)).get b = some o := h1
    rw [Tr.get_map] at h1
    cases hg : h.t.get b with
    | none => rw [hg] at h1; cases h1
    | some o' =>
      rw [hg] at h1
      cases h1
      have := m.org b o' x hg h2
      rwa [ro_sub], m.low⟩
theorem ro_ren {r : Ren} {o o' : AO} (h : o.ren r = some o') : o'.ro = o.ro := by
  cases o with
  | map => cases h; rfl
  | cells a1 a2 sh a4 a5 a6 a7 =>
    simp only [AO.ren] at h
    cases sh with
    | false => cases h; rfl
    | true =>
      simp only [cond_true] at h
      split at h
      · cases h; rfl
      · cases h
theorem Since.ren {r : Ren} (m : Since E0 h0 w0 E h w) (l : List Nat) (hfix : ∀ b n, r.back.get n = some b → n < h0.nx → b = n) (hnx : h0.nx ≤ r.nx) : Since E0 h0 w0 (E.ren r) (heapRen r h l) w :=
  ⟨m.os, m.tape, m.output, m.size, by rw [heapRen_nx]; exact hnx, m.keep, fun n o' x h1 h3 => by
    obtain ⟨b, o, g1, g2, g3⟩ := heapRen_get h l n o' h1
    rw [Ren.at_spec g2] at h3
    have := m.org b o x g1 h3
    rwa [ro_ren g3], fun n x hn hx => by
    simp only [Env.ren] at hx
    split at hx
    · exact m.low n x hn hx
    · split at hx
      · rename_i b hb
        split at hx
        · rw [hfix b n hb hn] at hx; exact m.low n x hn hx
        · cases hx
      · cases hx⟩
/- trees trimmed; rows alone -/
theorem Tr.get_trim {α : Type} : ∀ (t : Tr α) (n : Nat), t.trim.get n = t.get n
  | .leaf, n => rfl
  | .node v l r, n => by
    rw [Tr.get_node, ← Tr.get_trim l, ← Tr.get_trim r]
    simp only [Tr.trim]
    split
    · rename_i h1 h2
      rw [h1, h2]
      simp
    · rw [Tr.get_node]
theorem HRel.trim (hr : HRel E h w) : HRel E h.trim w := by
  obtain ⟨t, f, nx⟩ := h
  refine ⟨hr.obj, hr.sep, fun b ct n fam co pl ro hg => ?_, hr.fresh, hr.glob, hr.base⟩
  obtain ⟨h1, ms, h2, h3⟩ := hr.shl b ct n fam co pl ro hg
  exact ⟨h1, ms, (Tr.get_trim f fam).trans h2, h3⟩
theorem calmIn_nx : ∀ (l : List Nat) (h : AH), (calmIn l h).nx = h.nx
  | [], _ => rfl
  | b :: l, h => by
    have ih := calmIn_nx l h
    simp only [calmIn]
    cases hc : calmIn l h with
    | mk t f nx =>
      rw [hc] at ih
      simp only
      split
      · split
        · rename_i b' _; cases Nat.beq b b' <;> exact ih
        · exact ih
      · exact ih
theorem calmIn_get : ∀ (l : List Nat) (h : AH) (b : Nat) (o : AO), (calmIn l h).t.get b = some o → ∃ o', h.t.get b = some o' ∧ o.ro = o'.ro
  | [], h, b, o, hg => ⟨o, hg, rfl⟩
  | c :: l, h, b, o, hg => by
    have ih := calmIn_get l h b
    simp only [calmIn] at hg
    cases hc : calmIn l h with
    | mk t f nx =>
      rw [hc] at ih hg
      simp only at hg ih
      split at hg
      · rename_i ct n fam co pl ro hgc
        split at hg
        · rename_i b' _
          cases hb : Nat.beq c b' with
          | false => rw [hb] at hg; exact ih o hg
          | true =>
            rw [hb] at hg
            have hg : (t.set c (.cells ct n false 0 0 pl ro)).get b = some o := hg
            rw [Tr.get_set] at hg
            by_cases e : b = c
            · rw [if_pos e] at hg
              cases hg
              subst e
              obtain ⟨o', h1, h2⟩ := ih _ hgc
              exact ⟨o', h1, h2⟩
            · rw [if_neg e] at hg; exact ih o hg
        · exact ih o hg
      · exact ih o hg
theorem HRel.calm1 {t : Tr AO} {f : Tr (List Nat)} {nx : Nat} (hr : HRel E ⟨t, f, nx⟩ w) {b : Nat} {ct : Tr AV} {n fam co : Nat} {pl ro : Bool} (hg : t.get b = some (.cells ct n true fam co pl ro)) (hf : f.get fam = some [b]) :
    HRel E ⟨t.set b (.cells ct n false 0 0 pl ro), f.del fam, nx⟩ w := by
  have huniq : ∀ c ct' n' co' pl' ro', t.get c = some (.cells ct' n' true fam co' pl' ro') → c = b := by
    intro c ct' n' co' pl' ro' hc
    obtain ⟨_, ms, h2, h3⟩ := hr.shl c ct' n' fam co' pl' ro' hc
    have h2 : f.get fam = some ms := h2
    rw [hf] at h2
    cases h2
    simpa using h3
  have hget : ∀ c o, (t.set b (.cells ct n false 0 0 pl ro)).get c = some o → (c = b ∧ o = .cells ct n false 0 0 pl ro) ∨ (c ≠ b ∧ t.get c = some o) := by
    intro c o hc
    rw [Tr.get_set] at hc
    by_cases e : c = b
    · rw [if_pos e] at hc; cases hc; exact .inl ⟨e, rfl⟩
    · rw [if_neg e] at hc; exact .inr ⟨e, hc⟩
  refine ⟨fun c o hc => ?_, fun c c' o o' x x' hne hc hc' hx hx' hblk => ?_, fun c ct' n' fam' co' pl' ro' hc => ?_, hr.fresh, hr.glob, hr.base⟩
  · rcases hget c o hc with ⟨rfl, rfl⟩ | ⟨_, h1⟩
    · obtain ⟨x, hx, ho⟩ := hr.obj c _ hg
      exact ⟨x, hx, ho⟩
    · exact hr.obj c o h1
  · rcases hget c o hc with ⟨rfl, rfl⟩ | ⟨k1, k2⟩ <;> rcases hget c' o' hc' with ⟨rfl, rfl⟩ | ⟨k3, k4⟩
    · exact absurd rfl hne
    · obtain ⟨t4, n4, fam4, co4, pl4, t5, n5, co5, pl5, e1, e2, _⟩ := hr.sep c c' _ _ x x' hne hg k4 hx hx' hblk
      cases e1
      subst e2
      exact absurd (huniq c' _ _ _ _ _ k4) k3
    · obtain ⟨t4, n4, fam4, co4, pl4, t5, n5, co5, pl5, e1, e2, _⟩ := hr.sep c c' _ _ x x' hne k2 hg hx hx' hblk
      cases e2
      subst e1
      exact absurd (huniq c _ _ _ _ _ k2) k1
    · exact hr.sep c c' o o' x x' hne k2 k4 hx hx' hblk
  · rcases hget c _ hc with ⟨_, h1⟩ | ⟨h1, h2⟩
    · cases h1
    · obtain ⟨g1, ms, g2, g3⟩ := hr.shl c ct' n' fam' co' pl' ro' h2
      refine ⟨g1, ms, ?_, g3⟩
      show (f.del fam).get fam' = some ms
      rw [Tr.get_del]
      by_cases e : fam' = fam
      · subst e; exact absurd (huniq c _ _ _ _ _ h2) h1
      · rw [if_neg e]; exact g2
theorem HRel.calm : ∀ (l : List Nat) {h : AH}, HRel E h w → HRel E (calmIn l h) w
  | [], _, hr => hr
  | b :: l, h, hr => by
    have ih := HRel.calm l hr
    simp only [calmIn]
    cases hc : calmIn l h with
    | mk t f nx =>
      rw [hc] at ih
      simp only
      split
      · rename_i ct n fam co pl ro hg
        split
        · rename_i b' hf
          cases hb : Nat.beq b b' with
          | false => exact ih
          | true =>
            obtain rfl := Nat.eq_of_beq_eq_true hb
            exact ih.calm1 hg hf
        · exact ih
      · exact ih
theorem trim_t (h : AH) : h.trim.t = h.t := by obtain ⟨t, f, nx⟩ := h; rfl
theorem trim_nx (h : AH) : h.trim.nx = h.nx := by obtain ⟨t, f, nx⟩ := h; rfl
theorem Since.calm (m : Since E0 h0 w0 E h w) (l : List Nat) : Since E0 h0 w0 E (calmIn l h).trim w :=
  ⟨m.os, m.tape, m.output, m.size, by rw [trim_nx, calmIn_nx]; exact m.nx, m.keep, fun b o x h1 h2 => by
    rw [trim_t] at h1
    obtain ⟨o', h3, h4⟩ := calmIn_get l h b o h1
    have := m.org b o' x h3 h2
    rwa [h4], m.low⟩
theorem go_nx : ∀ (l : List Nat) (n : Nat) (a b : Tr Nat), n ≤ (Ren.go l n a b).nx
  | [], _, _, _ => Nat.le_refl _
  | _ :: l, n, _, _ => Nat.le_trans (Nat.le_succ n) (go_nx l (Nat.succ n) _ _)
theorem go_back : ∀ (l : List Nat) (n : Nat) (a b : Tr Nat) (k c : Nat), (Ren.go l n a b).back.get k = some c → k < n → b.get k = some c
  | [], _, _, _, _, _, h, _ => h
  | x :: l, n, a, b, k, c, h, hk => by
    have h1 := go_back l (Nat.succ n) _ _ k c h (Nat.lt_succ_of_lt hk)
    rw [Tr.get_set, if_neg (by omega)] at h1
    exact h1
theorem idT_get : ∀ (l : List Nat) (t : Tr Nat) (k c : Nat), (idT l t).get k = some c → c = k ∨ t.get k = some c
  | [], _, _, _, h => .inr h
  | x :: l, t, k, c, h => by
    rcases idT_get l _ k c h with h1 | h1
    · exact .inl h1
    · rw [Tr.get_set] at h1
      by_cases e : k = x
      · rw [if_pos e] at h1; cases h1; exact .inl e.symm
      · rw [if_neg e] at h1; exact .inr h1
theorem of_fix (olds l : List Nat) (n0 : Nat) (b n : Nat) (h : (Ren.of olds l n0).back.get n = some b) (hn : n < n0) : b = n := by
  rcases idT_get olds .leaf n b (go_back l n0 _ _ n b h hn) with h1 | h1
  · exact h1
  · simp at h1
theorem Since.renR (m : Since E0 h0 w0 E h w) (olds l ms gs : List Nat) {n0 : Nat} (hn : h0.nx ≤ n0) : Since E0 h0 w0 (E.ren (Ren.of olds (l ++ ms) n0)) (heapR olds l ms gs n0 h) w :=
  (m.ren _ (fun b n hb hlt => of_fix olds (l ++ ms) n0 b n hb (Nat.lt_of_lt_of_le hlt hn)) (Nat.le_trans hn (go_nx (l ++ ms) n0 _ _))).calm _
theorem HRel.renR (hr : HRel E h w) (olds l ms gs : List Nat) {n0 : Nat} (hn : 4096 ≤ n0) : HRel (E.ren (Ren.of olds (l ++ ms) n0)) (heapR olds l ms gs n0 h) w :=
  ((hr.ren (Nat.le_trans hn (go_nx (l ++ ms) n0 _ _)) _).calm _).trim
end

section
variable {E : Env} {f : Nat → SX}
mutual
theorem VR.unsub : ∀ (a : AV) (y : Value), VR (E.sub f) a y → VR E (a.sub f) y
  | .int k a, y, h => by
    have h : y = .int k (a.den (E.sub f).ρ) := h
    show y = .int k ((a.sub f).den E.ρ)
    rw [AI.den_sub]
    exact h
  | .func fn a b, y, ⟨x, z, h1, h2, h3⟩ => ⟨x, z, h1, VRs.unsub a _ h2, VRs.unsub b _ h3⟩
  | .iface t v, y, ⟨x, h1, h2⟩ => ⟨x, h1, VR.unsub v _ h2⟩
  | .agg cs, y, ⟨x, h1, h2⟩ => ⟨x, h1, VRs.unsub cs _ h2⟩
  | .tup cs, y, ⟨x, h1, h2⟩ => ⟨x, h1, VRs.unsub cs _ h2⟩
  | .bot, y, h => h
  | .bool b, y, h => h
  | .str s n, y, h => h
  | .nilptr, y, h => h
  | .ptr b o, y, h => h
  | .nilslice, y, h => h
  | .slice b o l c z e, y, h => h
  | .nilmap, y, h => h
  | .map b, y, h => h
  | .nilfunc, y, h => h
  | .nilface, y, h => h
theorem VRs.unsub : ∀ (a : List AV) (y : List Value), VRs (E.sub f) a y → VRs E (AV.subs f a) y
  | [], y, h => h
  | a :: l, y, ⟨x, xs, h1, h2, h3⟩ => ⟨x, xs, h1, VR.unsub a _ h2, VRs.unsub l _ h3⟩
end
theorem ERel.unsub : ∀ (es : List (AV × AV × Nat)) (ms : List MapEntry), ERel (E.sub f) es ms → ERel E (esSub f es) ms
  | [], ms, h => h
  | (k, v, n) :: l, ms, ⟨e, es', h1, h2, h3, h4, h5⟩ => ⟨e, es', h1, VR.unsub k _ h2, VR.unsub v _ h3, h4, ERel.unsub l _ h5⟩
theorem ORel.unsub {o : AO} {x : Slot} {w : World} (h : ORel (E.sub f) o x w) : ORel E (o.sub f) x w := by
  cases o with
  | cells t n sh fam co pl ro =>
    obtain ⟨c, el, fz, h1, h2, h3, h4, h5, h6⟩ := h
    refine ⟨c, el, fz, h1, h2, h3, h4, h5, fun i v hi => ?_⟩
    rw [Tr.get_map] at hi
    cases hg : t.get i with
    | none => rw [hg] at hi; cases hi
    | some a =>
      rw [hg] at hi
      cases hi
      obtain ⟨g1, y, g2, g3⟩ := h6 i a hg
      exact ⟨g1, y, g2, VR.unsub a _ g3⟩
  | map es clock =>
    obtain ⟨h1, es', h2, h3⟩ := h
    exact ⟨h1, es', h2, ERel.unsub es _ h3⟩
theorem HRel.unsub {h : AH} {w : World} (hr : HRel (E.sub f) h w) : HRel E (h.sub f) w := by
  have hget : ∀ b o, (h.sub f).t.get b = some o → ∃ o', h.t.get b = some o' ∧ o = o'.sub f := fun b o hb => by
    have hb : (h.t.map (AO.sub f)).get b = some o := hb
    rw [Tr.get_map] at hb
    cases hg : h.t.get b with
    | none => rw [hg] at hb; cases hb
    | some o' => rw [hg] at hb; cases hb; exact ⟨o', rfl, rfl⟩
  refine ⟨fun b o hb => ?_, fun b b' o o' x x' hne h1 h2 h3 h4 h5 => ?_, fun b t n fam co pl ro hb => ?_, hr.fresh, hr.glob, hr.base⟩
  · obtain ⟨o', h1, rfl⟩ := hget b o hb
    obtain ⟨x, hx, ho⟩ := hr.obj b _ h1
    exact ⟨x, hx, ho.unsub⟩
  · obtain ⟨p, k1, rfl⟩ := hget b o h1
    obtain ⟨p', k2, rfl⟩ := hget b' o' h2
    obtain ⟨t4, n4, fam4, co4, pl4, t5, n5, co5, pl5, e1, e2, e3⟩ := hr.sep b b' _ _ x x' hne k1 k2 h3 h4 h5
    subst e1 e2
    exact ⟨_, _, _, _, _, _, _, _, _, rfl, rfl, e3⟩
  · obtain ⟨p, k1, e⟩ := hget b _ hb
    cases p with
    | map => cases e
    | cells a1 a2 a3 a4 a5 a6 a7 =>
      simp only [AO.sub, AO.cells.injEq] at e
      obtain ⟨_, rfl, rfl, rfl, rfl, rfl, rfl⟩ := e
      exact hr.shl b _ _ _ _ _ _ k1
theorem PsRel.unsub : ∀ {c : List (AV × Bool)} {ps : List PanicEntry}, PsRel (E.sub f) c ps → PsRel E (psSub f c) ps
  | [], _, h => h
  | (v, b) :: c, _, ⟨y, ys, h1, h2, h3, h4, h5⟩ => ⟨y, ys, h1, VR.unsub v _ h2, h3, h4, PsRel.unsub h5⟩
theorem EndRel.unsub {r : AEnd} {en : Ending} (h : EndRel (E.sub f) r en) : EndRel E (r.sub f) en := by
  cases r with
  | ret v => obtain ⟨y, h1, h2⟩ := h; exact ⟨y, h1, VR.unsub v _ h2⟩
  | pan c => obtain ⟨c', h1, h2⟩ := h; exact ⟨c', h1, PsRel.unsub h2⟩
theorem EndRel.ren {r : Ren} {e : AEnd} {en : Ending} (h : EndRel E e en) : EndRel (E.ren r) (e.ren r) en := by
  cases e with
  | ret v => obtain ⟨y, h1, h2⟩ := h; exact ⟨y, h1, renB_rel h2⟩
  | pan c => obtain ⟨c', h1, h2⟩ := h; exact ⟨c', h1, PsRel.ren h2⟩
theorem EndRel.mono {E' : Env} (hle : E.le E') {r : AEnd} {en : Ending} (h : EndRel E r en) : EndRel E' r en := by
  cases r with
  | ret v => obtain ⟨y, h1, h2⟩ := h; exact ⟨y, h1, VR.mono hle _ _ h2⟩
  | pan c => obtain ⟨c', h1, h2⟩ := h; exact ⟨c', h1, PsRel.mono hle h2⟩
end

section
variable {P : Program} {E : Env}
theorem TRel.keepT {tm : Tr AV} {vs : Array Value} (h : TRel E tm vs) : ∀ (l : List Nat) {t : Tr AV}, TRel E t vs → TRel E (Am.keepT tm l t) vs
  | [], _, ht => ht
  | k :: l, t, ht => by
    simp only [Am.keepT]
    split
    · rename_i v hv
      refine TRel.keepT h l ?_
      intro i a hi
      rw [Tr.get_set] at hi
      by_cases e : i = k
      · rw [if_pos e] at hi
        cases hi
        rw [e]; exact h k _ hv
      · rw [if_neg e] at hi; exact ht i a hi
    · exact TRel.keepT h l ht
theorem TRel.leaf' {vs : Array Value} : TRel E .leaf vs := fun t v h => by simp at h
theorem FRel.keepS {c : AF} {fr : Frame} (h : FRel P E c fr) (ks : List Nat) : FRel P E (c.keepS ks) fr := by
  obtain ⟨fn, nt, tm, todo, df, mode, d⟩ := c
  exact ⟨h.fn, h.is, TRel.keepT h.tm ks TRel.leaf', h.size, h.todo, h.defers, h.mode, h.kind, h.round⟩
theorem FsRel.keepFs : ∀ {kss : List (List Nat)} {cs : List AF} {fs : List Frame}, FsRel P E cs fs → FsRel P E (Am.keepFs kss cs) fs
  | [], cs, _, h => by cases cs <;> exact h
  | _ :: _, [], _, h => h
  | ks :: kss, _ :: _, _, ⟨y, ys, h1, h2, h3⟩ => ⟨y, ys, h1, h2.keepS ks, FsRel.keepFs h3⟩
theorem SRel.keepS {s : St} {fr : Frame} {fs : List Frame} {w : World} (h : SRel P E s fr fs w) (ks : List Nat) (kss : List (List Nat)) : SRel P E (s.keepS ks kss) fr fs w := by
  obtain ⟨fr0, cs, hh⟩ := s
  exact ⟨h.hr, h.fr.keepS ks, FsRel.keepFs h.cs⟩
theorem SRel.renR {s : St} {fr : Frame} {fs : List Frame} {w : World} (h : SRel P E s fr fs w) (olds l ms gs : List Nat) {n0 : Nat} (hn : 4096 ≤ n0) : SRel P (E.ren (Ren.of olds (l ++ ms) n0)) (s.renR olds l ms gs n0) fr fs w := by
  obtain ⟨fr0, cs, hh⟩ := s
  exact ⟨h.hr.renR olds l ms gs hn, FRel.ren h.fr, FsRel.ren h.cs⟩
theorem keepS_fn (c : AF) (ks : List Nat) : (c.keepS ks).fn = c.fn := by obtain ⟨fn, nt, tm, todo, df, mode, d⟩ := c; rfl
theorem fns_keepFs : ∀ (kss : List (List Nat)) (cs : List AF), fns (keepFs kss cs) = fns cs
  | [], cs => by cases cs <;> rfl
  | _ :: _, [] => rfl
  | ks :: kss, c :: cs => by
    show (c.keepS ks).fn :: fns (keepFs kss cs) = c.fn :: fns cs
    rw [keepS_fn, fns_keepFs kss cs]
theorem bot_keepS (s : St) (ks : List Nat) (kss : List (List Nat)) : bot (s.keepS ks kss) = bot s := by
  obtain ⟨fr0, cs, hh⟩ := s
  show (fns (keepFs kss cs)).getLastD (fr0.keepS ks).fn = (fns cs).getLastD fr0.fn
  rw [fns_keepFs, keepS_fn]
theorem keepS_h (s : St) (ks : List Nat) (kss : List (List Nat)) : (s.keepS ks kss).h = s.h := by obtain ⟨fr0, cs, hh⟩ := s; rfl
theorem renR_h (s : St) (olds l ms gs : List Nat) (n0 : Nat) : (s.renR olds l ms gs n0).h = heapR olds l ms gs n0 s.h := by obtain ⟨fr0, cs, hh⟩ := s; rfl
theorem ren_fn (r : Ren) (c : AF) : (c.ren r).fn = c.fn := by obtain ⟨fn, nt, tm, todo, df, mode, d⟩ := c; rfl
theorem fns_fsRen (r : Ren) : ∀ (cs : List AF), fns (fsRen r cs) = fns cs
  | [] => rfl
  | c :: cs => by
    show (c.ren r).fn :: fns (fsRen r cs) = c.fn :: fns cs
    rw [ren_fn, fns_fsRen r cs]
theorem bot_renR (s : St) (olds l ms gs : List Nat) (n0 : Nat) : bot (s.renR olds l ms gs n0) = bot s := by
  obtain ⟨fr0, cs, hh⟩ := s
  show (fns (fsRen (Ren.of olds (l ++ ms) n0) cs)).getLastD (fr0.ren (Ren.of olds (l ++ ms) n0)).fn = (fns cs).getLastD fr0.fn
  rw [fns_fsRen, ren_fn]
theorem fns_fsSub (f : Nat → SX) : ∀ (cs : List AF), fns (fsSub f cs) = fns cs
  | [] => rfl
  | c :: cs => by
    show c.fn :: fns (fsSub f cs) = c.fn :: fns cs
    rw [fns_fsSub f cs]
theorem bot_sub (s : St) (f : Nat → SX) : bot (s.sub f) = bot s := by
  show (fns (fsSub f s.cs)).getLastD s.fr.fn = (fns s.cs).getLastD s.fr.fn
  rw [fns_fsSub]

variable {E0 : Env} {h0 h1 : AH} {w0 : World} {f0 : Nat} {r0 : AEnd} {φ ψ : (Nat → Int) → Prop} {s s' : St} {hyp : Hyp} {sm : Nat → List AV → AH → Option (AEnd × AH)}
theorem Good.fin (hmix : P.follows .mixedOrders = true) (hsm : CSound P hyp sm) (hh : ∀ ρ, φ ρ → HypT ρ hyp) {n : Nat} {olds l ms gs : List Nat} {n0 : Nat} (hn : 4096 ≤ n0) (hn0 : h0.nx ≤ n0) {g : Nat → SX} (hg : ∀ ρ, φ ρ → ρ = fun k => (g k).den E0.ρ)
    (hr : runR P hyp sm n olds l ms gs n0 g s = some (r0, h1)) : Good P E0 h0 w0 f0 r0 h1 φ s := by
  intro E fr fs w hφ hs hm hb base
  unfold runR at hr
  cases hx : Am.run P hyp sm n s with
  | none => rw [hx] at hr; cases hr
  | some p =>
    obtain ⟨r, h'⟩ := p
    rw [hx] at hr
    simp only [Option.some.injEq, Prod.mk.injEq] at hr
    obtain ⟨rfl, rfl⟩ := hr
    obtain ⟨E', fr', w', en, k1, k2, k3, k4, k5, k6⟩ := (run_both hmix hyp hsm n).2 s r h' hx E fr fs w (hh _ hφ).ok hs base
    have hρ : (E'.ren (Ren.of olds (l ++ ms) n0)).ρ = fun k => (g k).den E0.ρ := (show E'.ρ = _ from k6.le.ρ).trans (hg _ hφ)
    have hE : E'.ren (Ren.of olds (l ++ ms) n0) = Env.sub ⟨(E'.ren (Ren.of olds (l ++ ms) n0)).σ, E0.ρ⟩ g := by
      show (⟨(E'.ren (Ren.of olds (l ++ ms) n0)).σ, (E'.ren (Ren.of olds (l ++ ms) n0)).ρ⟩ : Env) = _
      rw [hρ]; rfl
    refine ⟨⟨(E'.ren (Ren.of olds (l ++ ms) n0)).σ, E0.ρ⟩, fr', w', en, k1, rfl, ?_, k3, k4.trans hb, ?_, ?_⟩
    · have h2 := EndRel.ren (r := Ren.of olds (l ++ ms) n0) k2
      rw [hE] at h2
      exact h2.unsub
    · have h5 := k5.renR olds l ms gs hn
      rw [hE] at h5
      exact h5.unsub
    · exact ((hm.step k6).renR olds l ms gs hn0).unsub _
theorem Good.sub (f : Nat → SX) {S : St} (hφ : ∀ ρ, φ ρ → ψ fun k => (f k).den ρ) (g : Good P E0 h0 w0 f0 r0 h1 ψ S) : Good P E0 h0 w0 f0 r0 h1 φ (S.sub f) := by
  intro E fr fs w hp hs hm hb base
  exact g (E.sub f) fr fs w (hφ _ hp) hs.sub (Since.sub (f := f) hm) (by rw [← hb, bot_sub]) base
theorem Good.weak (hφ : ∀ ρ, φ ρ → ψ ρ) (g : Good P E0 h0 w0 f0 r0 h1 ψ s) : Good P E0 h0 w0 f0 r0 h1 φ s :=
  fun E fr fs w hp => g E fr fs w (hφ _ hp)
theorem Good.split (χ : (Nat → Int) → Prop) (g1 : Good P E0 h0 w0 f0 r0 h1 (fun ρ => φ ρ ∧ χ ρ) s) (g2 : Good P E0 h0 w0 f0 r0 h1 (fun ρ => φ ρ ∧ ¬ χ ρ) s) : Good P E0 h0 w0 f0 r0 h1 φ s :=
  fun E fr fs w hp => (Classical.em (χ E.ρ)).elim (fun h => g1 E fr fs w ⟨hp, h⟩) (fun h => g2 E fr fs w ⟨hp, h⟩)
theorem Good.steps (hmix : P.follows .mixedOrders = true) (hsm : CSound P hyp sm) (hh : ∀ ρ, φ ρ → HypT ρ hyp) {fuel n : Nat} {ks : List Nat} {kss : List (List Nat)} {olds l ms gs : List Nat} {n0 : Nat} (hn : 4096 ≤ n0) (hn0 : h0.nx ≤ n0)
    (h : stepsR P hyp sm fuel n ks kss olds l ms gs n0 s = some s') (g : Good P E0 h0 w0 f0 r0 h1 φ s') : Good P E0 h0 w0 f0 r0 h1 φ s := by
  intro E fr fs w hp hs hm hb base
  unfold stepsR at h
  cases hx : Am.steps P hyp sm fuel n s with
  | none => rw [hx] at h; cases h
  | some s1 =>
    rw [hx] at h
    simp only [Option.some.injEq] at h
    subst h
    obtain ⟨E', fr', fs', w', h1, h2, h3, h4⟩ := steps_spec hmix hyp hsm fuel n s s1 hx E fr fs w (hh _ hp).ok hs base
    obtain ⟨E2, fr2, w2, en, k1, k2, k3, k4, k5, k6, k7⟩ := g (E'.ren (Ren.of olds (l ++ ms) n0)) fr' fs' w' (by show φ E'.ρ; rw [h3.le.ρ]; exact hp)
      ((h2.keepS ks kss).renR olds l ms gs hn) (by rw [renR_h, keepS_h]; exact (hm.step h3).renR olds l ms gs hn0) (by rw [bot_renR, bot_keepS, h4]; exact hb) base
    exact ⟨E2, fr2, w2, en, h1.trans k1, k2, k3, k4, k5, k6, k7⟩
/-- a loop: by a measure. -/
theorem Good.loop (m : (Nat → Int) → Nat) (h : ∀ k, Good P E0 h0 w0 f0 r0 h1 (fun ρ => φ ρ ∧ m ρ < k) s → Good P E0 h0 w0 f0 r0 h1 (fun ρ => φ ρ ∧ m ρ = k) s) : Good P E0 h0 w0 f0 r0 h1 φ s := by
  have key : ∀ k, Good P E0 h0 w0 f0 r0 h1 (fun ρ => φ ρ ∧ m ρ < k) s := by
    intro k
    induction k with
    | zero => exact fun E fr fs w hp => absurd hp.2 (Nat.not_lt_zero _)
    | succ k ih =>
      intro E fr fs w hp
      rcases Nat.lt_succ_iff_lt_or_eq.1 hp.2 with h1 | h1
      · exact ih E fr fs w ⟨hp.1, h1⟩
      · exact h k ih E fr fs w ⟨hp.1, h1⟩
  exact fun E fr fs w hp => key (m E.ρ + 1) E fr fs w ⟨hp, Nat.lt_succ_self _⟩
end
end Go.Am
