/- Summaries: a call at memory of which a part is known: what it answers, and what it makes of that part. -/
import Derived.Test.YtbakjgolhekmgaaGreatDoorAmSum
namespace Go.Am

def AO.lone (o : AO) : Bool := match o with
  | .cells _ _ sh _ _ _ _ => !sh
  | .map _ _ => true
def lones : List (Nat × AO) → Bool
  | [] => true
  | (_, o) :: l => o.lone && lones l
noncomputable def rowsT : List (Nat × AO) → Tr AO → Tr AO
  | [], t => t
  | (b, o) :: l, t => rowsT l (t.set b o)
noncomputable def delsT : List (Nat × AO) → Tr AO → Tr AO
  | [], t => t
  | (b, _) :: l, t => (delsT l t).del b
noncomputable def heapOf (rows : List (Nat × AO)) (nx : Nat) : AH := ⟨rowsT rows .leaf, .leaf, nx⟩
def subT : Tr AV → Tr AV → Bool
  | .leaf, _ => true
  | .node v l r, t => match t with
    | .leaf => false
    | .node v' l' r' => (match v with | none => true | some a => match v' with | some a' => AV.same a a' | none => false) && (subT l l' && subT r r')
def esSame : List (AV × AV × Nat) → List (AV × AV × Nat) → Bool
  | [], [] => true
  | (k, v, n) :: l, (k', v', n') :: l' => (AV.same k k' && (AV.same v v' && Nat.beq n n')) && esSame l l'
  | _, _ => false
/-- is a row at least what is wanted? -/
def covers (o o' : AO) : Bool := match o, o' with
  | .cells ct n _ _ _ pl ro, .cells ct' n' sh' _ _ pl' ro' => !sh' && (Nat.beq n n' && ((!pl || pl') && ((ro || !ro') && subT ct ct')))
  | .map es c, .map es' c' => Nat.beq c c' && esSame es es'
  | _, _ => false
noncomputable def inclB (t : Tr AO) : List (Nat × AO) → Bool
  | [] => true
  | (b, o) :: l => match t.get b with
    | some o' => covers o o' && inclB t l
    | none => false
noncomputable def callSum (f : Nat) (A : List AV) (rows : List (Nat × AO)) (nxH : Nat) (r : AEnd) (rows' : List (Nat × AO)) (nx' : Nat) (f' : Nat) (args : List AV) (h : AH) : Option (AEnd × AH) :=
  match h with
  | ⟨t, hf, nx⟩ => bif Nat.beq f' f && (Nat.beq nx nxH && (AV.sames args A && inclB t rows)) then some (r, ⟨rowsT rows' (delsT rows t), hf, nx'⟩) else none
/-- one summary, else another one. -/
def orS (a b : Nat → List AV → AH → Option (AEnd × AH)) (f : Nat) (args : List AV) (h : AH) : Option (AEnd × AH) := match a f args h with
  | some r => some r
  | none => b f args h

theorem orS_sound {P : Program} {hyp : Hyp} {a b : Nat → List AV → AH → Option (AEnd × AH)} (h1 : CSound P hyp a) (h2 : CSound P hyp b) : CSound P hyp (orS a b) := by
  intro f args h r h' hc
  unfold orS at hc
  cases hs : a f args h with
  | none => rw [hs] at hc; exact h2 f args h r h' hc
  | some q => rw [hs] at hc; cases hc; exact h1 f args h r h' hs

theorem subT_get : ∀ {a b : Tr AV}, subT a b = true → ∀ i v, a.get i = some v → b.get i = some v
  | .leaf, _, _, i, v, h => by simp at h
  | .node x l r, .leaf, hs, i, v, h => by simp [subT] at hs
  | .node x l r, .node x' l' r', hs, i, v, h => by
    simp only [subT, Bool.and_eq_true] at hs
    rw [Tr.get_node] at h ⊢
    split at h
    · rename_i e
      rw [if_pos e]
      subst h
      have h1 := hs.1
      simp only at h1
      split at h1
      · rename_i a'
        rw [same_eq _ _ h1]
      · cases h1
    · rename_i e
      rw [if_neg e]
      split at h
      · rename_i e2
        rw [if_pos e2]
        exact subT_get hs.2.2 _ _ h
      · rename_i e2
        rw [if_neg e2]
        exact subT_get hs.2.1 _ _ h
theorem esSame_eq : ∀ {a b : List (AV × AV × Nat)}, esSame a b = true → a = b
  | [], [], _ => rfl
  | [], _ :: _, h => by simp [esSame] at h
  | _ :: _, [], h => by simp [esSame] at h
  | (k, v, n) :: l, (k', v', n') :: l', h => by
    simp only [esSame, Bool.and_eq_true] at h
    rw [same_eq _ _ h.1.1, same_eq _ _ h.1.2.1, Nat.eq_of_beq_eq_true h.1.2.2, esSame_eq h.2]
theorem covers_lone {o o' : AO} (h : covers o o' = true) : o'.lone = true := by
  cases o <;> cases o' <;> simp_all [covers, AO.lone]
theorem covers_ro {o o' : AO} (h : covers o o' = true) (hr : o.ro = false) : o'.ro = false := by
  cases o with
  | map => cases o' with
    | map => rfl
    | cells => simp [covers] at h
  | cells ct n sh fam co pl ro =>
    cases o' with
    | map => rfl
    | cells ct' n' sh' fam' co' pl' ro' =>
      have : ro = false := hr
      subst this
      simp [covers] at h
      exact h.2.2.2.1
theorem covers_rel {E : Env} {o o' : AO} (h : covers o o' = true) {x : Slot} {w : World} (ho : ORel E o' x w) : ORel E o x w := by
  cases o with
  | map es c => cases o' with
    | cells => simp [covers] at h
    | map es' c' =>
      simp only [covers, Bool.and_eq_true] at h
      rw [Nat.eq_of_beq_eq_true h.1, esSame_eq h.2]
      exact ho
  | cells ct n sh fam co pl ro =>
    cases o' with
    | map => simp [covers] at h
    | cells ct' n' sh' fam' co' pl' ro' =>
      simp only [covers, Bool.and_eq_true] at h
      obtain ⟨_, h1, h2, h3, h4⟩ := h
      obtain rfl := Nat.eq_of_beq_eq_true h1
      obtain ⟨c, el, fz, k1, k2, k3, k4, k5, k6⟩ := ho
      refine ⟨c, el, fz, k1, k2, k3, fun hr => k4 ?_, fun hp => k5 ?_, fun i v hi => k6 i v (subT_get h4 i v hi)⟩
      · rw [hr] at h3; simpa using h3
      · rw [hp] at h2; simpa using h2
theorem incl_get {t : Tr AO} : ∀ {l : List (Nat × AO)}, inclB t l = true → ∀ b o, (b, o) ∈ l → ∃ o', t.get b = some o' ∧ covers o o' = true
  | [], _, b, o, h => by cases h
  | (c, p) :: l, hi, b, o, h => by
    simp only [inclB] at hi
    split at hi
    · rename_i o' ho'
      simp only [Bool.and_eq_true] at hi
      rcases List.mem_cons.1 h with h1 | h1
      · cases h1; exact ⟨o', ho', hi.1⟩
      · exact incl_get hi.2 b o h1
    · cases hi
theorem lones_get : ∀ {l : List (Nat × AO)}, lones l = true → ∀ b o, (b, o) ∈ l → o.lone = true
  | [], _, b, o, h => by cases h
  | (c, p) :: l, hi, b, o, h => by
    simp only [lones, Bool.and_eq_true] at hi
    rcases List.mem_cons.1 h with h1 | h1
    · cases h1; exact hi.1
    · exact lones_get hi.2 b o h1
theorem rowsT_two : ∀ (l : List (Nat × AO)) (t u : Tr AO) (b : Nat), (rowsT l t).get b = (rowsT l u).get b ∨ ((rowsT l t).get b = t.get b ∧ (rowsT l u).get b = u.get b)
  | [], t, u, b => .inr ⟨rfl, rfl⟩
  | (c, o) :: l, t, u, b => by
    rcases rowsT_two l (t.set c o) (u.set c o) b with h | ⟨h1, h2⟩
    · exact .inl h
    · rw [Tr.get_set] at h1 h2
      by_cases e : b = c
      · rw [if_pos e] at h1 h2; exact .inl (h1.trans h2.symm)
      · rw [if_neg e] at h1 h2; exact .inr ⟨h1, h2⟩
theorem rowsT_mem : ∀ (l : List (Nat × AO)) (t : Tr AO) (b : Nat) (o : AO), (rowsT l t).get b = some o → (b, o) ∈ l ∨ t.get b = some o
  | [], t, b, o, h => .inr h
  | (c, p) :: l, t, b, o, h => by
    rcases rowsT_mem l _ b o h with h1 | h1
    · exact .inl (List.mem_cons_of_mem _ h1)
    · rw [Tr.get_set] at h1
      by_cases e : b = c
      · rw [if_pos e] at h1; cases h1; exact .inl (by rw [e]; exact List.mem_cons_self ..)
      · rw [if_neg e] at h1; exact .inr h1
theorem heapOf_get {rows : List (Nat × AO)} {nx b : Nat} {o : AO} (h : (heapOf rows nx).t.get b = some o) : (b, o) ∈ rows := by
  rcases rowsT_mem rows .leaf b o h with h1 | h1
  · exact h1
  · simp at h1
theorem delsT_get : ∀ (l : List (Nat × AO)) (t : Tr AO) (b : Nat) (o : AO), (delsT l t).get b = some o → t.get b = some o ∧ ∀ p, (b, p) ∉ l
  | [], t, b, o, h => ⟨h, fun p hp => by cases hp⟩
  | (c, q) :: l, t, b, o, h => by
    have h : ((delsT l t).del c).get b = some o := h
    rw [Tr.get_del] at h
    by_cases e : b = c
    · rw [if_pos e] at h; cases h
    · rw [if_neg e] at h
      obtain ⟨h1, h2⟩ := delsT_get l t b o h
      refine ⟨h1, fun p hp => ?_⟩
      rcases List.mem_cons.1 hp with h3 | h3
      · cases h3; exact e rfl
      · exact h2 p h3
theorem kin_lone {o o' : AO} {x x' : Slot} (h : Kin o o' x x') (hl : o.lone = true) : False := by
  obtain ⟨_, _, _, _, _, _, _, _, _, rfl, _⟩ := h
  cases hl
theorem kin_lone' {o o' : AO} {x x' : Slot} (h : Kin o o' x x') (hl : o'.lone = true) : False := by
  obtain ⟨_, _, _, _, _, _, _, _, _, _, rfl, _⟩ := h
  cases hl
/-- of memory some rows are left. -/
theorem HRel.part {E : Env} {t : Tr AO} {hf : Tr (List Nat)} {nx : Nat} {w : World} (hr : HRel E ⟨t, hf, nx⟩ w) {rows : List (Nat × AO)} (hi : inclB t rows = true) (hl : lones rows = true) : HRel E (heapOf rows nx) w where
  obj := fun b o hb => by
    obtain ⟨o', h1, h2⟩ := incl_get hi b o (heapOf_get hb)
    obtain ⟨x, hx, ho⟩ := hr.obj b _ h1
    exact ⟨x, hx, covers_rel h2 ho⟩
  sep := fun b b' o o' x x' hne hb hb' hx hx' hblk => by
    obtain ⟨p, h1, h2⟩ := incl_get hi b o (heapOf_get hb)
    obtain ⟨p', h1', h2'⟩ := incl_get hi b' o' (heapOf_get hb')
    exact (kin_lone (hr.sep b b' _ _ x x' hne h1 h1' hx hx' hblk) (covers_lone h2)).elim
  shl := fun b t' m fam co pl ro hb => by cases lones_get hl b _ (heapOf_get hb)
  fresh := hr.fresh
  glob := hr.glob
  base := hr.base

theorem call_sound {P : Program} {hyp : Hyp} {f : Nat} {A : List AV} {fr : AF} {rows rows' : List (Nat × AO)} {nxH nx' : Nat} {r : AEnd} (hen : AF.enter P f A false = some fr) (hl : lones rows = true) (hl' : lones rows' = true)
    (g : ∀ E0 w0, HypOk hyp E0.ρ → Good P E0 (heapOf rows nxH) w0 f r (heapOf rows' nx') (fun ρ => ρ = E0.ρ) ⟨fr, [], heapOf rows nxH⟩) : CSound P hyp (callSum f A rows nxH r rows' nx') := by
  intro f' args h r1 h' hc E w ys hh hr hy base
  obtain ⟨t, hf, nx⟩ := h
  simp only [callSum] at hc
  cases hb : (Nat.beq f' f && (Nat.beq nx nxH && (AV.sames args A && inclB t rows))) with
  | false => rw [hb] at hc; cases hc
  | true =>
    rw [hb] at hc
    simp only [cond_true, Option.some.injEq, Prod.mk.injEq] at hc
    obtain ⟨rfl, rfl⟩ := hc
    simp only [Bool.and_eq_true] at hb
    obtain rfl := Nat.eq_of_beq_eq_true hb.1
    obtain rfl := Nat.eq_of_beq_eq_true hb.2.1
    obtain rfl := sames_eq _ _ hb.2.2.1
    have hi := hb.2.2.2
    have hp := hr.part hi hl
    obtain ⟨E', fr', w', en, s1, s2, s3, s4, s5, s6, s7⟩ := g E w hh E (Frame.enter P f' ys .normal) [] w rfl ⟨hp, enter_spec hen hy, rfl⟩ (Since.start E _ w) (enter_fn hen) base
    have hnn : nx ≤ nx' := s7.nx
    let E2 : Env := ⟨fun c => if c < nx then E.σ c else E'.σ c, E.ρ⟩
    have hlow : ∀ c, c < nx → E2.σ c = E.σ c := fun c hc => by show (if c < nx then E.σ c else _) = _; rw [if_pos hc]
    have hhigh : ∀ c, nx ≤ c → E2.σ c = E'.σ c := fun c hc => by show (if c < nx then E.σ c else _) = _; rw [if_neg (by omega)]
    have hnx : ∀ c x, E.σ c = some x → c < nx := fun c x hx => by
      rcases Nat.lt_or_ge c nx with h1 | h1
      · exact h1
      · rw [hr.fresh c h1] at hx; cases hx
    have hle : E.le E2 := ⟨rfl, fun c x hx => by rw [hlow c (hnx c x hx)]; exact hx⟩
    have hle' : E'.le E2 := ⟨s2.symm, fun c x hx => by
      rcases Nat.lt_or_ge c nx with h1 | h1
      · rw [hlow c h1]; exact s7.low c x h1 hx
      · rw [hhigh c h1]; exact hx⟩
    have hget : ∀ c o, (rowsT rows' (delsT rows t)).get c = some o → (heapOf rows' nx').t.get c = some o ∨ (t.get c = some o ∧ ∀ p, (c, p) ∉ rows) := by
      intro c o hc
      rcases rowsT_two rows' (delsT rows t) .leaf c with h1 | ⟨h1, h2⟩
      · exact .inl (h1.symm.trans hc)
      · rw [h1] at hc; exact .inr (delsT_get rows t c o hc)
    have hnew : ∀ c o, (heapOf rows' nx').t.get c = some o → ∀ x, E2.σ c = some x → E'.σ c = some x := by
      intro c o hc x hx
      obtain ⟨x', h1, _⟩ := s6.obj c o hc
      rw [hle'.σ c x' h1] at hx
      rw [h1]; exact hx
    -- a row of the part, and one that is not of it, lie in two blocks
    have hap : ∀ b o x c o' x', (b, o) ∈ rows → E.σ b = some x → t.get c = some o' → (∀ p, (c, p) ∉ rows) → E.σ c = some x' → x.blk ≠ x'.blk := by
      intro b o x c o' x' h1 h2 h3 h4 h5 h6
      obtain ⟨p, k1, k2⟩ := incl_get hi b o h1
      have hne : b ≠ c := fun e => by subst e; exact h4 o h1
      exact kin_lone (hr.sep b c p o' x x' hne k1 h3 h2 h5 h6) (covers_lone k2)
    have hold : ∀ c o x, t.get c = some o → (∀ p, (c, p) ∉ rows) → E.σ c = some x → w'.heap[x.blk]? = w.heap[x.blk]? := by
      intro c o x k1 k0 k2
      obtain ⟨x', k3, k4⟩ := hr.obj c o k1
      rw [k2] at k3
      cases k3
      exact s7.keep x.blk k4.lt fun b o' x' h1 _ h3 => hap b o' x' c o x (heapOf_get h1) h3 k1 k0 k2
    have hcl : ∀ c o, t.get c = some o → c < nx := fun c o hc => by
      obtain ⟨x, hx, _⟩ := hr.obj c o hc
      exact hnx c x hx
    have hmix : ∀ c o x c' o' x', (heapOf rows' nx').t.get c = some o → E'.σ c = some x → t.get c' = some o' → (∀ p, (c', p) ∉ rows) → E.σ c' = some x' → x.blk ≠ x'.blk := by
      intro c o x c' o' x' h1 h2 h3 h4 h5 h6
      obtain ⟨y, k3, k4⟩ := hr.obj c' o' h3
      rw [h5] at k3
      cases k3
      have hlt := k4.lt
      rcases s7.org c o x h1 h2 with h7 | ⟨b0, o0, x0, g1, _, g3, g4⟩
      · omega
      · exact hap b0 o0 x0 c' o' x' (heapOf_get g1) g3 h3 h4 h5 (g4.trans h6)
    refine ⟨E2, w', fr', en, s1, s3.mono hle', s4, s5, ⟨?_, ?_, ?_, ?_, ?_, ?_⟩, ⟨hle, s7.os, s7.tape, s7.output, s7.size, hnn, ?_, ?_, ?_, ?_⟩⟩
    · intro c o hc
      rcases hget c o hc with h1 | ⟨h1, h2⟩
      · obtain ⟨x, hx, ho⟩ := s6.obj c o h1
        exact ⟨x, hle'.σ c x hx, ho.mono hle' rfl⟩
      · obtain ⟨x, hx, ho⟩ := hr.obj c o h1
        exact ⟨x, hle.σ _ _ hx, ho.mono hle (hold c o x h1 h2 hx)⟩
    · intro c c' o o' x x' hne hc hc' hx hx' hblk
      rcases hget c o hc with h1 | ⟨h1, h2⟩ <;> rcases hget c' o' hc' with h3 | ⟨h3, h4⟩
      · exact s6.sep c c' o o' x x' hne h1 h3 (hnew c o h1 x hx) (hnew c' o' h3 x' hx') hblk
      · rw [hlow c' (hcl c' o' h3)] at hx'
        exact absurd hblk (hmix c o x c' o' x' h1 (hnew c o h1 x hx) h3 h4 hx')
      · rw [hlow c (hcl c o h1)] at hx
        exact absurd hblk.symm (hmix c' o' x' c o x h3 (hnew c' o' h3 x' hx') h1 h2 hx)
      · rw [hlow c (hcl c o h1)] at hx
        rw [hlow c' (hcl c' o' h3)] at hx'
        exact hr.sep c c' o o' x x' hne h1 h3 hx hx' hblk
    · intro c t' m fam co pl ro hc
      rcases hget c _ hc with h1 | ⟨h1, h2⟩
      · cases lones_get hl' c _ (heapOf_get h1)
      · obtain ⟨k1, ms, k2, k3⟩ := hr.shl c t' m fam co pl ro h1
        exact ⟨Nat.lt_of_lt_of_le k1 hnn, ms, k2, k3⟩
    · intro c hc
      rw [hhigh c (Nat.le_trans hnn hc)]
      exact s6.fresh c hc
    · intro c hc
      have : 4096 ≤ nx := hr.base
      rw [hlow c (by omega)]
      exact hr.glob c hc
    · exact Nat.le_trans hr.base hnn
    · intro k hk hn
      refine s7.keep k hk fun b o x h1 h2 h3 => ?_
      obtain ⟨p, k1, k2⟩ := incl_get hi b o (heapOf_get h1)
      exact hn b p x k1 (covers_ro k2 h2) h3
    · intro c o x hc hx
      rcases hget c o hc with h1 | ⟨h1, h2⟩
      · rcases s7.org c o x h1 (hnew c o h1 x hx) with h7 | ⟨b0, o0, x0, g1, g2, g3, g4⟩
        · exact .inl h7
        · obtain ⟨p, k1, k2⟩ := incl_get hi b0 o0 (heapOf_get g1)
          exact .inr ⟨b0, p, x0, k1, fun h => covers_ro k2 (g2 h), g3, g4⟩
      · rw [hlow c (hcl c o h1)] at hx
        exact .inr ⟨c, o, x, h1, id, hx, rfl⟩
    · intro c hc x hx
      rw [hhigh c hc] at hx
      rcases Nat.lt_or_ge c nx' with h1 | h1
      · exact h1
      · have := s6.fresh c h1
        rw [this] at hx; cases hx
    · intro c hc; exact hlow c hc
end Go.Am
