/- Summaries: a function without arguments that makes one new row of plain values, at any memory. -/
import Derived.Test.YtbakjgolhekmgaaGreatDoorAmGood
namespace Go.Am

/-- values that name no memory. -/
def AV.flat (v : AV) : Bool := match v with
  | .bool _ | .int _ (.c _) | .str _ _ | .nilptr | .nilslice | .nilmap | .nilfunc | .nilface => true
  | _ => false
def Tr.flats : Tr AV → Bool
  | .leaf => true
  | .node v l r => (match v with | none => true | some a => a.flat) && (l.flats && r.flats)
/-- are these numbers known of a row that is only read? -/
noncomputable def knows (t : Tr AV) : List (Nat × Nat) → Bool
  | [] => true
  | (i, m) :: l => match t.get i with
    | some (.int .u8 (.c (.ofNat k))) => Nat.beq k m && knows t l
    | _ => false
noncomputable def rowOk (h : AH) (g n : Nat) (l : List (Nat × Nat)) : Bool := match h with
  | ⟨t, _, _⟩ => match t.get g with
    | some (.cells t m false _ _ _ true) => Nat.beq m n && knows t l
    | _ => false
noncomputable def rowT : List (Nat × Nat) → Tr AV → Tr AV
  | [], t => t
  | (i, m) :: l, t => rowT l (t.set i (.int .u8 (.c (.ofNat m))))
/-- memory that knows of one row alone. -/
noncomputable def onlyH (g n n0 : Nat) (l : List (Nat × Nat)) : AH := ⟨(Tr.leaf : Tr AO).set g (.cells (rowT l .leaf) n false 0 0 false true), .leaf, n0⟩
/-- what is said of function f: its new row, its answer. -/
noncomputable def sumOf (g n : Nat) (l : List (Nat × Nat)) (f : Nat) (t : Tr AV) (m : Nat) (pl : Bool) (len cap z : Nat) (ex : Bool) (f' : Nat) (args : List AV) (h : AH) : Option (AEnd × AH) :=
  bif Nat.beq f' f then (match args with
    | [] => bif rowOk h g n l then some (.ret (.slice h.nx 0 len cap z ex), h.mk' (.cells t m false 0 0 pl false)) else none
    | _ :: _ => none) else none

section
theorem flat_rel {E E' : Env} {a : AV} {y : Value} (hf : a.flat = true) (h : VR E a y) : VR E' a y := by
  cases a with
  | int k a => cases a with
    | c n => exact h
    | s e => cases hf
  | bool b => exact h
  | str s n => exact h
  | nilptr => exact h
  | nilslice => exact h
  | nilmap => exact h
  | nilfunc => exact h
  | nilface => exact h
  | _ => cases hf
theorem flats_get : ∀ {t : Tr AV}, t.flats = true → ∀ i v, t.get i = some v → v.flat = true
  | .leaf, _, i, v, h => by simp at h
  | .node a l r, hf, i, v, h => by
    simp only [Tr.flats, Bool.and_eq_true] at hf
    rw [Tr.get_node] at h
    split at h
    · subst h; exact hf.1
    · split at h
      · exact flats_get hf.2.2 _ _ h
      · exact flats_get hf.2.1 _ _ h
theorem get_rowT : ∀ (l : List (Nat × Nat)) (t : Tr AV) (i : Nat) (v : AV), (rowT l t).get i = some v → (∃ m, (i, m) ∈ l ∧ v = .int .u8 (.c (.ofNat m))) ∨ t.get i = some v
  | [], t, i, v, h => .inr h
  | (j, m) :: l, t, i, v, h => by
    rcases get_rowT l _ i v h with ⟨m', h1, h2⟩ | h1
    · exact .inl ⟨m', List.mem_cons_of_mem _ h1, h2⟩
    · rw [Tr.get_set] at h1
      by_cases e : i = j
      · rw [if_pos e] at h1
        cases h1
        exact .inl ⟨m, by rw [e]; exact List.mem_cons_self .., rfl⟩
      · rw [if_neg e] at h1; exact .inr h1
theorem knows_get {t : Tr AV} : ∀ {l : List (Nat × Nat)}, knows t l = true → ∀ i m, (i, m) ∈ l → t.get i = some (.int .u8 (.c (.ofNat m)))
  | [], _, i, m, h => by cases h
  | (j, k) :: l, hk, i, m, h => by
    simp only [knows] at hk
    split at hk
    · rename_i a ha
      simp only [Bool.and_eq_true] at hk
      obtain rfl := Nat.eq_of_beq_eq_true hk.1
      rcases List.mem_cons.1 h with h1 | h1
      · cases h1; exact ha
      · exact knows_get hk.2 i m h1
    · cases hk
theorem rowOk_get {h : AH} {g n : Nat} {l : List (Nat × Nat)} (hk : rowOk h g n l = true) : ∃ t fam co pl, h.t.get g = some (.cells t n false fam co pl true) ∧ knows t l = true := by
  obtain ⟨t, f, nx⟩ := h
  simp only [rowOk] at hk
  split at hk
  · rename_i t' m fam co pl hg
    simp only [Bool.and_eq_true] at hk
    obtain rfl := Nat.eq_of_beq_eq_true hk.1
    exact ⟨t', fam, co, pl, hg, hk.2⟩
  · cases hk
theorem only_get {g n n0 : Nat} {l : List (Nat × Nat)} {b : Nat} {o : AO} (h : (onlyH g n n0 l).t.get b = some o) : b = g ∧ o = .cells (rowT l .leaf) n false 0 0 false true := by
  have h : ((Tr.leaf : Tr AO).set g (.cells (rowT l .leaf) n false 0 0 false true)).get b = some o := h
  rw [Tr.get_set] at h
  by_cases e : b = g
  · rw [if_pos e] at h; cases h; exact ⟨e, rfl⟩
  · rw [if_neg e] at h; simp at h
/-- what is left where only one row is known. -/
theorem HRel.only {E : Env} {h : AH} {w : World} (hr : HRel E h w) {g n n0 : Nat} {l : List (Nat × Nat)} (hg : g < 4096) (hn0 : 4096 ≤ n0) (hk : rowOk h g n l = true) :
    HRel ⟨fun c => if c < 4096 then E.σ c else none, E.ρ⟩ (onlyH g n n0 l) w where
  obj := fun b o hb => by
    obtain ⟨rfl, rfl⟩ := only_get hb
    obtain ⟨t, fam, co, pl, h1, h2⟩ := rowOk_get hk
    obtain ⟨x, hx, c, el, fz, k1, k2, k3, k4, k5, k6⟩ := hr.obj b _ h1
    refine ⟨x, by simp only [hg, if_true]; exact hx, c, el, fz, k1, k2, k3, (fun h => by cases h), (fun h => by cases h), fun i v hi => ?_⟩
    rcases get_rowT l _ i v hi with ⟨m, q1, q2⟩ | q1
    · obtain ⟨q3, y, q4, q5⟩ := k6 i _ (knows_get h2 i m q1)
      rw [q2]
      exact ⟨q3, y, q4, q5⟩
    · simp at q1
  sep := fun b b' o o' x x' hne h1 h2 => by
    obtain ⟨rfl, _⟩ := only_get h1
    obtain ⟨rfl, _⟩ := only_get h2
    exact absurd rfl hne
  shl := fun b t m fam co pl ro hb => by
    obtain ⟨_, e⟩ := only_get hb
    cases e
  fresh := fun b hb => by
    have hb : n0 ≤ b := hb
    have : ¬ b < 4096 := by omega
    simp only [this, if_false]
  glob := fun c hc => by
    obtain ⟨r, hr⟩ := hr.glob c hc
    exact ⟨r, by simp only [hc, if_true]; exact hr⟩
  base := hn0
theorem sum_sound {P : Program} (hmix : P.follows .mixedOrders = true) (hyp : Hyp) {g n n0 : Nat} {l : List (Nat × Nat)} {f : Nat} {t : Tr AV} {m : Nat} {pl : Bool} {len cap z : Nat} {ex : Bool} {fuel b fam co : Nat} {h1 : AH}
    (hg : g < 4096) (hn0 : 4096 ≤ n0) (hf : t.flats = true)
    (hrun : callOf P [] (fun _ _ _ => none) fuel f [] (onlyH g n n0 l) = some (.ret (.slice b 0 len cap z ex), h1)) (hb : h1.t.get b = some (.cells t m false fam co pl false)) :
    CSound P hyp (sumOf g n l f t m pl len cap z ex) := by
  intro f' args h r h' hc E w ys _ hr hy base
  unfold sumOf at hc
  cases hff : Nat.beq f' f with
  | false => rw [hff] at hc; cases hc
  | true =>
    rw [hff] at hc
    obtain rfl := Nat.eq_of_beq_eq_true hff
    cases args with
    | cons a args => cases hc
    | nil =>
      simp only [cond_true] at hc
      cases hk : rowOk h g n l with
      | false => rw [hk] at hc; cases hc
      | true =>
        rw [hk] at hc
        simp only [cond_true, Option.some.injEq, Prod.mk.injEq] at hc
        obtain ⟨rfl, rfl⟩ := hc
        have hr0 := hr.only hg hn0 hk
        obtain ⟨E1, w', fr, en, s1, s2, s3, s4, s5, s6⟩ := (run_both hmix [] (none_sound (P := P)) fuel).1 f' [] _ _ h1 hrun _ w ys (fun o a b r h => by simp [Hyp.find] at h) hr0 hy base
        have hro : ∀ b o x, (onlyH g n n0 l).t.get b = some o → o.ro = false → (⟨fun c => if c < 4096 then E.σ c else none, E.ρ⟩ : Env).σ b = some x → False := by
          intro b o x k1 k2
          obtain ⟨_, rfl⟩ := only_get k1
          cases k2
        have hkeep : ∀ k, k < w.heap.size → w'.heap[k]? = w.heap[k]? := fun k hk => s6.keep k hk fun b o x k1 k2 k3 => (hro b o x k1 k2 k3).elim
        obtain ⟨xb, hxb, hob⟩ := s5.obj b _ hb
        have hnew : w.heap.size ≤ xb.blk := by
          rcases s6.org b _ xb hb hxb with h4 | ⟨b0, o0, x0, g1, g2, g3, g4⟩
          · exact h4
          · exact (hro b0 o0 x0 g1 (g2 rfl) g3).elim
        have hold : ∀ c o x, h.t.get c = some o → E.σ c = some x → x.blk < w.heap.size := by
          intro c o x k1 k2
          obtain ⟨x', k3, k4⟩ := hr.obj c o k1
          rw [k2] at k3
          cases k3
          have : ∃ bl, w.heap[x.blk]? = some bl := by
            cases o with
            | cells => obtain ⟨c, el, fz, q, _⟩ := k4; exact ⟨_, q⟩
            | map => obtain ⟨_, es, q, _⟩ := k4; exact ⟨_, q⟩
          obtain ⟨bl, hbl⟩ := this
          exact (Array.getElem?_eq_some_iff.1 hbl).1
        have hnone : ∀ c x, E.σ c = some x → c ≠ h.nx := fun c x hx e => by
          rw [hr.fresh c (by omega)] at hx; cases hx
        let E' : Env := ⟨fun c => if c = h.nx then E1.σ b else E.σ c, E.ρ⟩
        have hle : E.le E' := ⟨rfl, fun c x hx => by show (if c = h.nx then E1.σ b else E.σ c) = some x; rw [if_neg (hnone c x hx)]; exact hx⟩
        have hnx : E'.σ h.nx = some xb := by show (if h.nx = h.nx then E1.σ b else E.σ h.nx) = some xb; rw [if_pos rfl]; exact hxb
        have hne : ∀ c, c ≠ h.nx → E'.σ c = E.σ c := fun c hc => by show (if c = h.nx then E1.σ b else E.σ c) = E.σ c; rw [if_neg hc]
        have hget : ∀ c o, (h.mk' (.cells t m false 0 0 pl false)).t.get c = some o → (c = h.nx ∧ o = .cells t m false 0 0 pl false) ∨ (c ≠ h.nx ∧ h.t.get c = some o) := by
          intro c o hco
          obtain ⟨ht, hf', hn⟩ := h
          have hco : (ht.set hn (.cells t m false 0 0 pl false)).get c = some o := hco
          rw [Tr.get_set] at hco
          by_cases e : c = hn
          · rw [if_pos e] at hco; cases hco; exact .inl ⟨e, rfl⟩
          · rw [if_neg e] at hco; exact .inr ⟨e, hco⟩
        have hmnx : (h.mk' (.cells t m false 0 0 pl false)).nx = Nat.succ h.nx := by obtain ⟨ht, hf', hn⟩ := h; rfl
        have hmf : (h.mk' (.cells t m false 0 0 pl false)).f = h.f := by obtain ⟨ht, hf', hn⟩ := h; rfl
        have hobj : ∀ c o, (h.mk' (.cells t m false 0 0 pl false)).t.get c = some o → ∃ x, E'.σ c = some x ∧ ORel E' o x w' := by
          intro c o hco
          rcases hget c o hco with ⟨rfl, rfl⟩ | ⟨h2, h3⟩
          · refine ⟨xb, hnx, ?_⟩
            obtain ⟨c, el, fz, q1, q2, q3, q4, q5, q6⟩ := hob
            exact ⟨c, el, fz, q1, q2, q3, q4, q5, fun i v hi => let ⟨p1, y, p2, p3⟩ := q6 i v hi; ⟨p1, y, p2, flat_rel (flats_get hf i v hi) p3⟩⟩
          · obtain ⟨x, hx, ho⟩ := hr.obj c o h3
            have hh := hkeep x.blk (hold c o x h3 hx)
            refine ⟨x, hle.σ _ _ hx, ?_⟩
            cases o with
            | cells => obtain ⟨c, el, fz, q1, q2, q3, q4, q5, q6⟩ := ho; exact ⟨c, el, fz, hh.trans q1, q2, q3, q4, q5, fun i v hi => let ⟨p1, y, p2, p3⟩ := q6 i v hi; ⟨p1, y, p2, VR.mono hle _ _ p3⟩⟩
            | map => obtain ⟨q0, es, q1, q2⟩ := ho; exact ⟨q0, es, hh.trans q1, ERel.mono hle _ _ q2⟩
        refine ⟨E', w', fr, en, s1, ?_, s3, s4, ⟨hobj, ?_, ?_, ?_, ?_, ?_⟩, ⟨hle, s6.os, s6.tape, s6.output, s6.size, by rw [hmnx]; exact Nat.le_succ _, fun k hk _ => hkeep k hk, ?_, ?_, ?_⟩⟩
        · obtain ⟨y, e1, a, c, e2, e3, e4, e5, e6, e7⟩ := s2
          refine ⟨y, e1, a, c, e2, e3, e4, e5, e6, fun hc => ?_⟩
          obtain ⟨x, hx, q⟩ := e7 hc
          rw [hxb] at hx
          cases hx
          exact ⟨xb, hnx, q⟩
        · intro c c' o o' x x' hcc h2 h3 h4 h5 h6
          rcases hget c o h2 with ⟨rfl, rfl⟩ | ⟨k1, k2⟩ <;> rcases hget c' o' h3 with ⟨rfl, rfl⟩ | ⟨k3, k4⟩
          · exact absurd rfl hcc
          · rw [hnx] at h4; cases h4
            rw [hne c' k3] at h5
            have := hold c' o' x' k4 h5
            omega
          · rw [hnx] at h5; cases h5
            rw [hne c k1] at h4
            have := hold c o x k2 h4
            omega
          · rw [hne c k1] at h4
            rw [hne c' k3] at h5
            exact hr.sep c c' o o' x x' hcc k2 k4 h4 h5 h6
        · intro c t' n' fam' co' pl' ro' hco
          rcases hget c _ hco with ⟨_, h3⟩ | ⟨_, h3⟩
          · cases h3
          · obtain ⟨k1, ms, k2, k3⟩ := hr.shl c t' n' fam' co' pl' ro' h3
            exact ⟨by rw [hmnx]; omega, ms, by rw [hmf]; exact k2, k3⟩
        · intro c hcn
          rw [hmnx] at hcn
          rw [hne c (by omega)]
          exact hr.fresh c (by omega)
        · intro c hc4
          have := hr.base
          rw [hne c (by omega)]
          exact hr.glob c hc4
        · rw [hmnx]; exact Nat.le_trans hr.base (Nat.le_succ _)
        · intro c o x h2 h3
          rcases hget c o h2 with ⟨rfl, rfl⟩ | ⟨k1, k2⟩
          · rw [hnx] at h3; cases h3; exact .inl hnew
          · rw [hne c k1] at h3
            exact .inr ⟨c, o, x, k2, id, h3, rfl⟩
        · intro c hcn x hx
          rw [hmnx]
          by_cases e : c = h.nx
          · omega
          · rw [hne c e, hr.fresh c hcn] at hx; cases hx
        · intro c hcn
          exact hne c (by omega)
end
end Go.Am
