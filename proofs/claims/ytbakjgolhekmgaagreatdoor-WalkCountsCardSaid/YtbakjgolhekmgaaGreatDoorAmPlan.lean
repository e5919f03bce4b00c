/- What a plan of a region says. -/
import Derived.Test.YtbakjgolhekmgaaGreatDoorAmCtl
import Derived.Orders
namespace Go.Am

theorem ltIn_bit {ms : List Nat} {i j : Nat} : ltIn ms i j = true ↔ ∃ m, ms[j]? = some m ∧ m.testBit i = true := by
  unfold ltIn
  cases h : ms[j]? with
  | none => simp
  | some m =>
    simp only [Option.some.injEq, exists_eq_left']
    rw [Nat.testBit_eq_decide_div_mod_eq, decide_eq_true_iff, Nat.beq_eq]
    show (m >>> i) % 2 = 1 ↔ _
    rw [Nat.shiftRight_eq_div_pow]
theorem maskIn_spec : ∀ (es : List Edge) (ms : List Nat) (i m : Nat), maskIn es ms i = some m → ∀ k, m.testBit k = true → ∃ e ∈ es, Region.binds .any e = true ∧ e.on < i ∧ (k = e.on ∨ ltIn ms k e.on = true)
  | [], ms, i, m, h, k, hk => by
    simp only [maskIn, Option.some.injEq] at h
    subst h
    simp at hk
  | e :: es, ms, i, m, h, k, hk => by
    simp only [maskIn] at h
    cases h1 : maskIn es ms i with
    | none => rw [h1] at h; cases h
    | some m1 =>
      rw [h1] at h
      simp only at h
      have old : m1.testBit k = true → ∃ e' ∈ e :: es, Region.binds .any e' = true ∧ e'.on < i ∧ (k = e'.on ∨ ltIn ms k e'.on = true) := by
        intro hb
        obtain ⟨e', g1, g2⟩ := maskIn_spec es ms i m1 h1 k hb
        exact ⟨e', List.mem_cons_of_mem _ g1, g2⟩
      have key : Region.binds .any e = true → (bif Nat.blt e.on i then (match ms[e.on]? with
        | some x => some (Nat.lor m1 (Nat.lor (Nat.shiftLeft 1 e.on) x))
        | none => none) else none) = some m → ∃ e' ∈ e :: es, Region.binds .any e' = true ∧ e'.on < i ∧ (k = e'.on ∨ ltIn ms k e'.on = true) := by
        intro hb hc
        cases hl : Nat.blt e.on i with
        | false => rw [hl] at hc; cases hc
        | true =>
          rw [hl] at hc
          have hlt : e.on < i := Nat.le_of_ble_eq_true hl
          cases hx : ms[e.on]? with
          | none => rw [hx] at hc; cases hc
          | some x =>
            rw [hx] at hc
            simp only [cond_true, Option.some.injEq] at hc
            subst hc
            have hk' : (m1 ||| ((1 <<< e.on) ||| x)).testBit k = true := hk
            rw [Nat.testBit_or, Nat.testBit_or, Bool.or_eq_true, Bool.or_eq_true] at hk'
            rcases hk' with h2 | h2 | h2
            · exact old h2
            · rw [Nat.one_shiftLeft, Nat.testBit_two_pow] at h2
              refine ⟨e, List.mem_cons_self .., hb, hlt, .inl ?_⟩
              have := of_decide_eq_true h2
              exact this.symm
            · exact ⟨e, List.mem_cons_self .., hb, hlt, .inr (ltIn_bit.2 ⟨x, hx, h2⟩)⟩
      unfold Region.binds at key old ⊢
      split at h
      · cases h; exact old hk
      · cases h; exact old hk
      · rename_i hg1 hg2
        refine key ?_ h
        split
        · rename_i s hg; exact absurd hg (hg1 s)
        · rename_i s hg; exact absurd hg (hg2 s)
        · rfl
theorem masksIn_spec : ∀ (os : List Oper) (ms0 ms : List Nat) (i : Nat), masksIn os ms0 i = some ms → i = ms0.length →
    ms.take i = ms0 ∧ ms.length = i + os.length ∧ ∀ k o, os[k]? = some o → ∃ m, ms[i + k]? = some m ∧ maskIn o.after.toList (ms.take (i + k)) (i + k) = some m
  | [], ms0, ms, i, h, hi => by
    simp only [masksIn, Option.some.injEq] at h
    subst h hi
    exact ⟨List.take_length, by simp, fun k o ho => by simp at ho⟩
  | o :: os, ms0, ms, i, h, hi => by
    simp only [masksIn] at h
    cases h1 : maskIn o.after.toList ms0 i with
    | none => rw [h1] at h; cases h
    | some m =>
      rw [h1] at h
      obtain ⟨g1, g2, g3⟩ := masksIn_spec os (ms0 ++ [m]) ms (Nat.succ i) h (by simp [hi])
      have ht : ms.take i = ms0 := by
        have := congrArg (List.take i) g1
        rw [List.take_take, Nat.min_eq_left (Nat.le_succ i)] at this
        rw [this, List.take_append_of_le_length (by omega), hi, List.take_length]
      refine ⟨ht, by rw [g2, List.length_cons]; omega, fun k o' ho => ?_⟩
      cases k with
      | zero =>
        simp only [List.getElem?_cons_zero, Option.some.injEq] at ho
        subst ho
        refine ⟨m, ?_, by rw [Nat.add_zero, ht]; exact h1⟩
        have h2 : (ms.take (Nat.succ i))[i]? = some m := by
          rw [g1, List.getElem?_append_right (by omega), hi]
          simp
        rw [List.getElem?_take, if_pos (Nat.lt_succ_self i)] at h2
        exact h2
      | succ k =>
        simp only [List.getElem?_cons_succ] at ho
        have := g3 k o' ho
        rw [show Nat.succ i + k = i + (k + 1) by omega] at this
        exact this

theorem unOf_mem (f : Kind → Bool) (ms : List Nat) (i : Nat) : ∀ (l : List CO) (j0 k : Nat) (c : CO), l[k]? = some c → j0 + k < i → f (kindOf c.op) = true → ltIn ms (j0 + k) i = true ∨ j0 + k ∈ unOf f ms i l j0
  | [], _, _, _, h, _, _ => by simp at h
  | c :: l, j0, 0, c', h, hlt, hf => by
    simp only [List.getElem?_cons_zero, Option.some.injEq] at h
    subst h
    simp only [Nat.add_zero] at hlt ⊢
    cases hl : ltIn ms j0 i with
    | true => exact .inl rfl
    | false =>
      refine .inr ?_
      simp only [unOf]
      rw [show Nat.blt j0 i = true from Nat.ble_eq_true_of_le hlt, hf, hl]
      exact List.mem_cons_self ..
  | c :: l, j0, k + 1, c', h, hlt, hf => by
    simp only [List.getElem?_cons_succ] at h
    rcases unOf_mem f ms i l (Nat.succ j0) k c' h (by omega) hf with h1 | h1
    · exact .inl (by rw [show j0 + (k + 1) = Nat.succ j0 + k by omega]; exact h1)
    · refine .inr ?_
      rw [show j0 + (k + 1) = Nat.succ j0 + k by omega]
      simp only [unOf]
      cases (Nat.blt j0 i && (f (kindOf c.op) && !(ltIn ms j0 i))) with
      | true => exact List.mem_cons_of_mem _ h1
      | false => exact h1
theorem lastsOk_spec (ms : List Nat) (i : Nat) : ∀ (n j : Nat), lastsOk ms i j n = true → ∀ k, j ≤ k → k < j + n → ltIn ms i k = true
  | 0, j, _, k, h1, h2 => by omega
  | n + 1, j, h, k, h1, h2 => by
    simp only [lastsOk, Bool.and_eq_true] at h
    by_cases e : k = j
    · subst e; exact h.1
    · exact lastsOk_spec ms i n (Nat.succ j) h.2 k (by omega) (by omega)
theorem allSome_spec : ∀ (l : List (Option CO)) (m : List CO), allSome l = some m → l = m.map some
  | [], m, h => by simp only [allSome, Option.some.injEq] at h; subst h; rfl
  | c :: l, m, h => by
    simp only [allSome] at h
    cases c with
    | none => cases h
    | some c =>
      simp only at h
      cases h1 : allSome l with
      | none => rw [h1] at h; cases h
      | some m' => rw [h1] at h; cases h; simp [allSome_spec l m' h1]
theorem plansIn_spec (ops : List Oper) (ms : List Nat) (total : Nat) (cos : List CO) : ∀ (l : List CO) (i : Nat) (ps : List Pl), plansIn ops ms total cos l i = some ps → ps.length = l.length ∧ ∀ k c, l[k]? = some c → ∃ p, ps[k]? = some p ∧ planOne ops ms total cos c (i + k) = some p
  | [], i, ps, h => by simp only [plansIn, Option.some.injEq] at h; subst h; exact ⟨rfl, fun k c hc => by simp at hc⟩
  | c :: l, i, ps, h => by
    simp only [plansIn] at h
    cases h1 : planOne ops ms total cos c i with
    | none => rw [h1] at h; cases h
    | some p =>
      rw [h1] at h
      simp only at h
      cases h2 : plansIn ops ms total cos l (Nat.succ i) with
      | none => rw [h2] at h; cases h
      | some ps' =>
        rw [h2] at h
        cases h
        obtain ⟨g1, g2⟩ := plansIn_spec ops ms total cos l (Nat.succ i) ps' h2
        refine ⟨by simp [g1], fun k c' hc => ?_⟩
        cases k with
        | zero => simp only [List.getElem?_cons_zero, Option.some.injEq] at hc; subst hc; exact ⟨p, rfl, h1⟩
        | succ k =>
          simp only [List.getElem?_cons_succ] at hc ⊢
          obtain ⟨p', q1, q2⟩ := g2 k c' hc
          exact ⟨p', q1, by rw [show i + (k + 1) = Nat.succ i + k by omega]; exact q2⟩
theorem slotsOk_spec (ops : List Oper) (ms : List Nat) (all : List (Oper × Nat)) : ∀ (l : List (Oper × Nat)), slotsOk ops ms all l = true → ∀ o i, (o, i) ∈ l → ∀ d, o.dst = some d → ∀ o' j, (o', j) ∈ all → j ≠ i → o'.dst ≠ some d ∧ (d ∈ namesIn ops o' → ltIn ms i j = true ∨ ltIn ms j i = true)
  | [], _, o, i, hm, _, _, _, _, _, _ => by cases hm
  | (o1, i1) :: l, h, o, i, hm, d, hd, o', j, hj, hne => by
    simp only [slotsOk, Bool.and_eq_true] at h
    rcases List.mem_cons.1 hm with e | hm
    · cases e
      have h1 := h.1
      rw [hd] at h1
      simp only [List.all_eq_true] at h1
      have h2 := h1 (o', j) hj
      simp only [Bool.or_eq_true, Bool.and_eq_true, Bool.not_eq_true', Nat.beq_eq] at h2
      rcases h2 with h2 | ⟨h2, h3⟩
      · exact absurd h2 hne
      · refine ⟨fun e => ?_, fun hn => ?_⟩
        · rw [e] at h2; simp at h2
        · rcases h3 with h3 | h3
          · rw [List.contains_eq_mem, decide_eq_false_iff_not] at h3; exact absurd hn h3
          · exact h3
    · exact slotsOk_spec ops ms all l h.2 o i hm d hd o' j hj hne

structure PFacts (P : Program) (nt : Nat) (ops : Array Oper) (ms : List Nat) (ps : List Pl) : Prop where
  len : ps.length = ops.size
  pre : ∀ j o, ops[j]? = some o → ∀ k, ltIn ms k j = true → ∃ e ∈ o.after, Region.binds .any e = true ∧ e.on < j ∧ (k = e.on ∨ ltIn ms k e.on = true)
  edge : ∀ j o, ops[j]? = some o → ∀ e ∈ o.after, Region.binds .any e = true → e.on < j
  slots : ∀ i j o o' d, ops[i]? = some o → ops[j]? = some o' → o.dst = some d → j ≠ i → o'.dst ≠ some d ∧ (d ∈ namesIn ops.toList o' → ltIn ms i j = true ∨ ltIn ms j i = true)
  at_ : ∀ i (p : Pl), ps[i]? = some p → p.i = i ∧ ∃ o, ops[i]? = some o ∧ CSpec P nt ops.toList o p.co ∧ p.k = kindOf p.co.op ∧ (covered (namesIn ops.toList o) (axs p.co.op) = true ∧ coveredG (namesIn ops.toList o) p.co.guard = true) ∧ (p.k = .a → isAl o.op = true)
  w : ∀ i (p : Pl), ps[i]? = some p → p.k = .w → (∀ j (pj : Pl), j < i → ps[j]? = some pj → pj.k ≠ .r → ltIn ms j i = true) ∧
    (∀ j (pj : Pl), j < i → ps[j]? = some pj → pj.k = .r → ltIn ms j i = true ∨ (j ∈ p.un ∧ ∀ d, dstOf ops.toList j = some d → d ∈ p.fg)) ∧ (p.last = true → ∀ j, i < j → j < ops.size → ltIn ms i j = true)
  r : ∀ i (p : Pl), ps[i]? = some p → p.k = .r → ∀ j (pj : Pl), j < i → ps[j]? = some pj → pj.k = .w → ltIn ms j i = true ∨ j ∈ p.un
theorem maskIn_edge : ∀ (es : List Edge) (ms : List Nat) (i m : Nat), maskIn es ms i = some m → ∀ e ∈ es, Region.binds .any e = true → e.on < i
  | [], _, _, _, _, e, he, _ => by cases he
  | e0 :: es, ms, i, m, h, e, he, hb => by
    simp only [maskIn] at h
    cases h1 : maskIn es ms i with
    | none => rw [h1] at h; cases h
    | some m1 =>
      rw [h1] at h
      rcases List.mem_cons.1 he with rfl | he
      · unfold Region.binds at hb
        simp only at h
        split at h
        · rename_i s hg; rw [hg] at hb; cases hb
        · rename_i s hg; rw [hg] at hb; cases hb
        · cases hl : Nat.blt e.on i with
          | false => rw [hl] at h; cases h
          | true => exact Nat.le_of_ble_eq_true hl
      · exact maskIn_edge es ms i m1 h1 e he hb

theorem planOne_spec {ops : List Oper} {ms : List Nat} {total : Nat} {cos : List CO} {c : CO} {i : Nat} {p : Pl} (h : planOne ops ms total cos c i = some p) :
    p.i = i ∧ p.co = c ∧ p.k = kindOf c.op ∧ (∃ o, ops[i]? = some o ∧ (covered (namesIn ops o) (axs c.op) = true ∧ coveredG (namesIn ops o) c.guard = true) ∧ (kindOf c.op = .a → isAl o.op = true)) ∧
    (p.k = .w → unOf notR ms i cos 0 = [] ∧ p.un = unOf isR ms i cos 0 ∧ p.last = lastsOk ms i (Nat.succ i) (Nat.sub total (Nat.succ i)) ∧ p.fg = p.un.filterMap (dstOf ops)) ∧ (p.k = .r → p.un = unOf isW ms i cos 0) := by
  unfold planOne at h
  cases ho : ops[i]? with
  | none => rw [ho] at h; cases h
  | some o =>
    rw [ho] at h
    simp only at h
    cases hc : ((covered (namesIn ops o) (axs c.op) && coveredG (namesIn ops o) c.guard) && (isAl o.op || notA (kindOf c.op))) with
    | false => rw [hc] at h; cases h
    | true =>
      rw [hc] at h
      simp only [cond_true] at h
      rw [Bool.and_eq_true, Bool.and_eq_true] at hc
      have hal : kindOf c.op = .a → isAl o.op = true := by
        intro e
        have := hc.2
        rw [e] at this
        simpa [notA] using this
      have hc := hc.1
      cases hk : kindOf c.op with
      | r =>
        rw [hk] at h
        cases h
        exact ⟨rfl, rfl, rfl, ⟨o, rfl, hc, fun e => hal (hk.trans e)⟩, fun e => (by cases e), fun _ => rfl⟩
      | a =>
        rw [hk] at h
        cases h
        exact ⟨rfl, rfl, rfl, ⟨o, rfl, hc, fun e => hal (hk.trans e)⟩, fun e => (by cases e), fun e => (by cases e)⟩
      | w =>
        rw [hk] at h
        simp only at h
        cases hu : unOf notR ms i cos 0 with
        | cons => rw [hu] at h; cases h
        | nil =>
          rw [hu] at h
          cases h
          exact ⟨rfl, rfl, rfl, ⟨o, rfl, hc, fun e => hal (hk.trans e)⟩, fun _ => ⟨rfl, rfl, rfl, rfl⟩, fun e => (by cases e)⟩

theorem plan_facts {P : Program} {nt : Nat} {ops : Array Oper} {ps : List Pl} (h : planOf P nt ops = some ps) : ∃ ms, PFacts P nt ops ms ps := by
  unfold planOf at h
  cases h1 : masksIn ops.toList [] 0 with
  | none => rw [h1] at h; cases h
  | some ms =>
    rw [h1] at h
    simp only at h
    cases h2 : slotsOk ops.toList ms ops.toList.zipIdx ops.toList.zipIdx with
    | false => rw [h2] at h; cases h
    | true =>
      rw [h2] at h
      simp only [cond_true] at h
      cases h3 : allSome (copers P nt ops.toList ops.toList) with
      | none => rw [h3] at h; cases h
      | some cos =>
        rw [h3] at h
        simp only at h
        have hcos := allSome_spec _ _ h3
        have hlen : cos.length = ops.size := by
          have := congrArg List.length hcos
          rw [length_copers, List.length_map] at this
          rw [← this]; exact Array.length_toList
        obtain ⟨g1, g2⟩ := plansIn_spec _ _ _ _ _ _ _ h
        obtain ⟨m1, m2, m3⟩ := masksIn_spec _ _ _ _ h1 rfl
        simp only [Nat.zero_add] at m2 m3 g2
        have hpc : ∀ (i : Nat) (p : Pl), ps[i]? = some p → ∃ c, cos[i]? = some c ∧ planOne ops.toList ms ops.toList.length cos c i = some p := by
          intro i p hp
          have hlt := (List.getElem?_eq_some_iff.1 hp).1
          rw [g1] at hlt
          have hc : cos[i]? = some cos[i] := List.getElem?_eq_getElem hlt
          obtain ⟨p', q1, q2⟩ := g2 i _ hc
          rw [hp] at q1
          cases q1
          exact ⟨_, hc, q2⟩
        have hco : ∀ (i : Nat) (c : CO), cos[i]? = some c → ∃ o, ops[i]? = some o ∧ coper P nt ops.toList o = some c := by
          intro i c hc
          have : (cos.map some)[i]? = some (some c) := by rw [List.getElem?_map, hc]; rfl
          rw [← hcos, copers_get] at this
          cases ho : ops.toList[i]? with
          | none => rw [ho] at this; cases this
          | some o =>
            rw [ho] at this
            exact ⟨o, by rw [← Array.getElem?_toList]; exact ho, Option.some.inj this⟩
        have hkd : ∀ (j : Nat) (pj : Pl), ps[j]? = some pj → ∃ c : CO, cos[j]? = some c ∧ pj.k = kindOf c.op := by
          intro j pj hj
          obtain ⟨c, q1, q2⟩ := hpc j pj hj
          exact ⟨c, q1, (planOne_spec q2).2.2.1⟩
        refine ⟨ms, ⟨by rw [g1, hlen], ?_, ?_, ?_, ?_, ?_, ?_⟩⟩
        · intro j o ho k hk
          obtain ⟨m, q1, q2⟩ := m3 j o (by rw [Array.getElem?_toList]; exact ho)
          obtain ⟨m', q3, q4⟩ := ltIn_bit.1 hk
          rw [q1] at q3
          cases q3
          obtain ⟨e, e1, e2, e3, e4⟩ := maskIn_spec _ _ _ _ q2 k q4
          refine ⟨e, Array.mem_toList_iff.1 e1, e2, e3, e4.imp_right fun h5 => ?_⟩
          obtain ⟨x, x1, x2⟩ := ltIn_bit.1 h5
          rw [List.getElem?_take, if_pos e3] at x1
          exact ltIn_bit.2 ⟨x, x1, x2⟩
        · intro j o ho e he hb
          obtain ⟨m, q1, q2⟩ := m3 j o (by rw [Array.getElem?_toList]; exact ho)
          exact maskIn_edge _ _ _ _ q2 e (Array.mem_toList_iff.2 he) hb
        · intro i j o o' d hi hj hd hne
          refine slotsOk_spec _ _ _ _ h2 o i ?_ d hd o' j ?_ hne
          · rw [List.mem_zipIdx_iff_getElem?, Array.getElem?_toList]; exact hi
          · rw [List.mem_zipIdx_iff_getElem?, Array.getElem?_toList]; exact hj
        · intro i p hp
          obtain ⟨c, q1, q2⟩ := hpc i p hp
          obtain ⟨s1, s2, s3, ⟨o, s4, s5, s6⟩, _⟩ := planOne_spec q2
          obtain ⟨o', o1, o2⟩ := hco i c q1
          rw [Array.getElem?_toList, o1] at s4
          cases s4
          subst s2
          exact ⟨s1, o, o1, coper_spec o2, s3, s5, fun e => s6 (s3 ▸ e)⟩
        · intro i p hp hk
          obtain ⟨c, q1, q2⟩ := hpc i p hp
          obtain ⟨s1, s2, s3, _, s5, _⟩ := planOne_spec q2
          obtain ⟨u1, u2, u3, u4⟩ := s5 hk
          refine ⟨fun j pj hj hpj hne => ?_, fun j pj hj hpj hr => ?_, fun hl j h4 h5 => ?_⟩
          · obtain ⟨cj, c1, c2⟩ := hkd j pj hpj
            rcases unOf_mem notR ms i cos 0 j cj c1 (by omega) (by rw [← c2]; cases hq : pj.k <;> first | rfl | exact absurd hq hne) with h6 | h6
            · rwa [Nat.zero_add] at h6
            · rw [u1] at h6; cases h6
          · obtain ⟨cj, c1, c2⟩ := hkd j pj hpj
            rcases unOf_mem isR ms i cos 0 j cj c1 (by omega) (by rw [← c2, hr]; rfl) with h6 | h6
            · rw [Nat.zero_add] at h6; exact .inl h6
            · rw [Nat.zero_add, ← u2] at h6
              exact .inr ⟨h6, fun d hd => by rw [u4]; exact List.mem_filterMap.2 ⟨j, h6, hd⟩⟩
          · rw [u3] at hl
            have hsz : ops.toList.length = ops.size := Array.length_toList
            exact lastsOk_spec ms i _ _ hl j h4 (by show j < Nat.succ i + (ops.toList.length - Nat.succ i); omega)
        · intro i p hp hk j pj hj hpj hw
          obtain ⟨c, q1, q2⟩ := hpc i p hp
          obtain ⟨s1, s2, s3, _, _, s6⟩ := planOne_spec q2
          obtain ⟨cj, c1, c2⟩ := hkd j pj hpj
          rcases unOf_mem isW ms i cos 0 j cj c1 (by omega) (by rw [← c2, hw]; rfl) with h6 | h6
          · rw [Nat.zero_add] at h6; exact .inl h6
          · rw [Nat.zero_add, ← s6 hk] at h6; exact .inr h6

theorem PFacts.lt {P : Program} {nt : Nat} {ops : Array Oper} {ms : List Nat} {ps : List Pl} (h : PFacts P nt ops ms ps) : ∀ j i, j < ops.size → ltIn ms i j = true → i < j := by
  intro j
  induction j using Nat.strongRecOn with
  | ind j ih =>
    intro i hj hij
    obtain ⟨e, e1, e2, e3, e4⟩ := h.pre j _ (Array.getElem?_eq_getElem hj) i hij
    rcases e4 with rfl | e4
    · exact e3
    · exact Nat.lt_trans (ih e.on e3 i (Nat.lt_trans e3 hj) e4) e3
end Go.Am
