/- Parts for regions whose order is open: operands, new rows under kept names, readings. -/
import Derived.Test.YtbakjgolhekmgaaGreatDoorAmPlan
namespace Go.Am

/- operands -/
noncomputable def restr (tm : Tr AV) : List Nat → Tr AV
  | [] => .leaf
  | t :: l => (restr tm l).put t (tm.get t)
theorem get_restr (tm : Tr AV) : ∀ (l : List Nat) (s : Nat), (restr tm l).get s = if s ∈ l then tm.get s else none
  | [], s => by simp [restr]
  | t :: l, s => by
    simp only [restr, Tr.get_put, get_restr tm l s, List.mem_cons]
    by_cases e : s = t
    · subst e; simp
    · simp [e]
theorem covered_spec {tm tm' : Tr AV} {names : List Nat} (hn : ∀ t ∈ names, tm'.get t = tm.get t) : ∀ {l : List AX}, covered names l = true → ∀ x ∈ l, ev tm' x = ev tm x
  | [], _, x, hx => by cases hx
  | y :: l, h, x, hx => by
    simp only [covered, Bool.and_eq_true] at h
    rcases List.mem_cons.1 hx with rfl | hx
    · cases x with
      | v a => rfl
      | t p =>
        have h1 := h.1
        simp only [List.any_eq_true, decide_eq_true_eq] at h1
        obtain ⟨t, ht, rfl⟩ := h1
        simp only [ev, Tr.getP_pathOf, hn t ht]
    · exact covered_spec hn h.2 x hx
theorem evs_cong {tm tm' : Tr AV} : ∀ {l : List AX}, (∀ x ∈ l, ev tm' x = ev tm x) → evs tm' l = evs tm l
  | [], _ => rfl
  | x :: l, h => by simp only [evs, h x (List.mem_cons_self ..), evs_cong fun y hy => h y (List.mem_cons_of_mem _ hy)]
theorem evps_cong {tm tm' : Tr AV} : ∀ {l : List (Nat × Nat × AX)}, (∀ x ∈ axsP l, ev tm' x = ev tm x) → evps tm' l = evps tm l
  | [], _ => rfl
  | (a, b, x) :: l, h => by simp only [evps, h x (List.mem_cons_self ..), evps_cong fun y hy => h y (List.mem_cons_of_mem _ hy)]
theorem optNat_cong {tm tm' : Tr AV} {x : Option AX} (h : ∀ y ∈ axsO x, ev tm' y = ev tm y) (d : Nat) : optNat tm' x d = optNat tm x d := by
  cases x with
  | none => rfl
  | some x => simp only [optNat, h x (List.mem_cons_self ..)]
theorem bounds_cong {tm tm' : Tr AV} {lo hi mx : Option AX} (h1 : ∀ y ∈ axsO lo, ev tm' y = ev tm y) (h2 : ∀ y ∈ axsO hi, ev tm' y = ev tm y) (h3 : ∀ y ∈ axsO mx, ev tm' y = ev tm y) (len cap : Nat) : bounds tm' len cap lo hi mx = bounds tm len cap lo hi mx := by
  simp only [bounds, optNat_cong h1, optNat_cong h2, optNat_cong h3]
theorem xop_cong (P : Program) (hyp : Hyp) {tm tm' : Tr AV} (h : AH) (a : AO') (hc : ∀ x ∈ axs a, ev tm' x = ev tm x) : xop P hyp tm' h a = xop P hyp tm h a := by
  cases a
  case bd zs ps => simp only [xop, evps_cong (l := ps) hc]
  case bs z len zs ps => simp only [xop, evps_cong (l := ps) hc]
  case mf fn a b => simp only [xop, evs_cong (l := a) fun x hx => hc x (List.mem_append_left _ hx), evs_cong (l := b) fun x hx => hc x (List.mem_append_right _ hx)]
  case sa n z x lo hi mx =>
    have q1 := hc x (List.mem_cons_self ..)
    simp only [xop, q1, bounds_cong (lo := lo) (hi := hi) (mx := mx) (fun y hy => hc y (by simp [axs, hy])) (fun y hy => hc y (by simp [axs, hy])) (fun y hy => hc y (by simp [axs, hy]))]
  case sl z x lo hi mx =>
    have q1 := hc x (List.mem_cons_self ..)
    simp only [xop, q1, bounds_cong (lo := lo) (hi := hi) (mx := mx) (fun y hy => hc y (by simp [axs, hy])) (fun y hy => hc y (by simp [axs, hy])) (fun y hy => hc y (by simp [axs, hy]))]
  case ss x lo hi =>
    have q1 := hc x (List.mem_cons_self ..)
    simp only [xop, q1, bounds_cong (lo := lo) (hi := hi) (mx := none) (fun y hy => hc y (by simp [axs, hy])) (fun y hy => hc y (by simp [axs, hy])) (fun y hy => by cases hy)]
  case cl f l =>
    have q1 := hc f (List.mem_cons_self ..)
    simp only [xop, q1, evs_cong (l := l) fun x hx => hc x (List.mem_cons_of_mem _ hx)]
  case df f l =>
    have q1 := hc f (List.mem_cons_self ..)
    simp only [xop, q1, evs_cong (l := l) fun x hx => hc x (List.mem_cons_of_mem _ hx)]
  case mn x l =>
    have q1 := hc x (List.mem_cons_self ..)
    simp only [xop, q1, evs_cong (l := l) fun x hx => hc x (List.mem_cons_of_mem _ hx)]
  case mx x l =>
    have q1 := hc x (List.mem_cons_self ..)
    simp only [xop, q1, evs_cong (l := l) fun x hx => hc x (List.mem_cons_of_mem _ hx)]
  case pk a b c =>
    have q1 := hc a (by simp [axs])
    have q2 := hc b (by simp [axs])
    have q3 := hc c (by simp [axs])
    simp only [xop, q1, q2, q3]
  case up st a b c =>
    have q1 := hc a (by simp [axs])
    have q2 := hc b (by simp [axs])
    have q3 := hc c (by simp [axs])
    simp only [xop, q1, q2, q3]
  all_goals first
    | rfl
    | (rename_i x; have q1 := hc x (by simp [axs]); simp only [xop, q1]; done)
    | (rename_i x y; have q1 := hc x (by simp [axs]); have q2 := hc y (by simp [axs]); simp only [xop, q1, q2]; done)
    | (rename_i x y _; have q1 := hc x (by simp [axs]); have q2 := hc y (by simp [axs]); simp only [xop, q1, q2]; done)
    | (rename_i x _; have q1 := hc x (by simp [axs]); simp only [xop, q1]; done)

/- readings keep memory -/
theorem orV_keeps {v : Option AV} {h : AH} {x : AV} {h' : AH} (e : orV v h = .v x h') : h' = h := by
  cases v with
  | none => cases e
  | some v => cases e; rfl
theorem r_keeps {P : Program} {hyp : Hyp} {tm : Tr AV} {h h' : AH} {a : AO'} {v : AV} (hk : kindOf a = .r) (hx : xop P hyp tm h a = .v v h') : h' = h := by
  cases a <;> simp only [kindOf, reduceCtorEq] at hk <;> simp only [xop, cond_eq_ite] at hx <;> (repeat' split at hx) <;> first
    | exact orV_keeps hx
    | (cases hx; rfl)
    | (cases hx; done)

/- memory under names that are kept -/
section
variable {E : Env} {h : AH} {w w' : World}
theorem HRel.bump (hr : HRel E h w) (n : Nat) : HRel E ⟨h.t, h.f, h.nx + n⟩ w where
  obj := hr.obj
  sep := hr.sep
  shl := fun b t n fam co pl ro hb => ⟨Nat.lt_of_lt_of_le (hr.shl b t n fam co pl ro hb).1 (Nat.le_add_right _ _), (hr.shl b t n fam co pl ro hb).2⟩
  fresh := fun b hb => hr.fresh b (Nat.le_trans (Nat.le_add_right _ _) hb)
  glob := hr.glob
  base := Nat.le_trans hr.base (Nat.le_add_right _ _)
theorem Ext.bump (hr : HRel E h w) (n : Nat) : Ext E h w E ⟨h.t, h.f, h.nx + n⟩ w :=
  ⟨.refl E, rfl, rfl, rfl, Nat.le_refl _, Nat.le_add_right _ _, fun _ _ _ => rfl, fun b o x h1 h3 => .inr ⟨b, o, x, h1, id, h3, rfl⟩, fun b hb x hx => (by rw [hr.fresh b hb] at hx; cases hx), fun _ _ => rfl⟩
theorem HRel.name (hr : HRel E h w) {N : Nat} (hN : N < h.nx) (hs : E.σ N = none) (x : Slot) (hw : ∀ k, k < w.heap.size → w'.heap[k]? = w.heap[k]?) : HRel (E.with N x) h w' := by
  have hle := Env.le_with x hs
  have hne : ∀ b y, E.σ b = some y → b ≠ N := by intro b y hy e; subst e; rw [hs] at hy; cases hy
  have back : ∀ b o, h.t.get b = some o → b ≠ N := fun b o hb => let ⟨y, hy, _⟩ := hr.obj b o hb; hne b y hy
  refine ⟨fun b o hb => ?_, fun b b' o o' y y' h1 h2 h3 h4 h5 h6 => ?_, hr.shl, fun b hb => ?_, fun g hg => ?_, hr.base⟩
  · obtain ⟨y, hy, hyr⟩ := hr.obj b o hb
    exact ⟨y, hle.σ _ _ hy, hyr.mono hle (hw _ hyr.lt)⟩
  · rw [Env.with_other _ _ (back b o h2)] at h4
    rw [Env.with_other _ _ (back b' o' h3)] at h5
    exact hr.sep b b' o o' y y' h1 h2 h3 h4 h5 h6
  · rw [Env.with_other _ _ (by omega)]; exact hr.fresh b hb
  · obtain ⟨r, hr'⟩ := hr.glob g hg
    exact ⟨r, hle.σ _ _ hr'⟩
theorem get_over (h : AH) (b : Nat) (o : AO) (k : Nat) : (h.over b o).t.get k = if k = b then some o else h.t.get k := by cases h; exact Tr.get_set _ _ _ _
theorem over_f (h : AH) (b : Nat) (o : AO) : (h.over b o).f = h.f := by cases h; rfl
theorem over_nx (h : AH) (b : Nat) (o : AO) : (h.over b o).nx = h.nx := by cases h; rfl
def AO.alone (o : AO) : Prop := ∀ t n fam co pl ro, o ≠ .cells t n true fam co pl ro
theorem HRel.put1 (hr : HRel E h w) {N : Nat} {o : AO} {x : Slot} (hx : E.σ N = some x) (ho : ORel E o x w) (hal : o.alone) (hd : ∀ b o' y, h.t.get b = some o' → E.σ b = some y → y.blk ≠ x.blk) : HRel E (h.over N o) w := by
  have hno : h.t.get N = none := by
    cases hg : h.t.get N with
    | none => rfl
    | some o' => exact absurd rfl (hd N o' x hg hx)
  refine ⟨fun b o' hb => ?_, fun b b' o1 o2 y y' h1 h2 h3 h4 h5 h6 => ?_, fun b t n fam co pl ro hb => ?_, fun b hb => ?_, hr.glob, by rw [over_nx]; exact hr.base⟩
  · rw [get_over] at hb
    by_cases e : b = N
    · rw [if_pos e] at hb
      cases hb
      exact ⟨x, by rw [e]; exact hx, ho⟩
    · rw [if_neg e] at hb; exact hr.obj b o' hb
  · rw [get_over] at h2 h3
    by_cases e : b = N
    · by_cases e' : b' = N
      · exact absurd (e.trans e'.symm) h1
      · rw [if_neg e'] at h3
        rw [e, hx] at h4
        cases h4
        exact absurd h6.symm (hd b' o2 y' h3 h5)
    · rw [if_neg e] at h2
      by_cases e' : b' = N
      · rw [e', hx] at h5
        cases h5
        exact absurd h6 (hd b o1 y h2 h4)
      · rw [if_neg e'] at h3
        exact hr.sep b b' o1 o2 y y' h1 h2 h3 h4 h5 h6
  · rw [get_over] at hb
    rw [over_f, over_nx]
    by_cases e : b = N
    · rw [if_pos e] at hb
      exact absurd (Option.some.inj hb) (hal t n fam co pl ro)
    · rw [if_neg e] at hb
      exact hr.shl b t n fam co pl ro hb
  · rw [over_nx] at hb; exact hr.fresh b hb
theorem AV.same_eq : True := trivial
mutual
theorem same_eq : ∀ (a b : AV), AV.same a b = true → a = b
  | .bot, b, h => by cases b <;> simp only [AV.same, reduceCtorEq] at h; rfl
  | .bool x, b, h => by cases b <;> simp only [AV.same, reduceCtorEq, beq_iff_eq] at h; rw [h]
  | .int k x, b, h => by cases b <;> simp only [AV.same, reduceCtorEq, Bool.and_eq_true, decide_eq_true_eq] at h; rw [h.1, h.2]
  | .str s n, b, h => by
    cases b <;> simp only [AV.same, reduceCtorEq, Bool.and_eq_true] at h
    rw [Nat.eq_of_beq_eq_true h.1, Nat.eq_of_beq_eq_true h.2]
  | .nilptr, b, h => by cases b <;> simp only [AV.same, reduceCtorEq] at h; rfl
  | .ptr x y, b, h => by
    cases b <;> simp only [AV.same, reduceCtorEq, Bool.and_eq_true] at h
    rw [Nat.eq_of_beq_eq_true h.1, Nat.eq_of_beq_eq_true h.2]
  | .nilslice, b, h => by cases b <;> simp only [AV.same, reduceCtorEq] at h; rfl
  | .slice b o l c z e, b', h => by
    cases b' <;> simp only [AV.same, reduceCtorEq, Bool.and_eq_true] at h
    obtain ⟨h1, h2, h3, h4, h5, h6⟩ := h
    rw [Nat.eq_of_beq_eq_true h1, Nat.eq_of_beq_eq_true h2, Nat.eq_of_beq_eq_true h3, Nat.eq_of_beq_eq_true h4, Nat.eq_of_beq_eq_true h5, eq_of_beq h6]
  | .nilmap, b, h => by cases b <;> simp only [AV.same, reduceCtorEq] at h; rfl
  | .map x, b, h => by
    cases b <;> simp only [AV.same, reduceCtorEq] at h
    rw [Nat.eq_of_beq_eq_true h]
  | .func fn a c, b, h => by
    cases b <;> simp only [AV.same, reduceCtorEq, Bool.and_eq_true, decide_eq_true_eq] at h
    rw [h.1, sames_eq _ _ h.2.1, sames_eq _ _ h.2.2]
  | .nilfunc, b, h => by cases b <;> simp only [AV.same, reduceCtorEq] at h; rfl
  | .iface t v, b, h => by
    cases b <;> simp only [AV.same, reduceCtorEq, Bool.and_eq_true] at h
    rw [Nat.eq_of_beq_eq_true h.1, same_eq _ _ h.2]
  | .nilface, b, h => by cases b <;> simp only [AV.same, reduceCtorEq] at h; rfl
  | .agg a, b, h => by
    cases b <;> simp only [AV.same, reduceCtorEq] at h
    rw [sames_eq _ _ h]
  | .tup a, b, h => by
    cases b <;> simp only [AV.same, reduceCtorEq] at h
    rw [sames_eq _ _ h]
theorem sames_eq : ∀ (a b : List AV), AV.sames a b = true → a = b
  | [], b, h => by cases b <;> simp only [AV.sames, reduceCtorEq] at h; rfl
  | x :: l, b, h => by
    cases b <;> simp only [AV.sames, reduceCtorEq, Bool.and_eq_true] at h
    rw [same_eq _ _ h.1, sames_eq _ _ h.2]
end
end
end Go.Am
