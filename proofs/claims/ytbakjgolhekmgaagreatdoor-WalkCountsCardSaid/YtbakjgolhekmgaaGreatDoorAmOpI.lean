/- All operations. -/
import Derived.Test.YtbakjgolhekmgaaGreatDoorAmOpH
namespace Go.Am

section
variable {P : Program} {E : Env} {h : AH} {w : World} {hyp : Hyp} {tm : Tr AV} {a : Act} {o : Oper}
theorem bif_some {b : Bool} {x y : Option AO'} {z : AO'} (h : (bif b then x else y) = some z) (hy : y = none) : b = true ∧ x = some z := by
  cases b with
  | true => exact ⟨rfl, h⟩
  | false => rw [hy] at h; cases h
theorem and3 {b c d : Bool} (h : (b && (c && d)) = true) : b = true ∧ c = true ∧ d = true := by simpa using h
theorem and2 {b c : Bool} (h : (b && c) = true) : b = true ∧ c = true := by simpa using h

theorem xop_spec (hh : HypOk hyp E.ρ) (hr : HRel E h w) (ht : TRel E tm a.tmps) {ax : AO'} (hc : cop P o.op = some ax) : OSound P E h w (xop P hyp tm h ax) ((execOp a.eval o).run P w) := by
  cases hop : o.op <;> rw [hop] at hc
  case move x =>
    simp only [cop, Option.bind_eq_bind, Option.bind_eq_some_iff, Option.pure_def, Option.some.injEq] at hc
    obtain ⟨_, h1, rfl⟩ := hc
    exact s_mv hr ht h1 (.inl hop)
  case assign x =>
    simp only [cop, Option.bind_eq_bind, Option.bind_eq_some_iff, Option.pure_def, Option.some.injEq] at hc
    obtain ⟨_, h1, rfl⟩ := hc
    exact s_mv hr ht h1 (.inr hop)
  case pick c x y =>
    simp only [cop, Option.bind_eq_bind, Option.bind_eq_some_iff, Option.pure_def, Option.some.injEq] at hc
    obtain ⟨_, h1, _, h2, _, h3, rfl⟩ := hc
    exact s_pk hr ht h1 h2 h3 hop
  case alloc e =>
    simp only [cop, Option.bind_eq_bind, Option.bind_eq_some_iff, Option.pure_def] at hc
    obtain ⟨z, h1, hc⟩ := hc
    obtain ⟨h2, hc⟩ := bif_some hc rfl
    cases hc
    exact s_al hr h1 h2 hop
  case box e x =>
    simp only [cop, Option.bind_eq_bind, Option.bind_eq_some_iff, Option.pure_def, Option.some.injEq] at hc
    obtain ⟨_, h1, rfl⟩ := hc
    exact s_bx hr ht h1 hop
  case build t parts =>
    simp only [cop, Option.bind_eq_bind, Option.bind_eq_some_iff, Option.pure_def] at hc
    obtain ⟨z, h1, z', h2, hc⟩ := hc
    have h3 : ones z.cells = true ∧ z' = z := by
      cases hz : ones z.cells with
      | true => rw [hz] at h2; cases h2; exact ⟨rfl, rfl⟩
      | false => rw [hz] at h2; cases h2
    obtain ⟨h3, rfl⟩ := h3
    split at hc
    · rename_i fs hu
      simp only [Option.bind_eq_some_iff, Option.some.injEq] at hc
      obtain ⟨pl, h4, ps, h5, rfl⟩ := hc
      exact s_bdS hr ht h1 h3 hu h4 h5 hop
    · rename_i m e hu
      simp only [Option.bind_eq_some_iff, Option.some.injEq] at hc
      obtain ⟨n, h4, ps, h5, rfl⟩ := hc
      exact s_bdA hr ht h1 h3 hu h4 h5 hop
    · cases hc
  case buildSlice t len parts =>
    simp only [cop, Option.bind_eq_bind, Option.pure_def] at hc
    split at hc
    · rename_i e hu
      simp only [Option.bind_eq_some_iff] at hc
      obtain ⟨z, h1, v, h2, ps, h4, hc⟩ := hc
      obtain ⟨h3, hc⟩ := bif_some hc rfl
      cases hc
      obtain ⟨h5, h6, h7⟩ := and3 h3
      exact s_bs hr ht hu h1 h2 h6 (Nat.eq_of_beq_eq_true h7) (Nat.le_of_ble_eq_true h5) h4 hop
    · cases hc
  case load t x =>
    simp only [cop, Option.bind_eq_bind, Option.bind_eq_some_iff, Option.pure_def, Option.some.injEq] at hc
    obtain ⟨_, h1, _, h2, rfl⟩ := hc
    exact s_ld hr ht h1 h2 hop
  case store t x y =>
    simp only [cop, Option.bind_eq_bind, Option.bind_eq_some_iff, Option.pure_def, Option.some.injEq] at hc
    obtain ⟨_, h1, _, h2, _, h3, rfl⟩ := hc
    exact s_st hr ht h1 h2 h3 hop
  case nilCheck x =>
    simp only [cop, Option.bind_eq_bind, Option.bind_eq_some_iff, Option.pure_def, Option.some.injEq] at hc
    obtain ⟨_, h1, rfl⟩ := hc
    exact s_nc hr ht h1 hop
  case binOp b t x y t' =>
    by_cases h1 : b = .eql
    · subst h1
      simp only [cop, Option.bind_eq_bind, Option.bind_eq_some_iff, Option.pure_def, Option.some.injEq] at hc
      obtain ⟨_, h1, _, h2, rfl⟩ := hc
      exact s_eq (neg := false) hh hr ht h1 h2 hop
    · by_cases h2 : b = .neq
      · subst h2
        simp only [cop, Option.bind_eq_bind, Option.bind_eq_some_iff, Option.pure_def, Option.some.injEq] at hc
        obtain ⟨_, h1, _, h2, rfl⟩ := hc
        exact s_eq (neg := true) hh hr ht h1 h2 hop
      · have hc' : (do pure (AO'.bin b (← opd x) (← opd y)) : Option AO') = some ax := by
          cases b <;> first | exact hc | exact absurd rfl h1 | exact absurd rfl h2
        simp only [Option.bind_eq_bind, Option.bind_eq_some_iff, Option.pure_def, Option.some.injEq] at hc'
        obtain ⟨_, h3, _, h4, rfl⟩ := hc'
        exact s_bin hh hr ht h1 h2 h3 h4 hop
  case unOp u t x =>
    simp only [cop, Option.bind_eq_bind, Option.bind_eq_some_iff, Option.pure_def, Option.some.injEq] at hc
    obtain ⟨_, h1, rfl⟩ := hc
    exact s_un hr ht h1 hop
  case convert s d x =>
    simp only [cop] at hc
    split at hc
    · rename_i k0 k hs hd
      simp only [Option.bind_eq_bind, Option.bind_eq_some_iff, Option.pure_def, Option.some.injEq] at hc
      obtain ⟨_, h1, rfl⟩ := hc
      exact s_cv hr ht hs hd h1 hop
    · rename_i hs hd
      simp only [Option.bind_eq_bind, Option.bind_eq_some_iff, Option.pure_def, Option.some.injEq] at hc
      obtain ⟨_, h1, rfl⟩ := hc
      exact s_s2s hr ht hs hd h1 hop
    · rename_i e hs hd
      split at hc
      · rename_i he
        simp only [Option.bind_eq_bind, Option.bind_eq_some_iff, Option.pure_def, Option.some.injEq] at hc
        obtain ⟨_, h1, rfl⟩ := hc
        exact s_s2b hr ht hs hd he h1 hop
      · cases hc
    · rename_i e hs hd
      split at hc
      · rename_i he
        simp only [Option.bind_eq_bind, Option.bind_eq_some_iff, Option.pure_def, Option.some.injEq] at hc
        obtain ⟨_, h1, rfl⟩ := hc
        exact s_b2s hr ht hs hd he h1 hop
      · cases hc
    · cases hc
  case makeInterface t x =>
    simp only [cop] at hc
    split at hc
    · cases hc
    · rename_i d hni hd
      simp only [Option.bind_eq_bind, Option.bind_eq_some_iff, Option.pure_def, Option.some.injEq] at hc
      obtain ⟨_, h1, rfl⟩ := hc
      exact s_mi hr ht hd (fun ms e => hni ms e) h1 hop
    · cases hc
  case makeFunc fn xs ys =>
    simp only [cop, Option.bind_eq_bind, Option.bind_eq_some_iff, Option.pure_def, Option.some.injEq] at hc
    obtain ⟨_, h1, _, h2, rfl⟩ := hc
    exact s_mf hr ht h1 h2 hop
  case makeMap t m =>
    cases m with
    | none => cases hc; exact s_mm hr hop
    | some m => cases hc
  case makeSlice t l c =>
    simp only [cop, Option.bind_eq_bind, Option.pure_def] at hc
    split at hc
    · rename_i e hu
      simp only [Option.bind_eq_some_iff] at hc
      obtain ⟨z, h1, bw, h2, v, h3, _, h5, _, h6, hc⟩ := hc
      obtain ⟨h4, hc⟩ := bif_some hc rfl
      cases hc
      obtain ⟨h7, h8, h9⟩ := and3 h4
      exact s_ms hr ht hu h1 h2 (Nat.le_of_ble_eq_true h7) h3 h8 (Nat.eq_of_beq_eq_true h9) h5 h6 hop
    · cases hc
  case slice t x lo hi mx =>
    simp only [cop, Option.bind_eq_bind, Option.pure_def] at hc
    split at hc
    · rename_i n e hu
      simp only [Option.bind_eq_some_iff, Option.some.injEq] at hc
      obtain ⟨z, h1, _, h2, _, h3, _, h4, _, h5, rfl⟩ := hc
      exact s_sa hr ht hu h1 h2 h3 h4 h5 hop
    · rename_i hu
      split at hc
      · simp only [Option.bind_eq_some_iff, Option.some.injEq] at hc
        obtain ⟨_, h1, _, h2, _, h3, rfl⟩ := hc
        exact s_ss hr ht hu h1 h2 h3 hop
      · cases hc
    · rename_i e hu
      simp only [Option.bind_eq_some_iff, Option.some.injEq] at hc
      obtain ⟨z, h1, _, h2, _, h3, _, h4, _, h5, rfl⟩ := hc
      exact s_sl hr ht hu h1 h2 h3 h4 h5 hop
    · cases hc
  case fieldAddr s x f =>
    simp only [cop, Option.bind_eq_bind, Option.pure_def] at hc
    split at hc
    · rename_i fs hu
      simp only [Option.bind_eq_some_iff] at hc
      obtain ⟨f', h1, n, h2, _, h3, hc⟩ := hc
      cases hn : Nat.beq n 0 with
      | true => rw [hn] at hc; cases hc
      | false =>
        rw [hn] at hc
        cases hc
        exact s_fa hr ht hu h1 h2 (by intro e; subst e; cases hn) h3 hop
    · cases hc
  case field t x f =>
    simp only [cop, Option.bind_eq_bind, Option.pure_def] at hc
    split at hc
    · rename_i fs hu
      simp only [Option.bind_eq_some_iff, Option.some.injEq] at hc
      obtain ⟨f', h1, n, h2, _, h3, rfl⟩ := hc
      exact s_fd hr ht hu h1 h2 h3 hop
    · cases hc
  case indexAddr t x i =>
    simp only [cop, Option.bind_eq_bind, Option.pure_def] at hc
    split at hc
    · rename_i n e hu
      simp only [Option.bind_eq_some_iff, Option.some.injEq] at hc
      obtain ⟨z, h1, _, h2, _, h3, rfl⟩ := hc
      exact s_ia hr ht hu h1 h2 h3 hop
    · rename_i e hu
      simp only [Option.bind_eq_some_iff, Option.some.injEq] at hc
      obtain ⟨z, h1, _, h2, _, h3, rfl⟩ := hc
      exact s_ix hr ht hu h1 h2 h3 hop
    · cases hc
  case index t x i =>
    simp only [cop, Option.bind_eq_bind, Option.pure_def] at hc
    split at hc
    · rename_i n e hu
      simp only [Option.bind_eq_some_iff, Option.some.injEq] at hc
      obtain ⟨z, h1, p, h2, _, h3, _, h4, rfl⟩ := hc
      exact s_ea hr ht hu h1 h2 h3 h4 hop
    · rename_i hu
      simp only [Option.bind_eq_some_iff, Option.some.injEq] at hc
      obtain ⟨_, h3, _, h4, rfl⟩ := hc
      exact s_es hr ht hu h3 h4 hop
    · cases hc
  case lookup t x i ok =>
    simp only [cop, Option.bind_eq_bind, Option.pure_def] at hc
    split at hc
    · rename_i kt et hu
      split at hc
      · rename_i k hk
        simp only [Option.bind_eq_some_iff, Option.some.injEq] at hc
        obtain ⟨_, h1, _, h2, _, h3, rfl⟩ := hc
        exact s_lk hr ht hu hk (.inl ⟨rfl, _, rfl⟩) h1 h2 h3 hop
      · rename_i hk
        simp only [Option.bind_eq_some_iff, Option.some.injEq] at hc
        obtain ⟨_, h1, _, h2, _, h3, rfl⟩ := hc
        exact s_lk hr ht hu hk (.inr ⟨rfl, rfl⟩) h1 h2 h3 hop
      · cases hc
    · cases hc
  case mapUpdate t m k x =>
    simp only [cop, Option.bind_eq_bind, Option.pure_def] at hc
    split at hc
    · rename_i kt et hu
      split at hc
      · rename_i kk hk
        simp only [Option.bind_eq_some_iff, Option.some.injEq] at hc
        obtain ⟨_, h1, _, h2, _, h3, rfl⟩ := hc
        exact s_up hr ht hu hk (.inl ⟨rfl, _, rfl⟩) h1 h2 h3 hop
      · rename_i hk
        simp only [Option.bind_eq_some_iff, Option.some.injEq] at hc
        obtain ⟨_, h1, _, h2, _, h3, rfl⟩ := hc
        exact s_up hr ht hu hk (.inr ⟨rfl, rfl⟩) h1 h2 h3 hop
      · cases hc
    · cases hc
  case typeAssert x xt t ok =>
    simp only [cop] at hc
    split at hc
    · cases hc
    · rename_i d hni hd
      simp only [Option.bind_eq_bind, Option.bind_eq_some_iff, Option.pure_def, Option.some.injEq] at hc
      obtain ⟨_, h1, _, h2, rfl⟩ := hc
      exact s_ta hr ht hd (fun ms e => hni ms e) h1 h2 hop
    · cases hc
  case extract x i =>
    simp only [cop, Option.bind_eq_bind, Option.bind_eq_some_iff, Option.pure_def, Option.some.injEq] at hc
    obtain ⟨_, h1, rfl⟩ := hc
    exact s_ex hr ht h1 hop
  case call c =>
    simp only [cop] at hc
    split at hc
    · rename_i f hf
      simp only [Option.bind_eq_bind, Option.bind_eq_some_iff, Option.pure_def, Option.some.injEq] at hc
      obtain ⟨_, h1, _, h2, rfl⟩ := hc
      exact s_cl hr ht hop hf h1 h2
    · rename_i b hb
      simp only [Option.bind_eq_bind, Option.bind_eq_some_iff] at hc
      obtain ⟨args, hargs, hc⟩ := hc
      split at hc
      · rename_i t x hat
        obtain ⟨y, l', e1, h1, e2⟩ := opds_cons hargs
        obtain rfl := opds_nil e2
        have ha : c.args = #[y] := by apply Array.ext'; rw [e1]
        have hat : c.argTypes = #[t] := by apply Array.ext'; rw [hat]
        split at hc
        · rename_i hu; cases hc; exact s_lnS hr ht hu hop hb hat ha h1
        · rename_i hu; cases hc; exact s_lnL hr ht hu hop hb hat ha h1
        · rename_i hu; cases hc; exact s_lnM hr ht hu hop hb hat ha h1
        · rename_i hu; cases hc; exact s_lenA hr hu hop hb hat ha
        · cases hc
      · rename_i t x hat
        obtain ⟨y, l', e1, h1, e2⟩ := opds_cons hargs
        obtain rfl := opds_nil e2
        have ha : c.args = #[y] := by apply Array.ext'; rw [e1]
        have hat : c.argTypes = #[t] := by apply Array.ext'; rw [hat]
        split at hc
        · rename_i hu; cases hc; exact s_cap hr ht hu hop hb hat ha h1
        · cases hc
      · rename_i t t' s x hat
        obtain ⟨y, l', e1, h1, e2⟩ := opds_cons hargs
        obtain ⟨y', l'', rfl, h2, e3⟩ := opds_cons e2
        obtain rfl := opds_nil e3
        have ha : c.args = #[y, y'] := by apply Array.ext'; rw [e1]
        have hat : c.argTypes = #[t, t'] := by apply Array.ext'; rw [hat]
        split at hc
        · rename_i e u hu hu'
          simp only [Option.bind_eq_some_iff, Option.pure_def] at hc
          obtain ⟨z, h3, bw, h4, v, h5, hc⟩ := hc
          obtain ⟨h6, hc⟩ := bif_some hc rfl
          cases hc
          obtain ⟨h6, h7⟩ := and2 h6
          obtain ⟨h8, h9, h10⟩ := and3 h6
          exact s_app hr ht hu hu' (by cases u <;> first | exact .inr rfl | exact .inl ⟨_, rfl⟩ | cases h7) h3 h4 (Nat.le_of_ble_eq_true h8) h5 h9 (Nat.eq_of_beq_eq_true h10) hop hb hat ha h1 h2
        · cases hc
      · rename_i t ts d s hat
        obtain ⟨y, l', e1, h1, e2⟩ := opds_cons hargs
        obtain ⟨y', l'', rfl, h2, e3⟩ := opds_cons e2
        obtain rfl := opds_nil e3
        have ha : c.args = #[y, y'] := by apply Array.ext'; rw [e1]
        split at hc
        · rename_i e hu
          simp only [Option.bind_eq_some_iff, Option.pure_def, Option.some.injEq] at hc
          obtain ⟨z, h3, rfl⟩ := hc
          exact s_cpy hr ht hu h3 hop hb hat ha h1 h2
        · cases hc
      · cases hc; exact s_mn hr ht hop hb hargs
      · cases hc; exact s_mx hr ht hop hb hargs
      · cases hc; exact s_rcv hop hb
      · cases hc
    · cases hc
  case defer c =>
    simp only [cop] at hc
    split at hc
    · rename_i f hf
      simp only [Option.bind_eq_bind, Option.bind_eq_some_iff, Option.pure_def, Option.some.injEq] at hc
      obtain ⟨_, h1, _, h2, rfl⟩ := hc
      exact s_df hr ht hop hf h1 h2
    · cases hc
  case panic x =>
    simp only [cop, Option.bind_eq_bind, Option.bind_eq_some_iff, Option.pure_def, Option.some.injEq] at hc
    obtain ⟨_, h1, rfl⟩ := hc
    exact s_pn hr ht h1 hop
  all_goals (simp only [cop, reduceCtorEq] at hc)
end
end Go.Am
