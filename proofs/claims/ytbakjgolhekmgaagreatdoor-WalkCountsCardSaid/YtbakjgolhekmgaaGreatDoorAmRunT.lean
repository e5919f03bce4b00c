/- Runs: what a run of the abstract machine says of the model's. -/
import Derived.Test.YtbakjgolhekmgaaGreatDoorAmDraw3
namespace Go.Am

def fns (l : List AF) : List Nat := l.map (·.fn)
def bot (s : St) : Nat := (fns s.cs).getLastD s.fr.fn
theorem recoverIn_fns {cs cs' : List AF} {v : AV} (h : recoverIn cs = some (v, cs')) : fns cs' = fns cs := by
  cases cs with
  | nil => cases h
  | cons c cs =>
    obtain ⟨fn, nt, tm, todo, df, mode, d⟩ := c
    simp only [recoverIn] at h
    split at h
    · cases h; rfl
    · cases h
def RG.fnsOk (r : RG) (cs : List AF) : Prop := match r with
  | .no => True
  | .done _ _ _ cs' => fns cs' = fns cs
  | .call _ _ _ _ cs' _ _ _ => fns cs' = fns cs
  | .pan _ _ _ _ cs' _ _ => fns cs' = fns cs
theorem regIn_fns (P : Program) (hyp : Hyp) (dfd : Bool) : ∀ (l : List (Option CO)) (i : Nat) (tm : Tr AV) (h : AH) (df : List (Nat × List AV)) (cs : List AF), (regIn P hyp dfd l i tm h df cs).fnsOk cs
  | [], i, tm, h, df, cs => rfl
  | none :: rest, i, tm, h, df, cs => trivial
  | some o :: rest, i, tm, h, df, cs => by
    have ih := regIn_fns P hyp dfd rest
    rw [regIn_cons]
    cases wantedIn tm o.guard with
    | none => trivial
    | some b =>
      cases b with
      | false => exact ih _ _ _ _ _
      | true =>
        simp only
        cases xop P hyp tm h o.op with
        | no => trivial
        | v v h' => exact ih _ _ _ _ _
        | dfr g args h' => exact ih _ _ _ _ _
        | call f args h' => exact rfl
        | pan v h' => exact rfl
        | rcv h' =>
          simp only
          cases dfd with
          | false => exact ih _ _ _ _ _
          | true =>
            simp only [cond_true]
            cases cs with
            | nil => trivial
            | cons c cs =>
              simp only
              cases hr : recoverIn (c :: cs) with
              | none => exact ih _ _ _ _ _
              | some p =>
                obtain ⟨v, cs''⟩ := p
                have hf := recoverIn_fns hr
                simp only
                have := ih (Nat.succ i) (putP tm o.dst v) h' df cs''
                revert this
                cases regIn P hyp true rest (Nat.succ i) (putP tm o.dst v) h' df cs'' with
                | no => exact fun _ => trivial
                | done => exact fun h => h.trans hf
                | call => exact fun h => h.trans hf
                | pan => exact fun h => h.trans hf
def AR.botOk (r : AR) (s : St) : Prop := match r with
  | .no => True
  | .go s' => bot s' = bot s
  | .fin _ _ => True
theorem enter_fn {P : Program} {f : Nat} {args : List AV} {d : Bool} {fr : AF} (h : AF.enter P f args d = some fr) : fr.fn = f := by
  unfold AF.enter at h
  split at h
  · split at h
    · cases h; rfl
    · cases h
  · cases h
theorem bot_push (fr fr' : AF) (cs : List AF) (h h' : AH) : bot ⟨fr', fr :: cs, h'⟩ = bot ⟨fr, cs, h⟩ := by
  show (fr.fn :: fns cs).getLastD fr'.fn = (fns cs).getLastD fr.fn
  exact List.getLastD_cons ..
theorem bot_same {fr fr' : AF} {cs cs' : List AF} {h h' : AH} (hf : fr'.fn = fr.fn) (hc : fns cs' = fns cs) : bot ⟨fr', cs', h'⟩ = bot ⟨fr, cs, h⟩ := by
  simp only [bot, hf, hc]
theorem finish_fn {c c' : AF} {v : AV} (h : c.finish v = some c') : c'.fn = c.fn := by
  obtain ⟨fn, nt, tm, todo, df, mode, d⟩ := c
  simp only [AF.finish] at h
  split at h
  · split at h
    · cases h; rfl
    · cases h
  · cases h
theorem raise_fn (c : AF) (ch : List (AV × Bool)) : (c.raise ch).fn = c.fn := by
  obtain ⟨fn, nt, tm, todo, df, mode, d⟩ := c
  simp only [AF.raise]
  split <;> rfl
theorem stepReg_bot (P : Program) (sm : Nat → List AV → AH → Option (AEnd × AH)) (fn nt : Nat) (dfd : Bool) (ops : Array Oper) (k : List AIt) (r : RG) {cs : List AF} (hr : r.fnsOk cs) {s : St} (hs : s.fr.fn = fn) (hcs : s.cs = cs) : (stepReg P sm fn nt dfd ops k r).botOk s := by
  obtain ⟨fr, cs0, h⟩ := s
  simp only at hs hcs
  subst hcs
  cases r with
  | no => trivial
  | done tm h' df cs' => exact bot_same (by rw [hs]) hr
  | call tm i l df cs' f args h' =>
    simp only [stepReg]
    cases hsm : sm f args h' with
    | none =>
      simp only
      cases hen : AF.enter P f args false with
      | none => trivial
      | some fr' => exact (bot_push _ _ _ h' _).trans (bot_same (by rw [hs]) hr)
    | some r =>
      obtain ⟨r, h''⟩ := r
      cases r with
      | ret v =>
        simp only
        cases hf : AF.finish ⟨fn, nt, tm, .reg ops i l :: k, df, .run, dfd⟩ v with
        | none => trivial
        | some c' => exact bot_same ((finish_fn hf).trans (by rw [hs])) hr
      | pan c => exact bot_same ((raise_fn _ c).trans (by rw [hs])) hr
  | pan tm i l df cs' v h' => exact bot_same (by rw [hs]) hr
theorem stepRun_bot (P : Program) (hyp : Hyp) (sm call : Nat → List AV → AH → Option (AEnd × AH)) (fn nt : Nat) (tm : Tr AV) (todo : List AIt) (df : List (Nat × List AV)) (dfd : Bool) (cs : List AF) (h : AH) :
    (stepRun P hyp sm call fn nt tm todo df dfd cs h).botOk ⟨⟨fn, nt, tm, todo, df, .run, dfd⟩, cs, h⟩ := by
  cases todo with
  | nil => exact bot_same rfl rfl
  | cons it k =>
    simp only [stepRun]
    cases it with
    | inBlock => exact bot_same rfl rfl
    | inScope => exact bot_same rfl rfl
    | inLoop => exact bot_same rfl rfl
    | reg ops i l => exact stepReg_bot P sm fn nt dfd ops k _ (regIn_fns P hyp dfd l i tm h df cs) rfl rfl
    | code c =>
      simp only
      cases c with
      | ret => exact bot_same rfl rfl
      | skip => exact bot_same rfl rfl
      | label => exact bot_same rfl rfl
      | seq => exact bot_same rfl rfl
      | block => exact bot_same rfl rfl
      | loop => exact bot_same rfl rfl
      | scope => exact bot_same rfl rfl
      | exit id => simp only; cases exitIn id k <;> first | trivial | exact bot_same rfl rfl
      | goto l => simp only; cases gotoAt l k <;> first | trivial | exact bot_same rfl rfl
      | cond c thn els =>
        simp only
        split
        · split
          · exact bot_same rfl rfl
          · trivial
        · exact bot_same rfl rfl
        · trivial
      | region id ops draw =>
        simp only
        cases draw with
        | false => exact stepReg_bot P sm fn nt dfd ops k _ (regIn_fns P hyp dfd _ 0 tm h df cs) rfl rfl
        | true =>
          simp only [cond_true]
          cases planOf P nt ops with
          | none => trivial
          | some ps =>
            simp only
            cases drawIn P hyp call ps tm h df with
            | no => trivial
            | go d => obtain ⟨tm', h', pa, df', rs, ws⟩ := d; exact bot_same rfl rfl
            | pan => exact bot_same rfl rfl
      | _ => trivial
theorem stepDefer_bot (P : Program) (fr fr0 : AF) (cs : List AF) (h : AH) (d : Nat × List AV) (hf : fr.fn = fr0.fn) : (stepDefer P fr cs h d).botOk ⟨fr0, cs, h⟩ := by
  unfold stepDefer
  cases AF.enter P d.1 d.2 true with
  | none => trivial
  | some fr' => exact (bot_push _ _ _ h _).trans (bot_same hf rfl)
theorem settle_fn (c : AF) : c.settle.fn = c.fn := by obtain ⟨fn, nt, tm, todo, df, mode, d⟩ := c; rfl
theorem stepIn_bot (P : Program) (hyp : Hyp) (sm call : Nat → List AV → AH → Option (AEnd × AH)) (s : St) : (stepIn P hyp sm call s).botOk s := by
  obtain ⟨⟨fn, nt, tm, todo, df, mode, dfd⟩, cs, h⟩ := s
  cases mode with
  | run => exact stepRun_bot ..
  | returning =>
    simp only [stepIn]
    cases df with
    | cons d ds => exact stepDefer_bot _ _ _ _ _ _ rfl
    | nil =>
      simp only
      cases resultIn P h fn tm with
      | none => trivial
      | some v =>
        simp only
        cases cs with
        | nil => cases dfd <;> trivial
        | cons c cs =>
          simp only
          cases dfd with
          | true => exact (bot_same (settle_fn c) rfl).trans (bot_push c _ cs h _).symm
          | false =>
            simp only [cond_false]
            cases hf : c.finish v with
            | none => trivial
            | some c' => exact (bot_same (finish_fn hf) rfl).trans (bot_push c _ cs h _).symm
  | panicking chain =>
    simp only [stepIn]
    cases df with
    | cons d ds => exact stepDefer_bot _ _ _ _ _ _ rfl
    | nil =>
      simp only
      cases cs with
      | nil => cases dfd <;> trivial
      | cons c cs => exact (bot_same (raise_fn c chain) rfl).trans (bot_push c _ cs h _).symm

theorem callS_sound {P : Program} {hyp : Hyp} {sm call : Nat → List AV → AH → Option (AEnd × AH)} (h1 : CSound P hyp sm) (h2 : CSound P hyp call) : CSound P hyp (callS sm call) := by
  intro f args h r h' hc
  unfold callS at hc
  cases hs : sm f args h with
  | none => rw [hs] at hc; exact h2 f args h r h' hc
  | some q => rw [hs] at hc; cases hc; exact h1 f args h r h' hs
theorem none_sound {P : Program} {hyp : Hyp} : CSound P hyp (fun _ _ _ => none) := fun _ _ _ _ _ h => by cases h
theorem run_succ (P : Program) (hyp : Hyp) (sm : Nat → List AV → AH → Option (AEnd × AH)) (n : Nat) (s : St) : run P hyp sm (n + 1) s = match stepIn P hyp sm (callS sm (callOf P hyp sm n)) s with
      | .go s' => run P hyp sm n s'
      | .fin e h => some (e, h)
      | .no => none := rfl

section
variable {P : Program}
/-- what a run says. -/
def RunsTo (P : Program) (E : Env) (s : St) (fr : Frame) (fs : List Frame) (w : World) (r : AEnd) (h' : AH) : Prop :=
  ∀ base, ∃ E' fr' w' en, Steps P (lone fr (fs ++ base) w) (lone fr' base w') ∧ EndRel E' r en ∧ fr'.leaving P w' en ∧ fr'.fn = bot s ∧ HRel E' h' w' ∧ Ext E s.h w E' h' w'
theorem run_both (hmix : P.follows .mixedOrders = true) (hyp : Hyp) {sm : Nat → List AV → AH → Option (AEnd × AH)} (hsm : CSound P hyp sm) : ∀ n, CSound P hyp (callOf P hyp sm n) ∧ ∀ s r h', run P hyp sm n s = some (r, h') → ∀ E fr fs w, HypOk hyp E.ρ → SRel P E s fr fs w → RunsTo P E s fr fs w r h' := by
  have key : ∀ n, (∀ s r h', run P hyp sm n s = some (r, h') → ∀ E fr fs w, HypOk hyp E.ρ → SRel P E s fr fs w → RunsTo P E s fr fs w r h') → CSound P hyp (callOf P hyp sm n) := by
    intro n hn f args h r h' hc E w ys hh hr hy base
    unfold callOf at hc
    cases hen : AF.enter P f args false with
    | none => rw [hen] at hc; cases hc
    | some fr =>
      rw [hen] at hc
      obtain ⟨E', fr', w', en, s1, s2, s3, s4, s5, s6⟩ := hn _ r h' hc E (Frame.enter P f ys .normal) [] w hh ⟨hr, enter_spec hen hy, rfl⟩ base
      exact ⟨E', w', fr', en, s1, s2, s3, s4.trans (enter_fn hen), s5, s6⟩
  intro n
  induction n with
  | zero =>
    have h0 : ∀ s r h', run P hyp sm 0 s = some (r, h') → ∀ E fr fs w, HypOk hyp E.ρ → SRel P E s fr fs w → RunsTo P E s fr fs w r h' := fun s r h' h => by cases h
    exact ⟨key 0 h0, h0⟩
  | succ n ih =>
    have hn : ∀ s r h', run P hyp sm (n + 1) s = some (r, h') → ∀ E fr fs w, HypOk hyp E.ρ → SRel P E s fr fs w → RunsTo P E s fr fs w r h' := by
      intro s r h' hrun E fr fs w hh hs base
      rw [run_succ] at hrun
      have hst := stepIn_spec hsm (draw_sound hmix (callS_sound hsm ih.1)) hh hs base
      have hb := stepIn_bot P hyp sm (callS sm (callOf P hyp sm n)) s
      cases hx : stepIn P hyp sm (callS sm (callOf P hyp sm n)) s with
      | no => rw [hx] at hrun; cases hrun
      | go s' =>
        rw [hx] at hrun hst hb
        obtain ⟨E1, fr1, fs1, w1, s1, s2, s3⟩ := hst
        obtain ⟨E', fr', w', en, t1, t2, t3, t4, t5, t6⟩ := ih.2 s' r h' hrun E1 fr1 fs1 w1 (by rw [s3.le.ρ]; exact hh) s2 base
        exact ⟨E', fr', w', en, s1.trans t1, t2, t3, t4.trans hb, t5, s3.trans t6⟩
      | fin e h1 =>
        rw [hx] at hrun hst
        cases hrun
        obtain ⟨rfl, rfl, en, t2, t3⟩ := hst
        have hcs : s.cs = [] := by
          have := hs.cs
          cases hc : s.cs with
          | nil => rfl
          | cons c cs => rw [hc] at this; obtain ⟨_, _, e, _⟩ := this; cases e
        exact ⟨E, fr, w, en, Steps.refl P _, t2, t3, by rw [hs.fr.fn]; simp [bot, fns, hcs], hs.hr, .refl hs.hr⟩
    exact ⟨key (n + 1) hn, hn⟩

/-- a stretch of steps. -/
theorem steps_succ (P : Program) (hyp : Hyp) (sm : Nat → List AV → AH → Option (AEnd × AH)) (fuel n : Nat) (s : St) : steps P hyp sm fuel (n + 1) s = match stepIn P hyp sm (callS sm (callOf P hyp sm fuel)) s with
      | .go s' => steps P hyp sm fuel n s'
      | _ => none := rfl
theorem steps_spec (hmix : P.follows .mixedOrders = true) (hyp : Hyp) {sm : Nat → List AV → AH → Option (AEnd × AH)} (hsm : CSound P hyp sm) (fuel : Nat) : ∀ n s s', steps P hyp sm fuel n s = some s' → ∀ E fr fs w, HypOk hyp E.ρ → SRel P E s fr fs w → ∀ base,
    ∃ E' fr' fs' w', Steps P (lone fr (fs ++ base) w) (lone fr' (fs' ++ base) w') ∧ SRel P E' s' fr' fs' w' ∧ Ext E s.h w E' s'.h w' ∧ bot s' = bot s := by
  intro n
  induction n with
  | zero =>
    intro s s' h E fr fs w hh hs base
    cases h
    exact ⟨E, fr, fs, w, Steps.refl P _, hs, .refl hs.hr, rfl⟩
  | succ n ih =>
    intro s s' h E fr fs w hh hs base
    rw [steps_succ] at h
    have hst := stepIn_spec hsm (draw_sound hmix (callS_sound hsm (run_both hmix hyp hsm fuel).1)) hh hs base
    have hb := stepIn_bot P hyp sm (callS sm (callOf P hyp sm fuel)) s
    cases hx : stepIn P hyp sm (callS sm (callOf P hyp sm fuel)) s with
    | no => rw [hx] at h; cases h
    | fin e h1 => rw [hx] at h; cases h
    | go s1 =>
      rw [hx] at h hst hb
      obtain ⟨E1, fr1, fs1, w1, s1', s2, s3⟩ := hst
      obtain ⟨E', fr', fs', w', t1, t2, t3, t4⟩ := ih s1 s' h E1 fr1 fs1 w1 (by rw [s3.le.ρ]; exact hh) s2 base
      exact ⟨E', fr', fs', w', s1'.trans t1, t2, s3.trans t3, t4.trans hb⟩
end
end Go.Am
