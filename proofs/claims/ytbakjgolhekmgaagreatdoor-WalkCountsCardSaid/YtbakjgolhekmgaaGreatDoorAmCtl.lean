/- Steps: control, calls, deferred calls, ends. -/
import Derived.Test.YtbakjgolhekmgaaGreatDoorAmStep
namespace Go.Am

def EndRel (E : Env) : AEnd → Ending → Prop
  | .ret v, e => ∃ y, e = .returned y ∧ VR E v y
  | .pan c, e => ∃ c', e = .panicked c' ∧ PsRel E c c'
structure SRel (P : Program) (E : Env) (s : St) (fr : Frame) (fs : List Frame) (w : World) : Prop where
  hr : HRel E s.h w
  fr : FRel P E s.fr fr
  cs : FsRel P E s.cs fs
/-- calls that are run apart are what they are said to be. -/
def CSound (P : Program) (hyp : Hyp) (call : Nat → List AV → AH → Option (AEnd × AH)) : Prop :=
  ∀ f args h r h', call f args h = some (r, h') → ∀ (E : Env) (w : World) (ys : Array Value), HypOk hyp E.ρ → HRel E h w → VRs E args ys.toList → ∀ base,
    ∃ E' w' fr en, Steps P (lone (Frame.enter P f ys .normal) base w) (lone fr base w') ∧ EndRel E' r en ∧ fr.leaving P w' en ∧ fr.fn = f ∧ HRel E' h' w' ∧ Ext E h w E' h' w'
/-- regions whose order is open. -/
def DrawSound (P : Program) (hyp : Hyp) (call : Nat → List AV → AH → Option (AEnd × AH)) : Prop :=
  ∀ (nt id : Nat) (ops : Array Oper) (ps : List Pl), planOf P nt ops = some ps → ∀ (E : Env) (h : AH) (w : World) (tm : Tr AV) (df : List (Nat × List AV)) (a : Act) (b : Frame) (k : List Item) (base : List Frame), HypOk hyp E.ρ → RRel P E nt tm h df [] a [] w →
    match drawIn P hyp call ps tm h df with
    | .no => True
    | .go d => ∃ E' a' w', Steps P (lone (b.at a (.code (.region id ops true) :: k)) base w) (lone (b.at a' k) base w') ∧ RRel P E' nt d.tm (d.h.puts d.pa) d.defers [] a' [] w' ∧ Ext E h w E' (d.h.puts d.pa) w'
    | .pan tm' c h' df' => ∃ E' a' w' c' todo, Steps P (lone (b.at a (.code (.region id ops true) :: k)) base w) (lone { b.at a' todo with mode := .panicking c' } base w') ∧ PsRel E' c c' ∧ RRel P E' nt tm' h' df' [] a' [] w' ∧ Ext E h w E' h' w'

section
variable {P : Program} {E : Env}
theorem enter_spec {f : Nat} {args : List AV} {dfd : Bool} {fr : AF} (h : AF.enter P f args dfd = some fr) {ys : Array Value} (hy : VRs E args ys.toList) : FRel P E fr (Frame.enter P f ys (if dfd then .deferred else .normal)) := by
  unfold AF.enter at h
  cases hf : P.funcs[f]? with
  | none => rw [hf] at h; cases h
  | some fn =>
    rw [hf] at h
    simp only at h
    cases hb : fn.body with
    | none => rw [hb] at h; cases h
    | some c =>
      rw [hb] at h
      cases h
      refine ⟨rfl, ⟨fn, hf⟩, ?_, ?_, fun _ => ?_, rfl, rfl, rfl, rfl⟩
      · simp only [Frame.enter, hf, Option.map_some, Option.getD_some]
        exact TRel.args hy _
      · simp only [Frame.enter, hf, Option.map_some, Option.getD_some, Array.size_append, Array.size_replicate]
        omega
      · simp only [Frame.enter, hf, Option.bind_some, hb, Option.getD_some]
        exact ⟨_, [], rfl, rfl, rfl⟩
theorem exit_spec {nt id : Nat} : ∀ {k : List AIt} {k' : List Item} {r : List AIt}, IsRel P nt k k' → exitIn id k = some r → ∃ r', exitTo id k' = some r' ∧ IsRel P nt r r'
  | [], _, _, _, h => by cases h
  | x :: k, _, r, ⟨y, ys, rfl, h1, h2⟩, h => by
    cases x with
    | inBlock id' =>
      obtain rfl : y = .inBlock id' := h1
      simp only [exitIn] at h
      simp only [exitTo]
      cases hb : Nat.beq id' id with
      | true =>
        rw [hb] at h
        cases h
        obtain rfl := Nat.eq_of_beq_eq_true hb
        exact ⟨ys, by simp, h2⟩
      | false =>
        rw [hb] at h
        have hne : ¬ (id' = id) := by intro e; subst e; rw [Nat.beq_refl] at hb; cases hb
        obtain ⟨r', g1, g2⟩ := exit_spec h2 h
        exact ⟨r', by rw [if_neg (by simpa using hne)]; exact g1, g2⟩
    | code c => obtain rfl : y = .code c := h1; have q := exit_spec h2 h; exact q
    | inLoop c => obtain rfl : y = .inLoop c := h1; have q := exit_spec h2 h; exact q
    | inScope c => obtain rfl : y = .inScope c := h1; have q := exit_spec h2 h; exact q
    | reg ops i l => obtain ⟨rfl, _⟩ := h1; have q := exit_spec h2 h; exact q
theorem goto_spec {nt l : Nat} : ∀ {k : List AIt} {k' : List Item} {r : List AIt}, IsRel P nt k k' → gotoAt l k = some r → ∃ r', gotoIn l k' = some r' ∧ IsRel P nt r r'
  | [], _, _, _, h => by cases h
  | x :: k, _, r, ⟨y, ys, rfl, h1, h2⟩, h => by
    cases x with
    | inScope body =>
      obtain rfl : y = .inScope body := h1
      simp only [gotoAt] at h
      simp only [gotoIn]
      cases hb : findLabel body l with
      | some rest =>
        rw [hb] at h
        cases h
        exact ⟨_, rfl, _, _, rfl, rfl, _, ys, rfl, rfl, h2⟩
      | none =>
        rw [hb] at h
        exact goto_spec h2 h
    | code c => obtain rfl : y = .code c := h1; have q := goto_spec h2 h; exact q
    | inLoop c => obtain rfl : y = .inLoop c := h1; have q := goto_spec h2 h; exact q
    | inBlock id => obtain rfl : y = .inBlock id := h1; have q := goto_spec h2 h; exact q
    | reg ops i l => obtain ⟨rfl, _⟩ := h1; have q := goto_spec h2 h; exact q

theorem res_spec {h : AH} {w : World} (hr : HRel E h w) {tm : Tr AV} {tmps : Array Value} (ht : TRel E tm tmps) : ∀ (l : List ResultVar) (vs : List AV), resIn P h tm l = some vs →
    ∃ ys : List Value, (l.mapM fun | .tmp t => pure (tmps.getD t undef) | .cell a t => do loadVar t (← asAddr (tmps.getD a undef)) : Sem (List Value)).run P w = .ok ys w ∧ VRs E vs ys
  | [], vs, h => by
    simp only [resIn, Option.some.injEq] at h
    subst h
    exact ⟨[], rfl, VRs.nil⟩
  | r :: l, vs, hq => by
    simp only [resIn] at hq
    split at hq
    · rename_i v hv
      cases hm : resIn P h tm l with
      | none => rw [hm] at hq; cases hq
      | some m =>
        rw [hm] at hq
        cases hq
        obtain ⟨ys, g1, g2⟩ := res_spec hr ht l m hm
        have : ∃ y, ((match r with | .tmp t => pure (tmps.getD t undef) | .cell a t => do loadVar t (← asAddr (tmps.getD a undef)) : Sem Value)).run P w = .ok y w ∧ VR E v y := by
          cases r with
          | tmp t => exact ⟨_, rfl, ht t v hv⟩
          | cell a t =>
            simp only at hv
            cases hg : tm.get a with
            | none => rw [hg] at hv; cases hv
            | some p =>
              rw [hg] at hv
              have hp := ht a p hg
              cases p with
              | ptr b off =>
                obtain ⟨s, hs, hp⟩ := hp
                simp only at hv
                cases hn : aggIn P t with
                | none => rw [hn] at hv; cases hv
                | some n =>
                  rw [hn] at hv
                  obtain ⟨y, q1, q2⟩ := load_spec (P := P) hr hn hv hs
                  refine ⟨y, ?_, q2⟩
                  simp only [Sem.run_bind, hp, asAddr, Sem.run_pure, Result.andThen_ok, q1]
              | _ => cases hv
        obtain ⟨y, q1, q2⟩ := this
        exact ⟨y :: ys, by simp only [List.mapM_cons, Sem.run_bind, q1, Result.andThen_ok, g1, Sem.run_pure], VRs.cons q2 g2⟩
    · cases hq
theorem result_spec {h : AH} {w : World} (hr : HRel E h w) {tm : Tr AV} {tmps : Array Value} (ht : TRel E tm tmps) {f : Nat} {v : AV} (hv : resultIn P h f tm = some v) :
    ∃ fn y, P.funcs[f]? = some fn ∧ (results fn tmps).run P w = .ok y w ∧ VR E v y := by
  unfold resultIn at hv
  cases hf : P.funcs[f]? with
  | none => rw [hf] at hv; cases hv
  | some fn =>
    rw [hf] at hv
    simp only at hv
    cases hq : resIn P h tm fn.results.toList with
    | none => rw [hq] at hv; cases hv
    | some vs =>
      rw [hq] at hv
      obtain ⟨ys, g1, g2⟩ := res_spec (P := P) hr ht _ _ hq
      have hm : (fn.results.mapM fun | .tmp t => pure (tmps.getD t undef) | .cell a t => do loadVar t (← asAddr (tmps.getD a undef)) : Sem (Array Value)).run P w = .ok ys.toArray w := by
        rw [Array.mapM_eq_mapM_toList, Sem.run_map, g1, Result.andThen_ok]
      have hlen := g2.length
      refine ⟨fn, if h : ys.toArray.size = 1 then ys.toArray[0] else .tuple ys.toArray, rfl, ?_, ?_⟩
      · have hres : (results fn tmps).run P w = ((fn.results.mapM fun | .tmp t => pure (tmps.getD t undef) | .cell a t => do loadVar t (← asAddr (tmps.getD a undef)) : Sem (Array Value)).run P w).andThen fun vs w' => .ok (if h : vs.size = 1 then vs[0] else .tuple vs) w' := by
          unfold results
          rw [Sem.run_bind]
          rfl
        rw [hres, hm]
        rfl
      · simp only at hv
        split at hv
        · cases hv
          obtain ⟨y, ys', rfl, h1, h2⟩ := VRs.cons_inv g2
          obtain rfl := VRs.nil_inv h2
          exact h1
        · rename_i hne
          cases hv
          rw [dif_neg]
          · exact ⟨_, rfl, g2⟩
          · simp only [List.size_toArray]
            intro e
            rw [e] at hlen
            cases vs with
            | nil => simp at hlen
            | cons x xs =>
              cases xs with
              | nil => exact hne x rfl
              | cons y ys => simp at hlen

theorem fin_at' (b : Frame) (a : Act) (ops : Array Oper) (i : Nat) (rest : List Nat) (k : List Item) {o : Oper} (ho : ops[i]? = some o) (v : Value) : (b.at a (.inRegion ops (i :: rest) :: k)).finish v = b.at (a.put o.dst v) (.inRegion ops rest :: k) := by
  rw [Frame.finish_at, ho]; rfl
theorem FRel.eta {c : AF} {fr : Frame} (h : FRel P E c fr) (hm : c.mode = .run) : fr = fr.at ⟨fr.tmps, fr.defers⟩ fr.todo := by
  have h1 := h.mode
  rw [hm] at h1
  have h1 : fr.mode = .run := h1
  have h2 := h.round
  cases fr
  simp only at h1 h2
  subst h1 h2
  rfl
theorem finish_spec {c c' : AF} {fr : Frame} (h : FRel P E c fr) {v : AV} {y : Value} (hv : VR E v y) (hc : c.finish v = some c') : FRel P E c' (fr.finish y) := by
  obtain ⟨fn, nt, tm, todo, df, mode, d⟩ := c
  simp only [AF.finish] at hc
  cases mode with
  | returning => cases hc
  | panicking => cases hc
  | run =>
    simp only at hc
    split at hc
    · rename_i ops i o rest k
      cases hc
      have heta := h.eta rfl
      have htodo := h.todo rfl
      obtain ⟨y', ys, hl, ⟨hit, hdrop⟩, h2⟩ := htodo
      have hlt : i < ops.size := by
        have := congrArg List.length hdrop
        rw [List.length_drop, length_copers] at this
        have h2 : ops.toList.length = ops.size := Array.length_toList
        simp only [List.length_cons] at this
        omega
      have hrest : rest = (copers P nt ops.toList ops.toList).drop (i + 1) := by
        have := congrArg List.tail hdrop
        rwa [List.tail_cons, List.tail_drop] at this
      have hco : some o = coper P nt ops.toList ops[i] := by
        have h0 : (some o :: rest)[0]? = some (some o) := rfl
        rw [hdrop, List.getElem?_drop, copers_get, Nat.add_zero, Array.getElem?_toList, Array.getElem?_eq_getElem hlt] at h0
        exact (Option.some.inj h0).symm
      have hs := coper_spec hco.symm
      have hit' : y' = .inRegion ops (i :: List.range' (i + 1) (ops.size - (i + 1))) := by
        rw [hit, show ops.size - i = (ops.size - (i + 1)) + 1 by omega, List.range'_succ]
      obtain ⟨p1, p2⟩ := h.tm.put (a := ⟨fr.tmps, fr.defers⟩) h.size hv hs.lt
      rw [hl, hit'] at heta
      have hfin : fr.finish y = fr.at (Act.put ⟨fr.tmps, fr.defers⟩ ops[i].dst y) (.inRegion ops (List.range' (i + 1) (ops.size - (i + 1))) :: ys) := by
        rw [← fin_at' fr ⟨fr.tmps, fr.defers⟩ ops i _ ys (Array.getElem?_eq_getElem hlt), ← heta]
      rw [hfin]
      refine ⟨h.fn, h.is, ?_, p2, fun _ => ⟨_, ys, rfl, ⟨rfl, hrest⟩, h2⟩, ?_, rfl, h.kind, rfl⟩
      · rw [hs.dst]; exact p1
      · show DsRel P E df (Act.put _ _ _).defers
        rw [put_defers]; exact h.defers
    · cases hc
theorem raise_spec {c : AF} {fr : Frame} (h : FRel P E c fr) {ch : List (AV × Bool)} {ch' : List PanicEntry} (hp : PsRel E ch ch') : FRel P E (c.raise ch) (fr.raise ch') := by
  obtain ⟨fn, nt, tm, todo, df, mode, d⟩ := c
  have hm := h.mode
  rw [Frame.raise_mode]
  cases mode with
  | run =>
    have hm : fr.mode = .run := hm
    simp only [AF.raise, hm, raised]
    exact ⟨h.fn, h.is, h.tm, h.size, fun e => (by cases e), h.defers, ⟨_, rfl, hp⟩, h.kind, h.round⟩
  | returning =>
    have hm : fr.mode = .returning := hm
    simp only [AF.raise, hm, raised]
    exact ⟨h.fn, h.is, h.tm, h.size, fun e => (by cases e), h.defers, ⟨_, rfl, hp⟩, h.kind, h.round⟩
  | panicking old =>
    obtain ⟨old', hm, ho⟩ := hm
    simp only [AF.raise, hm, raised]
    exact ⟨h.fn, h.is, h.tm, h.size, fun e => (by cases e), h.defers, ⟨_, rfl, hp.append ho⟩, h.kind, h.round⟩
theorem dropGo : ∀ {c : List (AV × Bool)} {c' : List PanicEntry}, PsRel E c c' → c'.dropWhile (!·.goexit) = []
  | [], _, h => by obtain rfl : _ = [] := h; rfl
  | _ :: _, _, ⟨y, ys, rfl, _, _, h3, h4⟩ => by simp [List.dropWhile, h3, dropGo h4]
theorem settle_spec {c : AF} {fr : Frame} (h : FRel P E c fr) : FRel P E c.settle { fr with mode := settle fr.mode } := by
  obtain ⟨fn, nt, tm, todo, df, mode, d⟩ := c
  have hm := h.mode
  cases mode with
  | run =>
    have hm : fr.mode = .run := hm
    exact ⟨h.fn, h.is, h.tm, h.size, h.todo, h.defers, by rw [hm]; rfl, h.kind, h.round⟩
  | returning =>
    have hm : fr.mode = .returning := hm
    exact ⟨h.fn, h.is, h.tm, h.size, fun e => (by cases e), h.defers, by rw [hm]; rfl, h.kind, h.round⟩
  | panicking ch =>
    obtain ⟨ch', hm, hp⟩ := hm
    cases ch with
    | nil =>
      obtain rfl : ch' = [] := hp
      exact ⟨h.fn, h.is, h.tm, h.size, fun e => (by cases e), h.defers, by rw [hm]; exact ⟨_, rfl, rfl⟩, h.kind, h.round⟩
    | cons e older =>
      obtain ⟨v, rec⟩ := e
      have hp' := hp
      obtain ⟨e', older', rfl, h1, h2, h3, h4⟩ := hp
      obtain ⟨v', rec', ge'⟩ := e'
      simp only at h2 h3
      subst h2 h3
      cases rec' with
      | true =>
        refine ⟨h.fn, h.is, h.tm, h.size, fun e => (by cases e), h.defers, ?_, h.kind, h.round⟩
        rw [hm]
        simp only [settle, dropGo h4]
        rfl
      | false =>
        refine ⟨h.fn, h.is, h.tm, h.size, fun e => (by cases e), h.defers, ?_, h.kind, h.round⟩
        rw [hm]
        exact ⟨_, rfl, hp'⟩

theorem at_pan {fr : Frame} {a : Act} {todo : List Item} {m : FrameMode} : ({ fr.at a todo with mode := m } : Frame).defers = a.defers := rfl

/-- what a step comes to. -/
def ARRel (P : Program) (E : Env) (h : AH) (w : World) (fr : Frame) (fs base : List Frame) : AR → Prop
  | .no => True
  | .go s => ∃ E' fr' fs' w', Steps P (lone fr (fs ++ base) w) (lone fr' (fs' ++ base) w') ∧ SRel P E' s fr' fs' w' ∧ Ext E h w E' s.h w'
  | .fin e h' => h' = h ∧ fs = [] ∧ ∃ en, EndRel E e en ∧ fr.leaving P w en

theorem FsRel.nil_inv {fs : List Frame} (h : FsRel P E [] fs) : fs = [] := h
theorem stepReg_spec {sm : Nat → List AV → AH → Option (AEnd × AH)} {hyp : Hyp} (hsm : CSound P hyp sm) (hh : HypOk hyp E.ρ) {fn nt : Nat} {dfd : Bool} {ops : Array Oper} {k : List AIt} {r : RG} {h : AH} {w : World} {b : Frame} {kk : List Item} {base : List Frame} {fr : Frame} {fs : List Frame}
    (hfn : b.fn = fn) (his : ∃ f, P.funcs[fn]? = some f) (hk : b.kind = if dfd then .deferred else .normal) (hkk : IsRel P nt k kk) (hr : RGRel P E h w nt ops b kk base (lone fr (fs ++ base) w) r) :
    ARRel P E h w fr fs base (stepReg P sm fn nt dfd ops k r) := by
  cases r with
  | no => trivial
  | done tm h' df cs =>
    obtain ⟨E', a', fs', w', s, q, e⟩ := hr
    exact ⟨E', _, fs', w', s, ⟨q.hr, ⟨hfn, his, q.tm, q.size, fun _ => hkk, q.df, rfl, hk, rfl⟩, q.cs⟩, e⟩
  | call tm i l df cs f args h' =>
    obtain ⟨E', a', fs', w', ys, s, q1, q2, q, e⟩ := hr
    simp only [stepReg]
    have hfr : FRel P E' ⟨fn, nt, tm, .reg ops i l :: k, df, .run, dfd⟩ (b.at a' (.inRegion ops (List.range' i (ops.size - i)) :: kk)) := ⟨hfn, his, q.tm, q.size, fun _ => ⟨_, kk, rfl, ⟨rfl, q1⟩, hkk⟩, q.df, rfl, hk, rfl⟩
    cases hs : sm f args h' with
    | none =>
      simp only
      cases hen : AF.enter P f args false with
      | none => trivial
      | some fr' => exact ⟨E', _, _ :: fs', w', s, ⟨q.hr, enter_spec hen q2, ⟨_, fs', rfl, hfr, q.cs⟩⟩, e⟩
    | some r =>
      obtain ⟨r, h''⟩ := r
      obtain ⟨E2, w2, fr2, en, t1, t2, t3, t4, t5, t6⟩ := hsm f args h' r h'' hs E' w' ys (by rw [e.le.ρ]; exact hh) q.hr q2 (b.at a' (.inRegion ops (List.range' i (ops.size - i)) :: kk) :: (fs' ++ base))
      cases r with
      | ret v =>
        obtain ⟨y, rfl, hy⟩ := t2
        simp only
        cases hfin : AF.finish ⟨fn, nt, tm, .reg ops i l :: k, df, .run, dfd⟩ v with
        | none => trivial
        | some c' =>
          have hst := step_leave_returned (c := b.at a' (.inRegion ops (List.range' i (ops.size - i)) :: kk)) (cs := fs' ++ base) t3
          exact ⟨E2, _, fs', w2, s.trans (t1.trans (.one hst)), ⟨t5, finish_spec (hfr.mono t6.le) hy hfin, q.cs.mono t6.le⟩, e.trans t6⟩
      | pan c =>
        obtain ⟨c', rfl, hc⟩ := t2
        have hst := step_leave_panicked (c := b.at a' (.inRegion ops (List.range' i (ops.size - i)) :: kk)) (cs := fs' ++ base) t3
        exact ⟨E2, _, fs', w2, s.trans (t1.trans (.one hst)), ⟨t5, raise_spec (hfr.mono t6.le) hc, q.cs.mono t6.le⟩, e.trans t6⟩
  | pan tm i l df cs v h' =>
    obtain ⟨E', a', fs', w', y, todo, s, q1, q, e⟩ := hr
    exact ⟨E', _, fs', w', s, ⟨q.hr, ⟨hfn, his, q.tm, q.size, fun e => (by cases e), q.df, ⟨_, rfl, _, [], rfl, q1, rfl, rfl, rfl⟩, hk, rfl⟩, q.cs⟩, e⟩

theorem stepRun_spec {hyp : Hyp} {sm call : Nat → List AV → AH → Option (AEnd × AH)} (hsm : CSound P hyp sm) (hdr : DrawSound P hyp call) (hh : HypOk hyp E.ρ) {fn nt : Nat} {tm : Tr AV} {todo : List AIt} {df : List (Nat × List AV)} {dfd : Bool} {cs : List AF} {h : AH} {fr : Frame} {fs : List Frame} {w : World}
    (hs : SRel P E ⟨⟨fn, nt, tm, todo, df, .run, dfd⟩, cs, h⟩ fr fs w) (base : List Frame) : ARRel P E h w fr fs base (stepRun P hyp sm call fn nt tm todo df dfd cs h) := by
  have hf := hs.fr
  have heta := hf.eta rfl
  have htodo := hf.todo rfl
  have hr : RRel P E nt tm h df cs ⟨fr.tmps, fr.defers⟩ fs w := ⟨hs.hr, hf.tm, hf.size, hf.defers, hs.cs⟩
  -- a step that only moves
  have move : ∀ {k' : List AIt} {kk' : List Item}, IsRel P nt k' kk' → step P (lone fr (fs ++ base) w) = .next (lone (fr.at ⟨fr.tmps, fr.defers⟩ kk') (fs ++ base) w) → ARRel P E h w fr fs base (.go ⟨⟨fn, nt, tm, k', df, .run, dfd⟩, cs, h⟩) := by
    intro k' kk' hk hst
    exact ⟨E, _, fs, w, .one hst, ⟨hs.hr, ⟨hf.fn, hf.is, hf.tm, hf.size, fun _ => hk, hf.defers, rfl, hf.kind, rfl⟩, hs.cs⟩, .refl hs.hr⟩
  have done : step P (lone fr (fs ++ base) w) = .next (lone { fr.at ⟨fr.tmps, fr.defers⟩ fr.todo with mode := .returning } (fs ++ base) w) → ARRel P E h w fr fs base (.go ⟨⟨fn, nt, tm, [], df, .returning, dfd⟩, cs, h⟩) := by
    intro hst
    exact ⟨E, _, fs, w, .one hst, ⟨hs.hr, ⟨hf.fn, hf.is, hf.tm, hf.size, fun e => (by cases e), hf.defers, rfl, hf.kind, rfl⟩, hs.cs⟩, .refl hs.hr⟩
  cases todo with
  | nil =>
    have htodo : fr.todo = [] := htodo
    refine done ?_
    rw [htodo] at heta ⊢
    rw [heta]; exact step_end
  | cons it k =>
    obtain ⟨y, kk, htd, hit, hk⟩ := htodo
    have heta' : fr = fr.at ⟨fr.tmps, fr.defers⟩ (y :: kk) := by rw [← htd]; exact heta
    simp only [stepRun]
    cases it with
    | inBlock id =>
      obtain rfl : y = .inBlock id := hit
      refine move hk ?_
      generalize hq : fr.at ⟨fr.tmps, fr.defers⟩ kk = q
      rw [heta', ← hq]; exact step_inBlock
    | inScope id =>
      obtain rfl : y = .inScope id := hit
      refine move hk ?_
      generalize hq : fr.at ⟨fr.tmps, fr.defers⟩ kk = q
      rw [heta', ← hq]; exact step_inScope
    | inLoop body =>
      obtain rfl : y = .inLoop body := hit
      refine move (kk' := .code body :: .inLoop body :: kk) ⟨_, _, rfl, rfl, _, kk, rfl, rfl, hk⟩ ?_
      generalize hq : fr.at ⟨fr.tmps, fr.defers⟩ _ = q
      rw [heta', ← hq]; exact step_inLoop
    | reg ops i l =>
      obtain ⟨rfl, hl⟩ := hit
      have := reg_spec (b := fr) (hyp := hyp) (nt := nt) (ops := ops) hf.kind base kk l i tm h df cs E ⟨fr.tmps, fr.defers⟩ fs w hl hh hr
      rw [← heta'] at this
      exact stepReg_spec hsm hh hf.fn hf.is hf.kind hk this
    | code c =>
      obtain rfl : y = .code c := hit
      simp only
      cases c with
      | ret =>
        refine done ?_
        generalize hq : ({ fr.at ⟨fr.tmps, fr.defers⟩ fr.todo with mode := .returning } : Frame) = q
        rw [heta', ← hq, htd]; exact step_ret
      | skip =>
        refine move hk ?_
        generalize hq : fr.at ⟨fr.tmps, fr.defers⟩ _ = q
        rw [heta', ← hq]; exact step_skip
      | label l =>
        refine move hk ?_
        generalize hq : fr.at ⟨fr.tmps, fr.defers⟩ _ = q
        rw [heta', ← hq]; exact step_label
      | seq x z =>
        refine move (kk' := .code x :: .code z :: kk) ⟨_, _, rfl, rfl, _, kk, rfl, rfl, hk⟩ ?_
        generalize hq : fr.at ⟨fr.tmps, fr.defers⟩ _ = q
        rw [heta', ← hq]; exact step_seq
      | block id body =>
        refine move (kk' := .code body :: .inBlock id :: kk) ⟨_, _, rfl, rfl, _, kk, rfl, rfl, hk⟩ ?_
        generalize hq : fr.at ⟨fr.tmps, fr.defers⟩ _ = q
        rw [heta', ← hq]; exact step_block
      | loop body =>
        refine move (kk' := .code body :: .inLoop body :: kk) ⟨_, _, rfl, rfl, _, kk, rfl, rfl, hk⟩ ?_
        generalize hq : fr.at ⟨fr.tmps, fr.defers⟩ _ = q
        rw [heta', ← hq]; exact step_loop
      | scope body =>
        refine move (kk' := .code body :: .inScope body :: kk) ⟨_, _, rfl, rfl, _, kk, rfl, rfl, hk⟩ ?_
        generalize hq : fr.at ⟨fr.tmps, fr.defers⟩ _ = q
        rw [heta', ← hq]; exact step_scope
      | exit id =>
        simp only
        cases hex : exitIn id k with
        | none => trivial
        | some k' =>
          obtain ⟨r', g1, g2⟩ := exit_spec hk hex
          refine move g2 ?_
          generalize hq : fr.at ⟨fr.tmps, fr.defers⟩ _ = q
          rw [heta', ← hq]; exact step_exit g1
      | goto l =>
        simp only
        cases hex : gotoAt l k with
        | none => trivial
        | some k' =>
          obtain ⟨r', g1, g2⟩ := goto_spec hk hex
          refine move g2 ?_
          generalize hq : fr.at ⟨fr.tmps, fr.defers⟩ _ = q
          rw [heta', ← hq]; exact step_goto g1
      | cond c thn els =>
        have key : ∀ bb, Act.eval ⟨fr.tmps, fr.defers⟩ c = .bool bb → ARRel P E h w fr fs base (.go ⟨⟨fn, nt, tm, .code (bif bb then thn else els) :: k, df, .run, dfd⟩, cs, h⟩) := by
          intro bb hbb
          refine move (kk' := .code (if bb then thn else els) :: kk) ⟨_, kk, rfl, (by cases bb <;> rfl), hk⟩ ?_
          generalize hq : fr.at ⟨fr.tmps, fr.defers⟩ _ = q
          rw [heta', ← hq]; exact step_cond hbb
        simp only
        split
        · rename_i t
          split
          · rename_i bb hg
            exact key bb (hf.tm t _ hg)
          · trivial
        · exact key _ rfl
        · trivial
      | region id ops draw =>
        simp only
        cases draw with
        | false =>
          simp only [cond_false]
          have := reg_spec (b := fr) (hyp := hyp) (nt := nt) (ops := ops) hf.kind base kk _ 0 tm h df cs E ⟨fr.tmps, fr.defers⟩ fs w rfl hh hr
          have hst : Steps P (lone fr (fs ++ base) w) (lone (fr.at ⟨fr.tmps, fr.defers⟩ (.inRegion ops (List.range' 0 (ops.size - 0)) :: kk)) (fs ++ base) w) := by
            generalize hq : fr.at ⟨fr.tmps, fr.defers⟩ _ = q
            rw [heta', ← hq, Nat.sub_zero, ← List.range_eq_range']
            exact .one step_region
          exact stepReg_spec hsm hh hf.fn hf.is hf.kind hk (RGRel.of_steps hst (.refl hs.hr) this)
        | true =>
          simp only [cond_true]
          cases hp : planOf P nt ops with
          | none => trivial
          | some ps =>
            simp only
            have := hdr nt id ops ps hp E h w tm df ⟨fr.tmps, fr.defers⟩ fr kk (fs ++ base) hh ⟨hs.hr, hf.tm, hf.size, hf.defers, rfl⟩
            rw [← heta'] at this
            cases hd : drawIn P hyp call ps tm h df with
            | no => trivial
            | go d =>
              rw [hd] at this
              obtain ⟨E', a', w', s, q, e⟩ := this
              obtain ⟨tm', h', pa, df', rs, ws⟩ := d
              exact ⟨E', _, fs, w', s, ⟨q.hr, ⟨hf.fn, hf.is, q.tm, q.size, fun _ => hk, q.df, rfl, hf.kind, rfl⟩, hs.cs.mono e.le⟩, e⟩
            | pan tm' c h' df' =>
              rw [hd] at this
              obtain ⟨E', a', w', c', todo, s, q1, q, e⟩ := this
              exact ⟨E', _, fs, w', s, ⟨q.hr, ⟨hf.fn, hf.is, q.tm, q.size, fun e => (by cases e), q.df, ⟨_, rfl, q1⟩, hf.kind, rfl⟩, hs.cs.mono e.le⟩, e⟩
      | _ => trivial

theorem stepDefer_spec {fn nt : Nat} {tm : Tr AV} {todo : List AIt} {ds : List (Nat × List AV)} {d : Nat × List AV} {mode : AMode} (hmode : mode ≠ .run) {dfd : Bool} {cs : List AF} {h : AH} {fr : Frame} {fs : List Frame} {w : World}
    (hs : SRel P E ⟨⟨fn, nt, tm, todo, d :: ds, mode, dfd⟩, cs, h⟩ fr fs w) (base : List Frame) : ARRel P E h w fr fs base (stepDefer P ⟨fn, nt, tm, todo, ds, mode, dfd⟩ cs h d) := by
  have hf := hs.fr
  unfold stepDefer
  cases hen : AF.enter P d.1 d.2 true with
  | none => trivial
  | some fr' =>
    obtain ⟨y, ys, hd, ⟨g, cap, args, h1, h2, h3⟩, h4⟩ := hf.defers
    have hnr : fr.mode ≠ .run := by
      have hm := hf.mode
      intro e
      cases mode with
      | run => exact hmode rfl
      | returning => have hm : fr.mode = .returning := hm; rw [hm] at e; cases e
      | panicking => obtain ⟨c', hm, _⟩ := hm; rw [hm] at e; cases e
    have hst := step_defer (P := P) (fr := fr) (cs := fs ++ base) (w := w) hnr hd h1 (h3 w)
    exact ⟨E, _, { fr with defers := ys } :: fs, w, .one hst, ⟨hs.hr, enter_spec (dfd := true) hen h2, ⟨_, fs, rfl, ⟨hf.fn, hf.is, hf.tm, hf.size, fun e => absurd e hmode, h4, hf.mode, hf.kind, hf.round⟩, hs.cs⟩⟩, .refl hs.hr⟩

theorem stepIn_spec {hyp : Hyp} {sm call : Nat → List AV → AH → Option (AEnd × AH)} (hsm : CSound P hyp sm) (hdr : DrawSound P hyp call) (hh : HypOk hyp E.ρ) {s : St} {fr : Frame} {fs : List Frame} {w : World} (hs : SRel P E s fr fs w) (base : List Frame) :
    ARRel P E s.h w fr fs base (stepIn P hyp sm call s) := by
  obtain ⟨⟨fn, nt, tm, todo, df, mode, dfd⟩, cs, h⟩ := s
  have hf := hs.fr
  cases mode with
  | run => exact stepRun_spec hsm hdr hh hs base
  | returning =>
    simp only [stepIn]
    have hm : fr.mode = .returning := hf.mode
    cases df with
    | cons d ds => exact stepDefer_spec (by intro e; cases e) hs base
    | nil =>
      have hd : fr.defers = [] := hf.defers
      simp only
      cases hres : resultIn P h fn tm with
      | none => trivial
      | some v =>
        obtain ⟨f, y, g1, g2, g3⟩ := result_spec (P := P) hs.hr hf.tm hres
        have g1' : P.funcs[fr.fn]? = some f := by rw [hf.fn]; exact g1
        simp only
        cases cs with
        | nil =>
          cases dfd with
          | true => trivial
          | false =>
            exact ⟨rfl, hs.cs, .returned y, ⟨y, rfl, g3⟩, hm, hd, hf.kind, f, g1', g2⟩
        | cons c cs =>
          obtain ⟨fc, fs', hfs, hc, hcs⟩ := hs.cs
          subst hfs
          simp only
          cases dfd with
          | true =>
            simp only [cond_true]
            have hst := step_going_returned (c := fc) (cs := fs' ++ base) hf.kind ⟨hm, hd, f, g1', g2⟩
            exact ⟨E, _, fs', w, .one hst, ⟨hs.hr, settle_spec hc, hcs⟩, .refl hs.hr⟩
          | false =>
            simp only [cond_false]
            cases hfin : c.finish v with
            | none => trivial
            | some c' =>
              have hst := step_leave_returned (c := fc) (cs := fs' ++ base) (show fr.leaving P w (.returned y) from ⟨hm, hd, hf.kind, f, g1', g2⟩)
              exact ⟨E, _, fs', w, .one hst, ⟨hs.hr, finish_spec hc g3 hfin, hcs⟩, .refl hs.hr⟩
  | panicking chain =>
    simp only [stepIn]
    obtain ⟨ch', hm, hp⟩ := hf.mode
    cases df with
    | cons d ds => exact stepDefer_spec (by intro e; cases e) hs base
    | nil =>
      have hd : fr.defers = [] := hf.defers
      obtain ⟨f, g1⟩ := hf.is
      have g1' : P.funcs[fr.fn]? = some f := by rw [hf.fn]; exact g1
      simp only
      cases cs with
      | nil =>
        cases dfd with
        | true => trivial
        | false => exact ⟨rfl, hs.cs, .panicked ch', ⟨ch', rfl, hp⟩, hm, hd, f, g1'⟩
      | cons c cs =>
        obtain ⟨fc, fs', hfs, hc, hcs⟩ := hs.cs
        subst hfs
        have hst := step_leave_panicked (c := fc) (cs := fs' ++ base) (show fr.leaving P w (.panicked ch') from ⟨hm, hd, f, g1'⟩)
        exact ⟨E, _, fs', w, .one hst, ⟨hs.hr, raise_spec hc hp, hcs⟩, .refl hs.hr⟩
end
end Go.Am
