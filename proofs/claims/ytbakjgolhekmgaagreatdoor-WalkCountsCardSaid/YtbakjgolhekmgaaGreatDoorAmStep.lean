/- Steps: frames as they are known, and the operations of a region whose order is laid down. -/
import Derived.Test.YtbakjgolhekmgaaGreatDoorAmOpI
import Derived.Scope
namespace Go.Am

/- frames -/
def IRel (P : Program) (nt : Nat) : AIt → Item → Prop
  | .code c, i => i = .code c
  | .inBlock id, i => i = .inBlock id
  | .inLoop c, i => i = .inLoop c
  | .inScope c, i => i = .inScope c
  | .reg ops k l, i => i = .inRegion ops (List.range' k (ops.size - k)) ∧ l = (copers P nt ops.toList ops.toList).drop k
def IsRel (P : Program) (nt : Nat) : List AIt → List Item → Prop
  | [], l => l = []
  | x :: xs, l => ∃ y ys, l = y :: ys ∧ IRel P nt x y ∧ IsRel P nt xs ys
def DRel (P : Program) (E : Env) (x : Nat × List AV) (d : Deferred) : Prop :=
  ∃ fn cap ys, d.target = .fn fn cap ∧ VRs E x.2 (Array.toList ys) ∧ ∀ w, (invoke d.target d.args).run P w = .ok (.enter x.1 ys) w
def DsRel (P : Program) (E : Env) : List (Nat × List AV) → List Deferred → Prop
  | [], l => l = []
  | x :: xs, l => ∃ y ys, l = y :: ys ∧ DRel P E x y ∧ DsRel P E xs ys
def PsRel (E : Env) : List (AV × Bool) → List PanicEntry → Prop
  | [], l => l = []
  | x :: xs, l => ∃ y ys, l = y :: ys ∧ VR E x.1 y.v ∧ y.recovered = x.2 ∧ y.goexit = false ∧ PsRel E xs ys
def MRel (E : Env) : AMode → FrameMode → Prop
  | .run, m => m = .run
  | .returning, m => m = .returning
  | .panicking c, m => ∃ c', m = .panicking c' ∧ PsRel E c c'
structure FRel (P : Program) (E : Env) (c : AF) (fr : Frame) : Prop where
  fn : fr.fn = c.fn
  is : ∃ f, P.funcs[c.fn]? = some f
  tm : TRel E c.tm fr.tmps
  size : c.nt ≤ fr.tmps.size
  todo : c.mode = .run → IsRel P c.nt c.todo fr.todo
  defers : DsRel P E c.defers fr.defers
  mode : MRel E c.mode fr.mode
  kind : fr.kind = if c.deferred then .deferred else .normal
  round : fr.roundOf = none
def FsRel (P : Program) (E : Env) : List AF → List Frame → Prop
  | [], l => l = []
  | x :: xs, l => ∃ y ys, l = y :: ys ∧ FRel P E x y ∧ FsRel P E xs ys

section
variable {P : Program} {E E' : Env}
theorem DRel.mono (h : E.le E') {x : Nat × List AV} {d : Deferred} (r : DRel P E x d) : DRel P E' x d :=
  let ⟨fn, cap, ys, h1, h2, h3⟩ := r; ⟨fn, cap, ys, h1, VRs.mono h _ _ h2, h3⟩
theorem DsRel.mono (h : E.le E') : ∀ {x : List (Nat × List AV)} {d : List Deferred}, DsRel P E x d → DsRel P E' x d
  | [], _, r => r
  | _ :: _, _, ⟨y, ys, h1, h2, h3⟩ => ⟨y, ys, h1, h2.mono h, DsRel.mono h h3⟩
theorem PsRel.mono (h : E.le E') : ∀ {x : List (AV × Bool)} {d : List PanicEntry}, PsRel E x d → PsRel E' x d
  | [], _, r => r
  | _ :: _, _, ⟨y, ys, h1, h2, h3, h4, h5⟩ => ⟨y, ys, h1, VR.mono h _ _ h2, h3, h4, PsRel.mono h h5⟩
theorem MRel.mono (h : E.le E') {x : AMode} {m : FrameMode} (r : MRel E x m) : MRel E' x m := by
  cases x with
  | run => exact r
  | returning => exact r
  | panicking c => obtain ⟨c', h1, h2⟩ := r; exact ⟨c', h1, h2.mono h⟩
theorem FRel.mono (h : E.le E') {c : AF} {fr : Frame} (r : FRel P E c fr) : FRel P E' c fr :=
  ⟨r.fn, r.is, r.tm.mono h, r.size, r.todo, r.defers.mono h, r.mode.mono h, r.kind, r.round⟩
theorem FsRel.mono (h : E.le E') : ∀ {x : List AF} {d : List Frame}, FsRel P E x d → FsRel P E' x d
  | [], _, r => r
  | _ :: _, _, ⟨y, ys, h1, h2, h3⟩ => ⟨y, ys, h1, h2.mono h, FsRel.mono h h3⟩
theorem PsRel.append : ∀ {x x' : List (AV × Bool)} {d d' : List PanicEntry}, PsRel E x d → PsRel E x' d' → PsRel E (x ++ x') (d ++ d')
  | [], _, _, _, r, r' => by obtain rfl : _ = [] := r; exact r'
  | _ :: _, _, _, _, ⟨y, ys, h1, h2, h3, h4, h5⟩, r' => by subst h1; exact ⟨y, ys ++ _, rfl, h2, h3, h4, h5.append r'⟩

/- slots -/
theorem get_argsIn : ∀ (l : List AV) (i : Nat) (t : Tr AV) (m : Nat), (argsIn l i t).get m = if i ≤ m ∧ m < i + l.length then l[m - i]? else t.get m
  | [], i, t, m => by
    simp only [argsIn, List.length_nil, Nat.add_zero]
    rw [if_neg (by omega)]
  | a :: l, i, t, m => by
    simp only [argsIn, List.length_cons]
    rw [get_argsIn l (Nat.succ i) (t.set i a) m]
    by_cases h1 : i + 1 ≤ m ∧ m < i + 1 + l.length
    · rw [if_pos (show Nat.succ i ≤ m ∧ m < Nat.succ i + l.length from h1), if_pos (by omega)]
      rw [show m - i = (m - Nat.succ i) + 1 by omega, List.getElem?_cons_succ]
    · rw [if_neg (show ¬ (Nat.succ i ≤ m ∧ m < Nat.succ i + l.length) from h1)]
      by_cases h2 : m = i
      · subst h2
        rw [Tr.get_set_same, if_pos (by omega), Nat.sub_self]; rfl
      · rw [Tr.get_set_other _ _ h2, if_neg (by omega)]
theorem TRel.leaf (vs : Array Value) : TRel E .leaf vs := fun t v h => by simp at h
theorem TRel.args {l : List AV} {ys : Array Value} (h : VRs E l ys.toList) (m : Nat) : TRel E (argsIn l 0 .leaf) (ys ++ Array.replicate m undef) := by
  intro t v ht
  rw [get_argsIn] at ht
  split at ht
  · rename_i hlt
    rw [Nat.sub_zero] at ht
    obtain ⟨y, hy, hr⟩ := h.get t v ht
    rw [Array.getElem?_toList] at hy
    have hlt2 := (Array.getElem?_eq_some_iff.1 hy).1
    have : (ys ++ Array.replicate m undef).getD t undef = y := by
      rw [Array.getD_eq_getD_getElem?, Array.getElem?_append_left hlt2, hy]; rfl
    rw [this]; exact hr
  · simp at ht
theorem TRel.put {nt : Nat} {tm : Tr AV} {a : Act} (ht : TRel E tm a.tmps) (hs : nt ≤ a.tmps.size) {v : AV} {y : Value} (hv : VR E v y) {dst : Option Nat} (hd : ∀ d, dst = some d → d < nt) :
    TRel E (putP tm (dst.map pathOf) v) (a.put dst y).tmps ∧ nt ≤ (a.put dst y).tmps.size := by
  cases dst with
  | none => exact ⟨ht, hs⟩
  | some d =>
    have hlt := hd d rfl
    refine ⟨fun t u hu => ?_, by simp [Act.put]; exact hs⟩
    simp only [Option.map_some, putP, Tr.get_setP] at hu
    simp only [Act.put]
    by_cases e : t = d
    · rw [if_pos e] at hu
      obtain rfl := Option.some.inj hu
      subst e
      have : (a.tmps.setIfInBounds t y).getD t undef = y := by
        rw [Array.getD_eq_getD_getElem?, Array.getElem?_setIfInBounds, if_pos rfl, if_pos (by omega)]; rfl
      rw [this]; exact hv
    · rw [if_neg e] at hu
      have : (a.tmps.setIfInBounds d y).getD t undef = a.tmps.getD t undef := by
        rw [Array.getD_eq_getD_getElem?, Array.getElem?_setIfInBounds, if_neg (fun h => e h.symm), ← Array.getD_eq_getD_getElem?]
      rw [this]; exact ht t u hu
theorem put_defers (a : Act) (dst : Option Nat) (y : Value) : (a.put dst y).defers = a.defers := by cases dst <;> rfl

/- operations made ready -/
structure CSpec (P : Program) (nt : Nat) (ops : List Oper) (o : Oper) (co : CO) : Prop where
  op : cop P o.op = some co.op
  dst : co.dst = o.dst.map pathOf
  lt : ∀ d, o.dst = some d → d < nt
  guard : (o.guard = none ∧ co.guard = none) ∨ ∃ j b oj d, o.guard = some (j, b) ∧ ops[j]? = some oj ∧ oj.dst = some d ∧ co.guard = some (pathOf d, b)
theorem coper_spec {nt : Nat} {ops : List Oper} {o : Oper} {co : CO} (h : coper P nt ops o = some co) : CSpec P nt ops o co := by
  unfold coper at h
  cases h1 : cop P o.op with
  | none => rw [h1] at h; cases h
  | some a =>
    rw [h1] at h
    simp only at h
    have hdst : ∀ dst, (match o.dst with
      | none => some none
      | some d => bif Nat.blt d nt then some (some (pathOf d)) else none : Option (Option (List Bool))) = some dst → dst = o.dst.map pathOf ∧ ∀ d, o.dst = some d → d < nt := by
      intro dst hd
      cases h2 : o.dst with
      | none => rw [h2] at hd; cases hd; exact ⟨rfl, fun d h => by cases h⟩
      | some d =>
        rw [h2] at hd
        simp only at hd
        cases hb : Nat.blt d nt with
        | false => rw [hb] at hd; cases hd
        | true =>
          rw [hb] at hd
          cases hd
          exact ⟨rfl, fun d' h => by cases h; exact Nat.le_of_ble_eq_true hb⟩
    split at h
    · cases h
    · rename_i dst hd
      obtain ⟨q1, q2⟩ := hdst dst hd
      cases h3 : o.guard with
      | none =>
        rw [h3] at h
        cases h
        exact ⟨h1, q1, q2, .inl ⟨h3, rfl⟩⟩
      | some g =>
        obtain ⟨j, b⟩ := g
        rw [h3] at h
        simp only at h
        cases h4 : ops[j]? with
        | none => rw [h4] at h; cases h
        | some oj =>
          rw [h4] at h
          simp only at h
          cases h5 : oj.dst with
          | none => rw [h5] at h; cases h
          | some d =>
            rw [h5] at h
            cases h
            exact ⟨h1, q1, q2, .inr ⟨j, b, oj, d, h3, h4, h5, rfl⟩⟩
theorem copers_get (P : Program) (nt : Nat) (ops : List Oper) : ∀ (l : List Oper) (i : Nat), (copers P nt ops l)[i]? = (l[i]?).map (coper P nt ops)
  | [], i => by simp [copers]
  | o :: l, 0 => rfl
  | o :: l, i + 1 => by simp only [copers, List.getElem?_cons_succ]; exact copers_get P nt ops l i
theorem length_copers (P : Program) (nt : Nat) (ops : List Oper) : ∀ (l : List Oper), (copers P nt ops l).length = l.length
  | [] => rfl
  | o :: l => by simp [copers, length_copers P nt ops l]

theorem wanted_spec {nt : Nat} {ops : Array Oper} {o : Oper} {co : CO} (hc : CSpec P nt ops.toList o co) {tm : Tr AV} {tmps : Array Value} (ht : TRel E tm tmps) {b : Bool} (hw : wantedIn tm co.guard = some b) : Region.wanted o (yielded ops tmps) = b := by
  unfold Region.wanted
  rcases hc.guard with ⟨h1, h2⟩ | ⟨j, want, oj, d, h1, h2, h3, h4⟩
  · rw [h2] at hw
    cases hw
    rw [h1]
  · rw [h4] at hw
    simp only [wantedIn, Tr.getP_pathOf] at hw
    rw [h1]
    simp only
    have hy : yielded ops tmps j = match tmps[d]? with | some (.bool b) => some b | _ => none := by
      rw [Array.getElem?_toList] at h2
      unfold yielded
      rw [h2]
      simp only [Option.bind_some, h3]
      rfl
    cases hg : tm.get d with
    | none => rw [hg] at hw; cases hw
    | some v =>
      rw [hg] at hw
      have hv := ht d v hg
      simp only at hw
      split at hw
      · rename_i c
        cases hw
        have hv : tmps.getD d undef = .bool c := hv
        have : tmps[d]? = some (.bool c) := by
          rw [Array.getD_eq_getD_getElem?] at hv
          cases hq : tmps[d]? with
          | none => rw [hq] at hv; cases hv
          | some u => rw [hq] at hv; simp only [Option.getD_some] at hv; rw [hv]
        rw [hy, this]
        cases c <;> cases want <;> rfl
      · cases hw
        obtain ⟨arr, hv, hn⟩ := hv
        have : ∀ c, tmps[d]? ≠ some (.bool c) := by
          intro c hq
          rw [Array.getD_eq_getD_getElem?, hq] at hv
          cases hv
        rw [hy]
        split
        · rename_i c hq; exact absurd hq (this c)
        · rfl
      · cases hw

/- one operation of a region -/
section op
variable {b : Frame} {a : Act} {k : List Item} {cs : List Frame} {w w' : World} {ops : Array Oper} {i : Nat} {rest : List Nat} {o : Oper}
theorem fin_at (ho : ops[i]? = some o) (v : Value) : (b.at a (.inRegion ops (i :: rest) :: k)).finish v = b.at (a.put o.dst v) (.inRegion ops rest :: k) := by
  rw [Frame.finish_at, ho]; rfl
theorem step_val (ho : ops[i]? = some o) (hw : Region.wanted o (yielded ops a.tmps) = true) {y : Value} {nx : Next} (hn : nx = .value y ∨ (nx = .skip ∧ y = undef)) (hr : (execOp a.eval o).run P w = .ok nx w') :
    step P (lone (b.at a (.inRegion ops (i :: rest) :: k)) cs w) = .next (lone (b.at (a.put o.dst y) (.inRegion ops rest :: k)) cs w') := by
  refine step_lone_go ?_
  rw [stepG_op ho hw, ← fin_at ho]
  rcases hn with rfl | ⟨rfl, rfl⟩ <;> simp [stepG.apply, hr]
theorem step_dfr (ho : ops[i]? = some o) (hw : Region.wanted o (yielded ops a.tmps) = true) {d : Deferred} (hr : (execOp a.eval o).run P w = .ok (.defer d) w') :
    step P (lone (b.at a (.inRegion ops (i :: rest) :: k)) cs w) = .next (lone (b.at ({ a with defers := d :: a.defers }.put o.dst undef) (.inRegion ops rest :: k)) cs w') := by
  refine step_lone_go ?_
  have : ({ b.at a (.inRegion ops (i :: rest) :: k) with defers := d :: a.defers } : Frame).finish undef =
      b.at ({ a with defers := d :: a.defers }.put o.dst undef) (.inRegion ops rest :: k) := by
    have := Frame.finish_at b { a with defers := d :: a.defers } ops i rest k undef
    rw [ho] at this; exact this
  rw [stepG_op ho hw]
  simp only [stepG.apply, Sem.runT_eq, hr, GStep.bare_after]
  exact congrArg (fun fr => GStep.go { frame := fr, callers := cs, status := .running, dying := none } w') this
theorem step_ent (ho : ops[i]? = some o) (hw : Region.wanted o (yielded ops a.tmps) = true) {f : Nat} {args : Array Value} (hr : (execOp a.eval o).run P w = .ok (.enter f args) w') :
    step P (lone (b.at a (.inRegion ops (i :: rest) :: k)) cs w) = .next (lone (Frame.enter P f args .normal) (b.at a (.inRegion ops (i :: rest) :: k) :: cs) w') :=
  step_lone_go (by rw [stepG_op ho hw]; simp [stepG.apply, hr, Frame.at])
theorem step_pan (ho : ops[i]? = some o) (hw : Region.wanted o (yielded ops a.tmps) = true) {v : Value} (hr : (execOp a.eval o).run P w = .halt (.panic v) w') :
    step P (lone (b.at a (.inRegion ops (i :: rest) :: k)) cs w) = .next (lone { b.at a (.inRegion ops (i :: rest) :: k) with mode := .panicking [{ v, recovered := false }] } cs w') :=
  step_lone_go (by rw [stepG_op ho hw, ← Frame.raise_at]; simp [stepG.apply, hr])
theorem step_rcv_none (ho : ops[i]? = some o) (hw : Region.wanted o (yielded ops a.tmps) = true) (hr : (execOp a.eval o).run P w = .ok .recover w') (ht : tryRecover (b.at a (.inRegion ops (i :: rest) :: k)) cs = none) :
    step P (lone (b.at a (.inRegion ops (i :: rest) :: k)) cs w) = .next (lone (b.at (a.put o.dst .nilIface) (.inRegion ops rest :: k)) cs w') := by
  refine step_lone_go ?_
  rw [stepG_op ho hw, ← fin_at ho]
  simp only [Frame.at] at ht ⊢
  simp [stepG.apply, hr, ht]
theorem step_rcv_some (ho : ops[i]? = some o) (hw : Region.wanted o (yielded ops a.tmps) = true) (hr : (execOp a.eval o).run P w = .ok .recover w') {v : Value} {cs' : List Frame} (ht : tryRecover (b.at a (.inRegion ops (i :: rest) :: k)) cs = some (v, cs')) :
    step P (lone (b.at a (.inRegion ops (i :: rest) :: k)) cs w) = .next (lone (b.at (a.put o.dst v) (.inRegion ops rest :: k)) cs' w') := by
  refine step_lone_go ?_
  rw [stepG_op ho hw, ← fin_at ho]
  simp only [Frame.at] at ht ⊢
  simp [stepG.apply, hr, ht]
theorem step_not (ho : ops[i]? = some o) (hw : Region.wanted o (yielded ops a.tmps) = false) :
    step P (lone (b.at a (.inRegion ops (i :: rest) :: k)) cs w) = .next (lone (b.at (a.put o.dst undef) (.inRegion ops rest :: k)) cs w) := by
  have hs := step_op_skip (P := P) (b := b) (a := a) (k := k) (cs := cs) (w := w) (ops := ops) (i := i) (rest := rest) (by simp [ho, hw])
  simp only [ho, Option.bind_some] at hs
  exact hs
end op

theorem recover_spec {cs : List AF} {fs : List Frame} (h : FsRel P E cs fs) (base : List Frame) (hne : cs ≠ []) :
    match recoverIn cs with
    | some (v, cs') => ∃ y fs', recoverD (fs ++ base) = some (y, fs' ++ base) ∧ VR E v y ∧ FsRel P E cs' fs'
    | none => recoverD (fs ++ base) = none := by
  cases cs with
  | nil => exact absurd rfl hne
  | cons c cs =>
    obtain ⟨f, fs, rfl, hf, hfs⟩ := h
    obtain ⟨fn, nt, tm, todo, df, mode, d⟩ := c
    have hm := hf.mode
    cases mode with
    | run =>
      have hm : f.mode = .run := hm
      simp only [recoverIn, List.cons_append, recoverD, hm]
    | returning =>
      have hm : f.mode = .returning := hm
      simp only [recoverIn, List.cons_append, recoverD, hm]
    | panicking ch =>
      obtain ⟨ch', hm, hp⟩ := hm
      cases ch with
      | nil =>
        obtain rfl : ch' = [] := hp
        simp only [recoverIn, List.cons_append, recoverD, hm]
      | cons e older =>
        obtain ⟨v, rec⟩ := e
        obtain ⟨e', older', rfl, h1, h2, h3, h4⟩ := hp
        obtain ⟨v', rec', ge'⟩ := e'
        simp only at h2 h3
        subst h2 h3
        cases rec' with
        | true => simp only [recoverIn, List.cons_append, recoverD, hm]
        | false =>
          simp only [recoverIn, List.cons_append, recoverD, hm]
          exact ⟨v', { f with mode := .panicking ({ v := v', recovered := true } :: older') } :: fs, rfl, h1, ⟨_, fs, rfl, ⟨hf.fn, hf.is, hf.tm, hf.size, fun h => (by cases h), hf.defers, ⟨_, rfl, _, older', rfl, h1, rfl, rfl, h4⟩, hf.kind, hf.round⟩, hfs⟩⟩

theorem regIn_nil (hyp : Hyp) (dfd : Bool) (i : Nat) (tm : Tr AV) (h : AH) (df : List (Nat × List AV)) (cs : List AF) : regIn P hyp dfd [] i tm h df cs = .done tm h df cs := rfl
theorem regIn_cons (hyp : Hyp) (dfd : Bool) (o : CO) (rest : List (Option CO)) (i : Nat) (tm : Tr AV) (h : AH) (df : List (Nat × List AV)) (cs : List AF) : regIn P hyp dfd (some o :: rest) i tm h df cs =
      match wantedIn tm o.guard with
      | none => .no
      | some false => regIn P hyp dfd rest (Nat.succ i) (putP tm o.dst .undef) h df cs
      | some true =>
        match xop P hyp tm h o.op with
        | .no => .no
        | .v v h' => regIn P hyp dfd rest (Nat.succ i) (putP tm o.dst v) h' df cs
        | .dfr g args h' => regIn P hyp dfd rest (Nat.succ i) (putP tm o.dst .undef) h' ((g, args) :: df) cs
        | .call f args h' => .call tm i (some o :: rest) df cs f args h'
        | .pan v h' => .pan tm i (some o :: rest) df cs v h'
        | .rcv h' =>
          bif dfd then
            match cs with
            | [] => .no
            | c :: cs' => match recoverIn (c :: cs') with
              | some (v, cs'') => regIn P hyp dfd rest (Nat.succ i) (putP tm o.dst v) h' df cs''
              | none => regIn P hyp dfd rest (Nat.succ i) (putP tm o.dst .nilface) h' df (c :: cs')
          else regIn P hyp dfd rest (Nat.succ i) (putP tm o.dst .nilface) h' df cs := rfl

/-- what the way through a region comes to. -/
structure RRel (P : Program) (E : Env) (nt : Nat) (tm : Tr AV) (h : AH) (df : List (Nat × List AV)) (cs : List AF) (a : Act) (fs : List Frame) (w : World) : Prop where
  hr : HRel E h w
  tm : TRel E tm a.tmps
  size : nt ≤ a.tmps.size
  df : DsRel P E df a.defers
  cs : FsRel P E cs fs
def RGRel (P : Program) (E : Env) (h : AH) (w : World) (nt : Nat) (ops : Array Oper) (b : Frame) (k : List Item) (base : List Frame) (m : Machine) : RG → Prop
  | .no => True
  | .done tm' h' df' cs' => ∃ E' a' fs' w', Steps P m (lone (b.at a' k) (fs' ++ base) w') ∧ RRel P E' nt tm' h' df' cs' a' fs' w' ∧ Ext E h w E' h' w'
  | .call tm' i' l' df' cs' f args h' => ∃ E' a' fs' w' ys, Steps P m (lone (Frame.enter P f ys .normal) (b.at a' (.inRegion ops (List.range' i' (ops.size - i')) :: k) :: (fs' ++ base)) w') ∧ l' = (copers P nt ops.toList ops.toList).drop i' ∧
      VRs E' args ys.toList ∧ RRel P E' nt tm' h' df' cs' a' fs' w' ∧ Ext E h w E' h' w'
  | .pan tm' _ _ df' cs' v h' => ∃ E' a' fs' w' y todo, Steps P m (lone { b.at a' todo with mode := .panicking [{ v := y, recovered := false }] } (fs' ++ base) w') ∧
      VR E' v y ∧ RRel P E' nt tm' h' df' cs' a' fs' w' ∧ Ext E h w E' h' w'
theorem RGRel.of_steps {E E1 : Env} {h h1 : AH} {w w1 : World} {nt : Nat} {ops : Array Oper} {b : Frame} {k : List Item} {base : List Frame} {m m1 : Machine} {r : RG} (hs : Steps P m m1) (he : Ext E h w E1 h1 w1)
    (hr : RGRel P E1 h1 w1 nt ops b k base m1 r) : RGRel P E h w nt ops b k base m r := by
  cases r with
  | no => trivial
  | done => obtain ⟨E', a', fs', w', s, q, e⟩ := hr; exact ⟨E', a', fs', w', hs.trans s, q, he.trans e⟩
  | call => obtain ⟨E', a', fs', w', ys, s, q1, q2, q, e⟩ := hr; exact ⟨E', a', fs', w', ys, hs.trans s, q1, q2, q, he.trans e⟩
  | pan => obtain ⟨E', a', fs', w', y, todo, s, q1, q, e⟩ := hr; exact ⟨E', a', fs', w', y, todo, hs.trans s, q1, q, he.trans e⟩

theorem reg_spec {hyp : Hyp} {nt : Nat} {ops : Array Oper} {b : Frame} {dfd : Bool} (hk : b.kind = if dfd then .deferred else .normal) (base : List Frame) (k : List Item) :
    ∀ (l : List (Option CO)) (i : Nat) (tm : Tr AV) (h : AH) (df : List (Nat × List AV)) (cs : List AF) (E : Env) (a : Act) (fs : List Frame) (w : World),
      l = (copers P nt ops.toList ops.toList).drop i → HypOk hyp E.ρ → RRel P E nt tm h df cs a fs w →
      RGRel P E h w nt ops b k base (lone (b.at a (.inRegion ops (List.range' i (ops.size - i)) :: k)) (fs ++ base) w) (regIn P hyp dfd l i tm h df cs) := by
  intro l
  induction l with
  | nil =>
    intro i tm h df cs E a fs w hl hh hr
    have hlen : ops.size - i = 0 := by
      have := congrArg List.length hl
      rw [List.length_drop, length_copers] at this
      have h2 : ops.toList.length = ops.size := Array.length_toList
      simp only [List.length_nil] at this
      omega
    rw [hlen]
    exact ⟨E, a, fs, w, .one step_region_end, hr, .refl hr.hr⟩
  | cons c rest ih =>
    intro i tm h df cs E a fs w hl hh hr
    have hlt : i < ops.size := by
      have := congrArg List.length hl
      rw [List.length_drop, length_copers] at this
      have h2 : ops.toList.length = ops.size := Array.length_toList
      simp only [List.length_cons] at this
      omega
    have hrest : rest = (copers P nt ops.toList ops.toList).drop (i + 1) := by
      have := congrArg List.tail hl
      rwa [List.tail_cons, List.tail_drop] at this
    have hc : c = coper P nt ops.toList ops[i] := by
      have h0 : (c :: rest)[0]? = some c := rfl
      rw [hl, List.getElem?_drop, copers_get, Nat.add_zero, Array.getElem?_toList, Array.getElem?_eq_getElem hlt] at h0
      exact (Option.some.inj h0).symm
    rw [show List.range' i (ops.size - i) = i :: List.range' (i + 1) (ops.size - (i + 1)) by
      rw [show ops.size - i = (ops.size - (i + 1)) + 1 by omega, List.range'_succ]]
    have ho : ops[i]? = some ops[i] := Array.getElem?_eq_getElem hlt
    cases c with
    | none => trivial
    | some co =>
      have hs := coper_spec hc.symm
      rw [regIn_cons]
      cases hw : wantedIn tm co.guard with
      | none => trivial
      | some wt =>
        have hwt := wanted_spec hs hr.tm hw
        cases wt with
        | false =>
          simp only
          obtain ⟨p1, p2⟩ := hr.tm.put hr.size (v := .undef) (y := undef) undef_rel hs.lt
          rw [hs.dst]
          exact RGRel.of_steps (.one (step_not ho hwt)) (.refl hr.hr) (ih (i + 1) _ h df cs E (a.put ops[i].dst undef) fs w hrest hh ⟨hr.hr, p1, p2, by rw [put_defers]; exact hr.df, hr.cs⟩)
        | true =>
          simp only
          have hx := xop_spec (h := h) (w := w) (hyp := hyp) (tm := tm) (a := a) hh hr.hr hr.tm hs.op
          cases hop : xop P hyp tm h co.op with
          | no => trivial
          | v v h' =>
            rw [hop] at hx
            obtain ⟨nx, y, w', E', e1, e2, e3, e4, e5⟩ := hx
            simp only
            obtain ⟨p1, p2⟩ := (hr.tm.mono e5.le).put hr.size e3 hs.lt
            rw [hs.dst]
            exact RGRel.of_steps (.one (step_val ho hwt e2 e1)) e5 (ih (i + 1) _ h' df cs E' (a.put ops[i].dst y) fs w' hrest (by rw [e5.le.ρ]; exact hh) ⟨e4, p1, p2, by rw [put_defers]; exact hr.df.mono e5.le, hr.cs.mono e5.le⟩)
          | dfr g args h' =>
            rw [hop] at hx
            obtain ⟨fn, cap, xs, ys, e1, e2, rfl, e4⟩ := hx
            simp only
            obtain ⟨p1, p2⟩ := hr.tm.put (a := { a with defers := { target := .fn fn cap, args := xs } :: a.defers }) hr.size (v := .undef) (y := undef) undef_rel hs.lt
            rw [hs.dst]
            exact RGRel.of_steps (.one (step_dfr ho hwt e1)) (.refl hr.hr) (ih (i + 1) _ h' ((g, args) :: df) cs E _ fs w hrest hh ⟨hr.hr, p1, p2, by rw [put_defers]; exact ⟨_, _, rfl, ⟨fn, cap, ys, rfl, e2, e4⟩, hr.df⟩, hr.cs⟩)
          | call f args h' =>
            rw [hop] at hx
            obtain ⟨ys, e1, e2, rfl⟩ := hx
            simp only
            refine ⟨E, a, fs, w, ys, ?_, hl, e2, hr, .refl hr.hr⟩
            rw [show List.range' i (ops.size - i) = i :: List.range' (i + 1) (ops.size - (i + 1)) by
              rw [show ops.size - i = (ops.size - (i + 1)) + 1 by omega, List.range'_succ]]
            exact .one (step_ent ho hwt e1)
          | pan v h' =>
            rw [hop] at hx
            obtain ⟨y, e1, e2, rfl⟩ := hx
            simp only
            exact ⟨E, a, fs, w, y, _, .one (step_pan ho hwt e1), e2, hr, .refl hr.hr⟩
          | rcv h' =>
            rw [hop] at hx
            obtain ⟨e1, rfl⟩ := hx
            simp only
            have nilcase : tryRecover (b.at a (.inRegion ops (i :: List.range' (i + 1) (ops.size - (i + 1))) :: k)) (fs ++ base) = none →
                RGRel P E h' w nt ops b k base (lone (b.at a (.inRegion ops (i :: List.range' (i + 1) (ops.size - (i + 1))) :: k)) (fs ++ base) w) (regIn P hyp dfd rest (Nat.succ i) (putP tm co.dst .nilface) h' df cs) := by
              intro ht
              obtain ⟨p1, p2⟩ := hr.tm.put hr.size (v := .nilface) (y := .nilIface) (by exact rfl) hs.lt
              rw [hs.dst]
              exact RGRel.of_steps (.one (step_rcv_none ho hwt e1 ht)) (.refl hr.hr) (ih (i + 1) _ h' df cs E (a.put ops[i].dst .nilIface) fs w hrest hh ⟨hr.hr, p1, p2, by rw [put_defers]; exact hr.df, hr.cs⟩)
            cases dfd with
            | false =>
              simp only [cond_false]
              refine nilcase ?_
              have hkn : (b.at a (.inRegion ops (i :: List.range' (i + 1) (ops.size - (i + 1))) :: k)).kind = .normal := hk
              unfold tryRecover
              rw [hkn]
            | true =>
              simp only [cond_true]
              have hkd : (b.at a (.inRegion ops (i :: List.range' (i + 1) (ops.size - (i + 1))) :: k)).kind = .deferred := hk
              cases cs with
              | nil => trivial
              | cons c0 cs0 =>
                simp only
                have hrec := recover_spec hr.cs base (by simp)
                cases hq : recoverIn (c0 :: cs0) with
                | none =>
                  rw [hq] at hrec
                  exact nilcase (by rw [tryRecover_deferred hkd]; exact hrec)
                | some p =>
                  obtain ⟨v, cs''⟩ := p
                  rw [hq] at hrec
                  obtain ⟨y, fs', r1, r2, r3⟩ := hrec
                  simp only
                  obtain ⟨p1, p2⟩ := hr.tm.put hr.size r2 hs.lt
                  rw [hs.dst]
                  have hst := step_rcv_some (b := b) (k := k) (rest := List.range' (i + 1) (ops.size - (i + 1))) ho hwt e1 ((tryRecover_deferred hkd _).trans r1)
                  exact RGRel.of_steps (.one hst) (.refl hr.hr) (ih (i + 1) _ h' df cs'' E (a.put ops[i].dst y) fs' w hrest hh ⟨hr.hr, p1, p2, by rw [put_defers]; exact hr.df, r3⟩)
end
end Go.Am
