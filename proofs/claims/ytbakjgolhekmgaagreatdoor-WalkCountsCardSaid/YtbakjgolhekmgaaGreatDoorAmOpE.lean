/- Operations, one by one (fourth part): '==' and '!='; small ones; slices and indexes. -/
import Derived.Test.YtbakjgolhekmgaaGreatDoorAmOpD
namespace Go.Am

section
variable {P : Program} {E : Env} {h : AH} {w : World} {hyp : Hyp}

def numV (u : Value) : Bool := match u with
  | .int .. | .float .. | .complex .. | .string _ => true
  | _ => false
/-- '==' and '!=' by the types' own equality. -/
def ByEq (P : Program) (t : TypeId) (u u' : Value) : Prop :=
  (∀ w, (Go.binOp .eql t u u').run P w = ((Op.equal t u u').run P w).andThen fun b w' => .ok (.bool b) w') ∧
  (∀ w, (Go.binOp .neq t u u').run P w = ((Op.equal t u u').run P w).andThen fun b w' => .ok (.bool (!b)) w')
/-- values that the guard lets by. -/
def Free (u u' : Value) : Prop := ∀ (P : Program) (w : World) (o : BinOp) (t : TypeId) (x y : Operand), (eqGuard o t x y u u').run P w = .ok () w

theorem free_left {u u' : Value} (h1 : u ≠ .nilIface) (h2 : ∀ a, u ≠ .agg a) : Free u u' := by
  intro P w o t x y
  unfold eqGuard
  cases u <;> first
    | exact absurd rfl h1
    | exact absurd rfl (h2 _)
    | (cases o <;> rfl)
theorem free_right {u u' : Value} (h1 : u' ≠ .nilIface) (h2 : ∀ a, u' ≠ .agg a) : Free u u' := by
  intro P w o t x y
  unfold eqGuard
  cases u' <;> first
    | exact absurd rfl h1
    | exact absurd rfl (h2 _)
    | (cases o <;> cases u <;> rfl)

theorem byEq_of {t : TypeId} {u u' : Value} (h : numV u = false) : ByEq P t u u' := by
  cases u <;> first
    | (simp [numV] at h; done)
    | exact ⟨fun w => by simp [Go.binOp], fun w => by simp [Go.binOp]⟩

theorem eq_of (hh : HypOk hyp E.ρ) (hr : HRel E h w) {t : Nat} {x y : AV} {r : Bool} {u u' : Value} (he : eqIn P hyp h 20 t x y = some r) (hx : VR E x u) (hy : VR E y u') (hb : ByEq P t u u') :
    (Go.binOp .eql t u u').run P w = .ok (.bool r) w ∧ (Go.binOp .neq t u u').run P w = .ok (.bool (!r)) w := by
  have := eqIn_spec hh hr 20 10000 (by omega) t x y r u u' he hx hy
  refine ⟨?_, ?_⟩
  · rw [hb.1 w]; show ((Op.equalIn Op.maxDepth t u u').run P w).andThen _ = _; rw [show Op.maxDepth = 10000 from rfl, this]; rfl
  · rw [hb.2 w]; show ((Op.equalIn Op.maxDepth t u u').run P w).andThen _ = _; rw [show Op.maxDepth = 10000 from rfl, this]; rfl

theorem eqIn_bot : ∀ (d : Nat) {t : Nat} {x y : AV} {r : Bool}, eqIn P hyp h d t x y = some r → x ≠ .bot ∧ y ≠ .bot
  | 0, t, x, y, r, he => by simp [eqIn] at he
  | d + 1, t, x, y, r, he => by
    simp only [eqIn] at he
    cases hu : P.underlying t with
    | none => rw [hu] at he; cases he
    | some td =>
      rw [hu] at he
      refine ⟨fun e => ?_, fun e => ?_⟩
      · subst e; cases td <;> simp at he
      · subst e; cases td <;> cases x <;> simp at he
theorem eqIn_int : ∀ (d : Nat) {t : Nat} {k : IntKind} {a : AI} {y : AV} {r : Bool}, eqIn P hyp h d t (.int k a) y = some r → ∃ k' b, y = .int k' b
  | 0, t, k, a, y, r, he => by simp [eqIn] at he
  | d + 1, t, k, a, y, r, he => by
    simp only [eqIn] at he
    cases hu : P.underlying t with
    | none => rw [hu] at he; cases he
    | some td =>
      rw [hu] at he
      cases y
      case int k' b => exact ⟨k', b, rfl⟩
      all_goals (cases td <;> simp at he)
theorem eqIn_str : ∀ (d : Nat) {t : Nat} {s n : Nat} {y : AV} {r : Bool}, eqIn P hyp h d t (.str s n) y = some r → ∃ s' n', y = .str s' n'
  | 0, t, k, a, y, r, he => by simp [eqIn] at he
  | d + 1, t, k, a, y, r, he => by
    simp only [eqIn] at he
    cases hu : P.underlying t with
    | none => rw [hu] at he; cases he
    | some td =>
      rw [hu] at he
      cases y
      case str k' b => exact ⟨k', b, rfl⟩
      all_goals (cases td <;> simp at he)
/-- which left sides there are where two values were compared. -/
theorem eq_left {d t : Nat} {x y : AV} {r : Bool} {u : Value} (he : eqIn P hyp h d t x y = some r) (hx : VR E x u) (h1 : ∀ k a k' b, ¬ (x = .int k a ∧ y = .int k' b)) (h2 : ∀ s n s' n', ¬ (x = .str s n ∧ y = .str s' n')) :
    numV u = false := by
  have hb := (eqIn_bot d he).1
  cases x
  case bot => exact absurd rfl hb
  case int k a =>
    obtain ⟨k', b, rfl⟩ := eqIn_int d he
    exact absurd ⟨rfl, rfl⟩ (h1 _ _ _ _)
  case str a n =>
    obtain ⟨k', b, rfl⟩ := eqIn_str d he
    exact absurd ⟨rfl, rfl⟩ (h2 _ _ _ _)
  all_goals first
      | (obtain rfl : u = _ := hx; rfl)
      | (obtain ⟨_, _, rfl⟩ := hx; rfl)
      | (obtain ⟨_, rfl, _⟩ := hx; rfl)
      | (obtain ⟨_, _, rfl, _⟩ := hx; rfl)

theorem guard_nil {o : BinOp} {t : TypeId} {X Y : Operand} (hc : (isConst X || isConst Y) = true) : (eqGuard o t X Y .nilIface .nilIface).run P w = .ok () w := by
  unfold eqGuard
  cases X <;> cases Y <;> first
    | (simp [isConst] at hc; done)
    | (cases o <;> rfl)

set_option maxHeartbeats 1000000 in
theorem cmpIn_spec (hh : HypOk hyp E.ρ) (hr : HRel E h w) {t : Nat} {X Y : Operand} {x y : AV} {r : Bool} {u u' : Value} (he : cmpIn P hyp h t (isConst X || isConst Y) (P.eqGuardType P.depth t) x y = some r) (hx : VR E x u) (hy : VR E y u') :
    ((do eqGuard .eql t X Y u u'; Go.binOp .eql t u u' : Sem Value).run P w = .ok (.bool r) w) ∧ ((do eqGuard .neq t X Y u u'; Go.binOp .neq t u u' : Sem Value).run P w = .ok (.bool (!r)) w) := by
  have fin : ∀ (g : ∀ o, (eqGuard o t X Y u u').run P w = .ok () w), ((Go.binOp .eql t u u').run P w = .ok (.bool r) w ∧ (Go.binOp .neq t u u').run P w = .ok (.bool (!r)) w) →
      ((do eqGuard .eql t X Y u u'; Go.binOp .eql t u u' : Sem Value).run P w = .ok (.bool r) w) ∧ ((do eqGuard .neq t X Y u u'; Go.binOp .neq t u u' : Sem Value).run P w = .ok (.bool (!r)) w) := by
    intro g ⟨a, b⟩
    exact ⟨by simp only [Sem.run_bind, g, Result.andThen_ok, a], by simp only [Sem.run_bind, g, Result.andThen_ok, b]⟩
  unfold cmpIn at he
  split at he
  · rename_i k a k' b
    obtain rfl : u = _ := hx
    obtain rfl : u' = _ := hy
    refine fin (fun o => free_left (by simp) (by simp) P w o t X Y) ?_
    by_cases hk : k = k'
    · subst hk
      rw [if_pos rfl] at he
      have : icmp .eql (a.den E.ρ) (b.den E.ρ) = some r := by
        have sym : hyp.find .eql a.sx b.sx = some r → icmp .eql (a.den E.ρ) (b.den E.ρ) = some r := by
          intro hf
          have := hh _ _ _ _ hf
          rwa [AI.sx_den, AI.sx_den] at this
        cases a with
        | c a => cases b with
          | c b => exact he
          | s e => exact sym he
        | s e => exact sym he
      refine ⟨icmp_binOp this, icmp_binOp ?_⟩
      simp only [icmp, Option.some.injEq] at this ⊢
      rw [this]
    · rw [if_neg hk] at he; cases he
  · rename_i s n s' n'
    obtain ⟨bs, rfl, rfl, rfl⟩ := hx
    obtain ⟨bs', rfl, rfl, rfl⟩ := hy
    cases he
    refine fin (fun o => free_left (by simp) (by simp) P w o t X Y) ?_
    have : (bs.toList == bs'.toList) = (Nat.beq bs.data.toList.length bs'.data.toList.length && Nat.beq (enc bs.data.toList) (enc bs'.data.toList)) := by
      rw [ByteArray.toList_eq, ByteArray.toList_eq, Bool.eq_iff_iff, beq_iff_eq, Bool.and_eq_true, Nat.beq_eq, Nat.beq_eq]
      constructor
      · intro h; rw [h]; exact ⟨rfl, rfl⟩
      · intro ⟨h1, h2⟩; exact enc_inj _ _ h1 h2
    rw [binOp_string_eql, binOp_string_neq, this]
    exact ⟨rfl, rfl⟩
  · obtain rfl : u = _ := hx
    obtain rfl : u' = _ := hy
    cases hc : (isConst X || isConst Y) with
    | false => rw [hc] at he; cases he
    | true =>
      rw [hc] at he
      simp only [cond_true] at he
      exact fin (fun o => guard_nil hc) (eq_of hh hr he rfl rfl (byEq_of rfl))
  · rename_i xs ys
    obtain ⟨a, rfl, ha⟩ := hx
    obtain ⟨b, rfl, hb⟩ := hy
    cases hg : P.eqGuardType P.depth t with
    | true => rw [hg] at he; cases he
    | false =>
      rw [hg] at he
      simp only [cond_false] at he
      exact fin (fun o => run_eqGuard_agg w o t X Y a b hg) (eq_of hh hr he ⟨a, rfl, ha⟩ ⟨b, rfl, hb⟩ (byEq_of rfl))
  · rename_i n1 n2 n3 n4
    have hl := eq_left he hx (fun k a k' b ⟨e1, e2⟩ => n1 k a k' b e1 e2) (fun s n s' n' ⟨e1, e2⟩ => n2 s n s' n' e1 e2)
    refine fin (fun o => ?_) (eq_of hh hr he hx hy (byEq_of hl))
    -- the guard
    obtain ⟨hxb, hyb⟩ := eqIn_bot 20 he
    by_cases hx1 : x = .nilface
    · have : y ≠ .nilface := fun e => n3 hx1 e
      subst hx1
      obtain rfl : u = _ := hx
      have q1 : u' ≠ .nilIface := by
        intro e; subst e
        cases y <;> first
          | exact absurd rfl this
          | exact absurd rfl hyb
          | (exact absurd hy (by simp [VR]))
          | (obtain ⟨_, _, h9⟩ := hy; cases h9)
          | (obtain ⟨_, h9, _⟩ := hy; cases h9)
          | (obtain ⟨_, _, h9, _⟩ := hy; cases h9)
      unfold eqGuard
      cases u' <;> first | exact absurd rfl q1 | (cases o <;> rfl)
    · by_cases hx2 : ∃ xs, x = .agg xs
      · obtain ⟨xs, rfl⟩ := hx2
        obtain ⟨a, rfl, _⟩ := hx
        have q1 : ∀ b, u' ≠ .agg b := by
          intro b e; subst e
          cases y <;> first
            | exact absurd rfl hyb
            | (exact absurd rfl (n4 _ _ rfl))
            | (exact absurd hy (by simp [VR]))
            | (obtain ⟨_, _, h9⟩ := hy; cases h9)
            | (obtain ⟨_, h9, _⟩ := hy; cases h9)
            | (obtain ⟨_, _, h9, _⟩ := hy; cases h9)
        unfold eqGuard
        cases u' <;> first | exact absurd rfl (q1 _) | (cases o <;> rfl)
      · refine free_left ?_ ?_ P w o t X Y
        · intro e; subst e
          cases x <;> first
            | exact absurd rfl hxb
            | exact absurd rfl hx1
            | (exact absurd hx (by simp [VR]))
            | (obtain ⟨_, _, h9⟩ := hx; cases h9)
            | (obtain ⟨_, h9, _⟩ := hx; cases h9)
            | (obtain ⟨_, _, h9, _⟩ := hx; cases h9)
        · intro b e; subst e
          cases x <;> first
            | exact absurd rfl hxb
            | exact absurd ⟨_, rfl⟩ hx2
            | (exact absurd hx (by simp [VR]))
            | (obtain ⟨_, _, h9⟩ := hx; cases h9)
            | (obtain ⟨_, h9, _⟩ := hx; cases h9)
            | (obtain ⟨_, _, h9, _⟩ := hx; cases h9)
end

section ops
variable {P : Program} {E : Env} {h : AH} {w : World} {hyp : Hyp} {tm : Tr AV} {a : Act} {o : Oper}

theorem s_eq (hh : HypOk hyp E.ρ) (hr : HRel E h w) (ht : TRel E tm a.tmps) {neg : Bool} {t t' : TypeId} {x y : Operand} {ax ay : AX} (hx : opd x = some ax) (hy : opd y = some ay) (ho : o.op = .binOp (if neg then .neq else .eql) t x y t') :
    OSound P E h w (xop P hyp tm h (.eq neg t (isConst x || isConst y) (P.eqGuardType P.depth t) ax ay)) ((execOp a.eval o).run P w) := by
  have h1 := opd_spec hr.globs ht hx
  have h2 := opd_spec hr.globs ht hy
  simp only [xop]
  cases hv : cmpIn P hyp h t (isConst x || isConst y) (P.eqGuardType P.depth t) (ev tm ax) (ev tm ay) with
  | none => trivial
  | some r =>
    obtain ⟨g1, g2⟩ := cmpIn_spec hh hr hv h1 h2
    cases neg with
    | true =>
      refine OSound.val hr (y := .bool (!r)) (by exact rfl) ?_
      simp only [execOp, ho, if_true]
      exact run_v g2
    | false =>
      refine OSound.val hr (y := .bool r) (by exact rfl) ?_
      simp only [execOp, ho, Bool.false_eq_true, if_false]
      exact run_v g1

theorem s_mi (hr : HRel E h w) (ht : TRel E tm a.tmps) {t : TypeId} {d : TypeDesc} (hd : P.underlying t = some d) (hni : ∀ ms, d ≠ .interface ms) {x : Operand} {ax : AX} (hx : opd x = some ax) (ho : o.op = .makeInterface t x) :
    OSound P E h w (xop P hyp tm h (.mi t ax)) ((execOp a.eval o).run P w) := by
  have h1 := opd_spec hr.globs ht hx
  refine OSound.val hr (y := .iface t (a.eval x)) (by exact ⟨_, rfl, h1⟩) ?_
  simp only [execOp, ho]
  refine run_v ?_
  cases d <;> first | exact absurd rfl (hni _) | simp [Instr.makeInterface, run_underlying hd]

theorem s_mf (hr : HRel E h w) (ht : TRel E tm a.tmps) {fn : Fn} {xs ys : Array Operand} {l m : List AX} (hx : opds xs.toList = some l) (hy : opds ys.toList = some m) (ho : o.op = .makeFunc fn xs ys) :
    OSound P E h w (xop P hyp tm h (.mf fn l m)) ((execOp a.eval o).run P w) := by
  have h1 := opds_spec hr.globs ht hx
  have h2 := opds_spec hr.globs ht hy
  refine OSound.val hr (y := .func fn (xs.map a.eval) (ys.map a.eval)) (by exact ⟨_, _, rfl, by simpa using h1, by simpa using h2⟩) ?_
  simp only [execOp, ho]
  exact run_v rfl

theorem s_mm (hr : HRel E h w) {t : TypeId} (ho : o.op = .makeMap t none) : OSound P E h w (xop P hyp tm h .mm) ((execOp a.eval o).run P w) := by
  obtain ⟨g1, g2⟩ := hr.mkNew (.map [] 0) (.map #[] 0) 0 (fun _ _ _ _ _ _ h => by cases h) (fun w' hw' => ⟨rfl, #[], hw', rfl⟩)
  refine OSound.valE g1 g2 (y := .map (some w.heap.size)) (by exact ⟨_, Env.with_same _ _ _, rfl⟩) ?_
  simp only [execOp, ho]
  refine run_v ?_
  simp [Instr.makeMap]

theorem s_fa (hr : HRel E h w) (ht : TRel E tm a.tmps) {s : TypeId} {fs : Array Field} (hu : P.underlying s = some (.struct fs)) {i : Nat} {f : Field} (hf : fs[i]? = some f) {n : Nat} (hn : sizeIn P f.type = some n) (hn0 : n ≠ 0) {x : Operand} {ax : AX} (hx : opd x = some ax) (ho : o.op = .fieldAddr s x i) :
    OSound P E h w (xop P hyp tm h (.fa f.offset ax)) ((execOp a.eval o).run P w) := by
  have h1 := opd_spec hr.globs ht hx
  simp only [xop]
  cases hv : ev tm ax with
  | ptr b off =>
    rw [hv] at h1
    obtain ⟨y, hy, h2⟩ := h1
    refine OSound.val hr (y := .pointer (some (y.at (off + f.offset)))) (by exact ⟨y, hy, rfl⟩) ?_
    simp only [execOp, ho]
    refine run_v ?_
    simp only [Instr.fieldAt, Sem.run_bind, run_underlying hu, Result.andThen_ok, hf, h2, Instr.sureAddr, Sem.run_pure, fieldPlace, run_sizeOf hn, hn0, if_false, Slot.at_add]
  | _ => trivial

theorem s_fd (hr : HRel E h w) (ht : TRel E tm a.tmps) {t : TypeId} {fs : Array Field} (hu : P.underlying t = some (.struct fs)) {i : Nat} {f : Field} (hf : fs[i]? = some f) {n : Option Nat} (hn : aggIn P f.type = some n) {x : Operand} {ax : AX} (hx : opd x = some ax) (ho : o.op = .field t x i) :
    OSound P E h w (xop P hyp tm h (.fd n f.offset ax)) ((execOp a.eval o).run P w) := by
  have h1 := opd_spec hr.globs ht hx
  simp only [xop]
  cases hv : ev tm ax with
  | agg cs =>
    rw [hv] at h1
    obtain ⟨b, h2, h3⟩ := h1
    cases hp : partOf n cs f.offset with
    | none => simp only [orV, hp]; trivial
    | some v =>
      simp only [orV, hp]
      obtain ⟨y, g1, g2⟩ := part_spec hn h3 hp
      refine OSound.val hr g2 ?_
      simp only [execOp, ho]
      refine run_v ?_
      simp only [Instr.field, Sem.run_bind, run_underlying hu, Result.andThen_ok, hf, h2, asAgg, Sem.run_pure, g1]
  | _ => trivial

theorem s_ia (hr : HRel E h w) (ht : TRel E tm a.tmps) {t : TypeId} {n : Nat} {e : TypeId} (hu : P.underlying t = some (.array n e)) {z : Nat} (hz : sizeIn P e = some z) {x i : Operand} {ax ai : AX} (hx : opd x = some ax) (hi : opd i = some ai) (ho : o.op = .indexAddr t x i) :
    OSound P E h w (xop P hyp tm h (.ia n z ax ai)) ((execOp a.eval o).run P w) := by
  have h1 := opd_spec hr.globs ht hx
  have h2 := opd_spec hr.globs ht hi
  simp only [xop]
  cases hj : natOf (ev tm ai) with
  | none => trivial
  | some j =>
    obtain ⟨k, hk⟩ := natOf_spec hj h2
    simp only
    cases hv : ev tm ax with
    | ptr b off =>
      rw [hv] at h1
      obtain ⟨y, hy, h3⟩ := h1
      simp only
      cases hb : Nat.blt j n with
      | false => trivial
      | true =>
        have hlt : j + 1 ≤ n := Nat.le_of_ble_eq_true hb
        simp only [cond_true]
        refine OSound.val hr (y := .pointer (some (y.at (off + j * z)))) (by exact ⟨y, hy, rfl⟩) ?_
        simp only [execOp, ho]
        refine run_v ?_
        have hin : (0 : Int) ≤ (j : Int) ∧ (j : Int) < (n : Int) := by omega
        simp only [Instr.indexAt, hk, asIntOf, Sem.run_bind, Sem.run_pure, Result.andThen_ok, run_underlying hu, h3, Instr.sureAddr, hin, and_self, if_true, run_sizeOf hz, Int.toNat_natCast, Slot.at_add]
    | _ => trivial

theorem s_ix (hr : HRel E h w) (ht : TRel E tm a.tmps) {t : TypeId} {e : TypeId} (hu : P.underlying t = some (.slice e)) {z : Nat} (hz : sizeIn P e = some z) {x i : Operand} {ax ai : AX} (hx : opd x = some ax) (hi : opd i = some ai) (ho : o.op = .indexAddr t x i) :
    OSound P E h w (xop P hyp tm h (.ix z ax ai)) ((execOp a.eval o).run P w) := by
  have h1 := opd_spec hr.globs ht hx
  have h2 := opd_spec hr.globs ht hi
  simp only [xop]
  cases hj : natOf (ev tm ai) with
  | none => trivial
  | some j =>
    obtain ⟨k, hk⟩ := natOf_spec hj h2
    simp only
    cases hv : ev tm ax with
    | slice b off len cap z' ex =>
      rw [hv] at h1
      obtain ⟨ad, c, h3, h4, h5, h6, h7, h8⟩ := h1
      simp only
      cases hb : Nat.blt j len with
      | false => trivial
      | true =>
        have hlt : j + 1 ≤ len := Nat.le_of_ble_eq_true hb
        obtain ⟨y, hy, h9, h10⟩ := h8 (by omega)
        subst h9
        simp only [cond_true]
        refine OSound.val hr (y := .pointer (some (y.at (off + j * z)))) (by exact ⟨y, hy, rfl⟩) ?_
        simp only [execOp, ho]
        refine run_v ?_
        have hin : (0 : Int) ≤ (j : Int) ∧ (j : Int) < (len : Int) := by omega
        simp only [Instr.indexAt, hk, asIntOf, Sem.run_bind, Sem.run_pure, Result.andThen_ok, run_underlying hu, h3, hin, and_self, if_true, run_sizeOf hz, Int.toNat_natCast, Slot.at_add]
    | _ => trivial

theorem s_ea (hr : HRel E h w) (ht : TRel E tm a.tmps) {t : TypeId} {n : Nat} {e : TypeId} (hu : P.underlying t = some (.array n e)) {z : Nat} (hz : sizeIn P e = some z) {p : Option Nat} (hp : aggIn P e = some p) {x i : Operand} {ax ai : AX} (hx : opd x = some ax) (hi : opd i = some ai) (ho : o.op = .index t x i) :
    OSound P E h w (xop P hyp tm h (.ea n z p ax ai)) ((execOp a.eval o).run P w) := by
  have h1 := opd_spec hr.globs ht hx
  have h2 := opd_spec hr.globs ht hi
  simp only [xop]
  cases hj : natOf (ev tm ai) with
  | none => trivial
  | some j =>
    obtain ⟨k, hk⟩ := natOf_spec hj h2
    simp only
    cases hv : ev tm ax with
    | agg cs =>
      rw [hv] at h1
      obtain ⟨b, h3, h4⟩ := h1
      simp only
      cases hb : Nat.blt j n with
      | false => trivial
      | true =>
        have hlt : j + 1 ≤ n := Nat.le_of_ble_eq_true hb
        simp only [cond_true]
        cases hq : partOf p cs (Nat.mul j z) with
        | none => simp only [orV]; trivial
        | some v =>
          simp only [orV]
          obtain ⟨y, g1, g2⟩ := part_spec hp h4 hq
          refine OSound.val hr g2 ?_
          simp only [execOp, ho]
          refine run_v ?_
          have hin : (0 : Int) ≤ (j : Int) ∧ (j : Int) < (n : Int) := by omega
          simp only [Instr.index, hk, asIntOf, Sem.run_bind, Sem.run_pure, Result.andThen_ok, run_underlying hu, h3, hin, and_self, if_true, run_sizeOf hz, Int.toNat_natCast]
          exact g1 w
    | _ => trivial

theorem s_es (hr : HRel E h w) (ht : TRel E tm a.tmps) {t : TypeId} (hu : P.underlying t = some .string) {x i : Operand} {ax ai : AX} (hx : opd x = some ax) (hi : opd i = some ai) (ho : o.op = .index t x i) :
    OSound P E h w (xop P hyp tm h (.es ax ai)) ((execOp a.eval o).run P w) := by
  have h1 := opd_spec hr.globs ht hx
  have h2 := opd_spec hr.globs ht hi
  simp only [xop]
  cases hj : natOf (ev tm ai) with
  | none => trivial
  | some j =>
    obtain ⟨k, hk⟩ := natOf_spec hj h2
    simp only
    cases hv : ev tm ax with
    | str s n =>
      rw [hv] at h1
      obtain ⟨bs, h3, rfl, rfl⟩ := h1
      simp only
      cases hb : Nat.blt j bs.data.toList.length with
      | false => trivial
      | true =>
        have hlt : j + 1 ≤ bs.data.toList.length := Nat.le_of_ble_eq_true hb
        simp only [cond_true]
        have hget : bs.data.toList[j]? = some bs.data.toList[j] := List.getElem?_eq_getElem (by omega)
        have hc := chr_enc bs.data.toList j _ hget
        refine OSound.val hr (y := .int .u8 (bs.data.toList[j]).toNat) (by show Value.int .u8 _ = .int .u8 _; rw [hc]; rfl) ?_
        simp only [execOp, ho]
        refine run_v ?_
        have hsz : bs.size = bs.data.toList.length := by rw [Array.length_toList]; rfl
        have hg : bs[(j : Int).toNat]? = some bs.data.toList[j] := by
          rw [Int.toNat_natCast, ByteArray.getElem?_lt' bs j (by omega)]
          congr 1
        have hin : (0 : Int) ≤ (j : Int) := by omega
        simp only [Instr.index, hk, asIntOf, Sem.run_bind, Sem.run_pure, Result.andThen_ok, run_underlying hu, h3, hin, if_true, hg]
    | _ => trivial

theorem s_ex (hr : HRel E h w) (ht : TRel E tm a.tmps) {x : Operand} {i : Nat} {ax : AX} (hx : opd x = some ax) (ho : o.op = .extract x i) : OSound P E h w (xop P hyp tm h (.ex ax i)) ((execOp a.eval o).run P w) := by
  have h1 := opd_spec hr.globs ht hx
  simp only [xop]
  cases hv : ev tm ax with
  | tup vs =>
    rw [hv] at h1
    obtain ⟨b, h3, h4⟩ := h1
    cases hn : nth vs i with
    | none => simp only [orV, hn]; trivial
    | some v =>
      simp only [orV, hn]
      rw [nth_eq] at hn
      obtain ⟨y, g1, g2⟩ := h4.get i v hn
      refine OSound.val hr g2 ?_
      simp only [execOp, ho]
      refine run_v ?_
      have : b[i]? = some y := by rw [← Array.getElem?_toList]; exact g1
      simp only [h3, Instr.extract, this, Sem.run_pure]
  | _ => trivial

theorem s_pn (hr : HRel E h w) (ht : TRel E tm a.tmps) {x : Operand} {ax : AX} (hx : opd x = some ax) (ho : o.op = .panic x) : OSound P E h w (xop P hyp tm h (.pn ax)) ((execOp a.eval o).run P w) := by
  have h1 := opd_spec hr.globs ht hx
  simp only [xop]
  cases hv : ev tm ax with
  | iface t v =>
    rw [hv] at h1
    have h1' := h1
    obtain ⟨y, h3, h4⟩ := h1
    refine ⟨.iface t y, ?_, ?_, rfl⟩
    · simp [execOp, ho, h3, Instr.panic]
    · rw [h3] at h1'; exact h1'
  | _ => trivial

theorem s_ta (hr : HRel E h w) (ht : TRel E tm a.tmps) {xt t : TypeId} {d : TypeDesc} (hd : P.underlying t = some d) (hni : ∀ ms, d ≠ .interface ms) {z : AV} (hz : zeroIn P t = some z) {ok : Bool} {x : Operand} {ax : AX} (hx : opd x = some ax) (ho : o.op = .typeAssert x xt t ok) :
    OSound P E h w (xop P hyp tm h (.ta t z ax ok)) ((execOp a.eval o).run P w) := by
  have h1 := opd_spec hr.globs ht hx
  obtain ⟨zv, hzv, hzr⟩ := run_zeroValue hz
  have tup2 : ∀ {x y : AV} {u v : Value}, VR E x u → VR E y v → VR E (.tup [x, y]) (.tuple #[u, v]) := fun hu hv => ⟨_, rfl, VRs.cons hu (VRs.cons hv VRs.nil)⟩
  simp only [xop]
  cases hv : ev tm ax with
  | nilface =>
    rw [hv] at h1
    obtain h1 : a.eval x = .nilIface := h1
    simp only
    cases ok with
    | false => trivial
    | true =>
      simp only [cond_true]
      refine OSound.val hr (tup2 (hzr E) (by exact rfl : VR E (.bool false) (.bool false))) ?_
      simp only [execOp, ho]
      refine run_v ?_
      cases d <;> first | exact absurd rfl (hni _) | simp [Instr.typeAssert, run_underlying hd, h1, hzv]
  | iface t' v =>
    rw [hv] at h1
    obtain ⟨y, h3, h4⟩ := h1
    simp only
    cases hb : Nat.beq t' t with
    | true =>
      obtain rfl := Nat.eq_of_beq_eq_true hb
      simp only [cond_true]
      cases ok with
      | true =>
        refine OSound.val hr (tup2 h4 (by exact rfl : VR E (.bool true) (.bool true))) ?_
        simp only [execOp, ho]
        refine run_v ?_
        cases d <;> first | exact absurd rfl (hni _) | simp [Instr.typeAssert, run_underlying hd, h3]
      | false =>
        refine OSound.val hr h4 ?_
        simp only [execOp, ho]
        refine run_v ?_
        cases d <;> first | exact absurd rfl (hni _) | simp [Instr.typeAssert, run_underlying hd, h3]
    | false =>
      have hne : t' ≠ t := by intro e; subst e; rw [Nat.beq_refl] at hb; cases hb
      simp only [cond_false]
      cases ok with
      | false => trivial
      | true =>
        simp only [cond_true]
        refine OSound.val hr (tup2 (hzr E) (by exact rfl : VR E (.bool false) (.bool false))) ?_
        simp only [execOp, ho]
        refine run_v ?_
        cases d <;> first | exact absurd rfl (hni _) | simp [Instr.typeAssert, run_underlying hd, h3, hne, hzv]
  | _ => trivial

theorem s_ms (hr : HRel E h w) (ht : TRel E tm a.tmps) {t e : TypeId} (hu : P.underlying t = some (.slice e)) {z : Nat} (hz : sizeIn P e = some z) {bw : Nat} (hbw : bytesIn P e = some bw) (hbl : bw ≤ 10000) {v0 : AV} (hv0 : zeroIn P e = some v0) (hone : ones v0.cells = true) (hl0 : v0.cells.length = z)
    {l c : Operand} {al ac : AX} (hl : opd l = some al) (hc : opd c = some ac) (ho : o.op = .makeSlice t l c) :
    OSound P E h w (xop P hyp tm h (.ms z v0.cells al ac)) ((execOp a.eval o).run P w) := by
  have h1 := opd_spec hr.globs ht hl
  have h2 := opd_spec hr.globs ht hc
  obtain ⟨v, hv, hvr⟩ := run_zeroValue hv0
  have hvc := (hvr E).cells_ones hone
  have hvs : v.cells.size = z := by have := hvc.length; rw [hl0] at this; simpa using this
  simp only [xop]
  cases hn : natOf (ev tm al) with
  | none => trivial
  | some n =>
    cases hm : natOf (ev tm ac) with
    | none => trivial
    | some m =>
      obtain ⟨k1, e1⟩ := natOf_spec hn h1
      obtain ⟨k2, e2⟩ := natOf_spec hm h2
      simp only
      cases hb : (Nat.ble n m && Nat.ble m most) with
      | false => trivial
      | true =>
        simp only [cond_true]
        rw [Bool.and_eq_true] at hb
        have b1 : n ≤ m := Nat.le_of_ble_eq_true hb.1
        have b2 : m ≤ 1000000 := Nat.le_of_ble_eq_true hb.2
        obtain ⟨i, hi, hib⟩ := bytesIn_info hbw
        have hcells : ∃ cs : Array Value, VRs E (repeatIn v0.cells m) cs.toList ∧ cs.size = m * z ∧ (Instr.makeSlice t (.int k1 n) (.int k2 m)).run P w = .ok (.slice (some ⟨w.heap.size, 0, none⟩) n m) (w.alloc (.cells cs e)) := by
          have hwn : IntKind.i64.wrap (n : Int) = n := by rw [← wr_eq]; simp only [wr, top]; rw [show Nat.ble (Nat.succ n) 9223372036854775808 = true from Nat.ble_eq_true_of_le (by omega)]; rfl
          have hwm : IntKind.i64.wrap (m : Int) = m := by rw [← wr_eq]; simp only [wr, top]; rw [show Nat.ble (Nat.succ m) 9223372036854775808 = true from Nat.ble_eq_true_of_le (by omega)]; rfl
          have hmul : bw * m ≤ 10000 * 1000000 := Nat.mul_le_mul hbl b2
          have hbig : ¬ ((i.bytes : Int) * (m : Int) > 2 ^ 48) := by
            rw [hib]
            have : ((bw : Int) * (m : Int)) = ((bw * m : Nat) : Int) := by simp
            rw [this]
            omega
          have c1 : ¬ ((m : Int) < 0) := by omega
          have c2 : ¬ ((n : Int) < 0) := by omega
          have c3 : ¬ ((n : Int) > (m : Int)) := by omega
          by_cases h0 : m * z = 0
          · refine ⟨(Array.range (m * z)).map ((#[] : Array Value)[· % (#[] : Array Value).size]!), ?_, by simp, ?_⟩
            · have : (repeatIn v0.cells m) = [] := List.length_eq_zero_iff.1 (by rw [length_repeat, hl0]; exact h0)
              rw [this, h0, show ((Array.range 0).map ((#[] : Array Value)[· % (#[] : Array Value).size]!)).toList = [] by simp]; exact VRs.nil
            · simp only [Instr.makeSlice, Sem.run_bind, run_underlying hu, Result.andThen_ok, asInt, asIntOf, Sem.run_pure, run_typeInfo hi, hwn, hwm, c1, c2, c3, hbig, decide_false, Bool.or_false, Bool.false_eq_true, if_false, run_askRoom, Int.toNat_natCast, run_sizeOf hz, h0, if_true, newRow, run_newObj]
              rfl
          · refine ⟨(Array.range (m * z)).map (v.cells[· % v.cells.size]!), ?_, by simp, ?_⟩
            · rw [← hvs, zeros_eq]; exact repeatIn_spec hvc m
            · simp only [Instr.makeSlice, Sem.run_bind, run_underlying hu, Result.andThen_ok, asInt, asIntOf, Sem.run_pure, run_typeInfo hi, hwn, hwm, c1, c2, c3, hbig, decide_false, Bool.or_false, Bool.false_eq_true, if_false, run_askRoom, Int.toNat_natCast, run_sizeOf hz, h0, hv, newRow, run_newObj]
              rfl
        obtain ⟨cs, g1, g2, g3⟩ := hcells
        obtain ⟨q1, q2⟩ := hr.newCells e _ cs g1
        refine OSound.valE q1 q2 (y := .slice (some ⟨w.heap.size, 0, none⟩) n m) ?_ ?_
        · exact ⟨_, m, rfl, Nat.le_refl _, fun _ => rfl, b1, rfl, fun _ => ⟨_, Env.with_same _ _ _, by simp [Slot.at], by simp [g2]⟩⟩
        · simp only [execOp, ho, e1, e2]
          exact run_v g3

end ops
end Go.Am
