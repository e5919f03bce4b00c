/- Operations, one by one (second part): whole numbers, texts, comparisons. -/
import Derived.Test.YtbakjgolhekmgaaGreatDoorAmOpB
namespace Go.Am

theorem bits_top (k : IntKind) : (2 : Int) ^ k.bits = (if k.signed then 2 * (top k : Int) else (top k : Int)) := by cases k <;> rfl
theorem bits_top' (k : IntKind) (h : k.signed = true) : (2 : Int) ^ (k.bits - 1) = (top k : Int) := by cases k <;> first | rfl | (simp [IntKind.signed] at h)
theorem top_pos (k : IntKind) : 0 < (top k : Int) := by cases k <;> decide
theorem wr_eq (k : IntKind) (n : Int) : wr k n = k.wrap n := by
  unfold wr
  cases n with
  | ofNat m =>
    simp only
    cases hb : Nat.ble (Nat.succ m) (top k) with
    | false => rfl
    | true =>
      have hlt : m + 1 ≤ top k := Nat.le_of_ble_eq_true hb
      simp only [cond_true]
      have hp := top_pos k
      unfold IntKind.wrap
      have hm : (Int.ofNat m) % (2 : Int) ^ k.bits = Int.ofNat m := by
        rw [bits_top]
        refine Int.emod_eq_of_lt (Int.natCast_nonneg m) ?_
        split <;> (show (m : Int) < _; omega)
      rw [hm]
      cases hs : k.signed with
      | false => simp
      | true =>
        have := bits_top' k hs
        rw [if_neg]
        simp only [Bool.true_and, decide_eq_true_eq, ge_iff_le]
        rw [this]
        show ¬ ((top k : Int) ≤ (m : Int))
        omega
  | negSucc m =>
    simp only
    cases hs : k.signed with
    | false => rfl
    | true =>
      cases hb : Nat.ble (Nat.succ m) (top k) with
      | false => rfl
      | true =>
        have hlt : m + 1 ≤ top k := Nat.le_of_ble_eq_true hb
        simp only [Bool.and_self, cond_true]
        have hp := top_pos k
        unfold IntKind.wrap
        have hm : (Int.negSucc m) % (2 : Int) ^ k.bits = Int.negSucc m + 2 ^ k.bits := by
          rw [bits_top, hs, if_pos rfl]
          rw [Int.negSucc_eq]
          rw [← Int.add_emod_right]
          exact Int.emod_eq_of_lt (by omega) (by omega)
        rw [hm, hs]
        have h1 := bits_top k
        rw [hs, if_pos rfl] at h1
        have h2 := bits_top' k hs
        rw [if_pos]
        · omega
        · simp only [Bool.true_and, decide_eq_true_eq, ge_iff_le]
          rw [h2, h1, Int.negSucc_eq]
          omega
theorem ieq_eq (x y : Int) : ieq x y = (x == y) := by
  cases x with
  | ofNat a => cases y with
    | ofNat b =>
      show Nat.beq a b = _
      rw [Bool.eq_iff_iff, Nat.beq_eq, beq_iff_eq]
      exact ⟨fun h => by rw [h], fun h => Int.ofNat.inj h⟩
    | negSucc b => rfl
  | negSucc a => cases y with
    | ofNat b => rfl
    | negSucc b =>
      show Nat.beq a b = _
      rw [Bool.eq_iff_iff, Nat.beq_eq, beq_iff_eq]
      exact ⟨fun h => by rw [h], fun h => Int.negSucc.inj h⟩
theorem ile_eq (x y : Int) : ile x y = decide (x ≤ y) := by
  rw [Bool.eq_iff_iff, decide_eq_true_iff]
  cases x with
  | ofNat a => cases y with
    | ofNat b =>
      show Nat.ble a b = true ↔ (a : Int) ≤ (b : Int)
      rw [Nat.ble_eq]; omega
    | negSucc b =>
      show false = true ↔ (a : Int) ≤ Int.negSucc b
      rw [Int.negSucc_eq]
      constructor
      · intro h; cases h
      · intro h; omega
  | negSucc a => cases y with
    | ofNat b =>
      show true = true ↔ Int.negSucc a ≤ (b : Int)
      rw [Int.negSucc_eq]
      constructor
      · intro _; omega
      · intro _; rfl
    | negSucc b =>
      show Nat.ble b a = true ↔ Int.negSucc a ≤ Int.negSucc b
      rw [Nat.ble_eq, Int.negSucc_eq, Int.negSucc_eq]; omega

/-- comparisons, as the model makes them. -/
theorem icmp_run {P : Program} {w : World} {o : BinOp} {x y : Int} {r : Bool} (h : icmp o x y = some r) : (Op.intCmp o x y).run P w = .ok (.bool r) w := by
  cases o <;> simp only [icmp, Option.some.injEq, reduceCtorEq] at h <;> subst h <;>
    simp only [Op.intCmp, Sem.run_pure, ieq_eq, ile_eq, bne] <;> first | rfl | (congr 2; rw [Bool.eq_iff_iff]; simp)
theorem icmp_ops {o : BinOp} {x y : Int} {r : Bool} (h : icmp o x y = some r) : o = .eql ∨ o = .neq ∨ o = .lss ∨ o = .leq ∨ o = .gtr ∨ o = .geq := by
  cases o <;> simp_all [icmp]
theorem icmp_none {o : BinOp} {x y : Int} (h : icmp o x y = none) : o = .add ∨ o = .sub ∨ o = .mul ∨ o = .quo ∨ o = .rem ∨ o = .and ∨ o = .or ∨ o = .xor ∨ o = .andNot ∨ o = .shl ∨ o = .shr := by
  cases o <;> simp_all [icmp]

/-- arithmetic, as the model makes it. -/
theorem ibin_run {P : Program} {w : World} {o : BinOp} {t : TypeId} {k k' : IntKind} {x y n : Int} (h : ibin o k x y = some n) (hk : k = k' ∨ o = .shl ∨ o = .shr) : (Go.binOp o t (.int k x) (.int k' y)).run P w = .ok (.int k n) w := by
  have hk' : (o = .shl ∨ o = .shr) ∨ k = k' := by rcases hk with h | h; exact .inr h; exact .inl h
  cases o <;> simp only [ibin, reduceCtorEq] at h
  case add => obtain rfl : k = k' := by simpa using hk
              simp only [Option.some.injEq] at h; subst h; rw [wr_eq]; simp [Go.binOp, Op.intArith] <;> rfl
  case sub => obtain rfl : k = k' := by simpa using hk
              simp only [Option.some.injEq] at h; subst h; rw [wr_eq]; simp [Go.binOp, Op.intArith] <;> rfl
  case mul => obtain rfl : k = k' := by simpa using hk
              simp only [Option.some.injEq] at h; subst h; rw [wr_eq]; simp [Go.binOp, Op.intArith] <;> rfl
  case quo => obtain rfl : k = k' := by simpa using hk
              by_cases h0 : y = 0
              · rw [if_pos h0] at h; cases h
              · rw [if_neg h0] at h; simp only [Option.some.injEq] at h; subst h; simp [Go.binOp, Op.intDiv, h0]
  case rem => obtain rfl : k = k' := by simpa using hk
              by_cases h0 : y = 0
              · rw [if_pos h0] at h; cases h
              · rw [if_neg h0] at h; simp only [Option.some.injEq] at h; subst h; simp [Go.binOp, Op.intDiv, h0]
  case and => obtain rfl : k = k' := by simpa using hk
              simp only [Option.some.injEq] at h; subst h; simp [Go.binOp, Op.intBits]
  case or => obtain rfl : k = k' := by simpa using hk
             simp only [Option.some.injEq] at h; subst h; simp [Go.binOp, Op.intBits]
  case xor => obtain rfl : k = k' := by simpa using hk
              simp only [Option.some.injEq] at h; subst h; simp [Go.binOp, Op.intBits]
  case andNot => obtain rfl : k = k' := by simpa using hk
                 simp only [Option.some.injEq] at h; subst h; simp [Go.binOp, Op.intBits]
  case shl =>
    by_cases h0 : y < 0
    · rw [if_pos h0] at h; cases h
    · rw [if_neg h0] at h; simp only [Option.some.injEq] at h; subst h; simp [Go.binOp, Op.shift, h0]
  case shr =>
    by_cases h0 : y < 0
    · rw [if_pos h0] at h; cases h
    · rw [if_neg h0] at h; simp only [Option.some.injEq] at h; subst h; simp [Go.binOp, Op.shift, h0]
theorem icmp_binOp {P : Program} {w : World} {o : BinOp} {t : TypeId} {k : IntKind} {x y : Int} {r : Bool} (h : icmp o x y = some r) : (Go.binOp o t (.int k x) (.int k y)).run P w = .ok (.bool r) w := by
  have h1 := icmp_run (P := P) (w := w) h
  rcases icmp_ops h with rfl | rfl | rfl | rfl | rfl | rfl <;> simpa [Go.binOp] using h1

/-- what is taken for granted of expressions holds. -/
def HypOk (hyp : Hyp) (ρ : Nat → Int) : Prop := ∀ o a b r, hyp.find o a b = some r → icmp o (a.den ρ) (b.den ρ) = some r
theorem AI.sx_den (a : AI) (ρ : Nat → Int) : a.sx.den ρ = a.den ρ := by cases a <;> rfl

theorem arith_val {ρ : Nat → Int} {o : BinOp} {k : IntKind} {a b : AI} {n : Int} (hn : ibin o k (a.den ρ) (b.den ρ) = some n) : (AI.s (.op2 o k a.sx b.sx)).den ρ = n := by
  show (ibin o k (a.sx.den ρ) (b.sx.den ρ)).getD 0 = n
  rw [AI.sx_den, AI.sx_den, hn]
  rfl
section
variable {P : Program} {E : Env} {w : World} {hyp : Hyp} {o : BinOp} {t : TypeId} {k : IntKind}
theorem shIn_spec {k' : IntKind} (ho : isSh o = true) {a b : AI} {v : AV} (hv : shIn o k a b = some v) : ∃ r, (Go.binOp o t (.int k (a.den E.ρ)) (.int k' (b.den E.ρ))).run P w = .ok r w ∧ VR E v r := by
  have ho2 : o = .shl ∨ o = .shr := by cases o <;> simp_all [isSh]
  unfold shIn at hv
  cases b with
  | s e => cases hv
  | c b =>
    cases a with
    | c a =>
      simp only at hv
      cases hn : ibin o k a b with
      | none => rw [hn] at hv; cases hv
      | some n =>
        rw [hn] at hv
        cases hv
        exact ⟨.int k n, ibin_run hn (.inr ho2), rfl⟩
    | s e =>
      simp only at hv
      by_cases hb : b < 0
      · rw [if_pos hb] at hv; cases hv
      · rw [if_neg hb] at hv
        cases hv
        have : ∃ n, ibin o k (e.den E.ρ) b = some n := by rcases ho2 with rfl | rfl <;> exact ⟨_, if_neg hb⟩
        obtain ⟨n, hn⟩ := this
        refine ⟨.int k n, ibin_run hn (.inr ho2), ?_⟩
        show Value.int k n = .int k ((ibin o k (e.den E.ρ) b).getD 0)
        rw [hn]; rfl
theorem findAV_spec (hh : HypOk hyp E.ρ) {a b : AI} {v : AV} (hv : findAV hyp o a.sx b.sx = some v) : ∃ r, (Go.binOp o t (.int k (a.den E.ρ)) (.int k (b.den E.ρ))).run P w = .ok r w ∧ VR E v r := by
  unfold findAV at hv
  cases hf : hyp.find o a.sx b.sx with
  | none => rw [hf] at hv; cases hv
  | some r =>
    rw [hf] at hv
    cases hv
    have := hh o _ _ r hf
    rw [AI.sx_den, AI.sx_den] at this
    exact ⟨.bool r, icmp_binOp this, rfl⟩
theorem arith_spec {a b : AI} {v : AV} (hn : ∃ n, ibin o k (a.den E.ρ) (b.den E.ρ) = some n) (hv : some (AV.int k (.s (.op2 o k a.sx b.sx))) = some v) : ∃ r, (Go.binOp o t (.int k (a.den E.ρ)) (.int k (b.den E.ρ))).run P w = .ok r w ∧ VR E v r := by
  obtain ⟨n, hn⟩ := hn
  cases hv
  refine ⟨.int k n, ibin_run hn (.inl rfl), ?_⟩
  show Value.int k n = .int k _
  rw [arith_val hn]
theorem divIn_spec (hd : o = .quo ∨ o = .rem) {a b : AI} {v : AV} (hv : divIn o k a b = some v) : ∃ r, (Go.binOp o t (.int k (a.den E.ρ)) (.int k (b.den E.ρ))).run P w = .ok r w ∧ VR E v r := by
  unfold divIn at hv
  cases b with
  | s e => cases hv
  | c n =>
    simp only at hv
    by_cases h0 : n = 0
    · rw [if_pos h0] at hv; cases hv
    · rw [if_neg h0] at hv
      refine arith_spec ?_ hv
      rcases hd with rfl | rfl <;> exact ⟨_, if_neg h0⟩
theorem symIn_spec (hh : HypOk hyp E.ρ) {a b : AI} {v : AV} (hv : symIn hyp o k a b = some v) : ∃ r, (Go.binOp o t (.int k (a.den E.ρ)) (.int k (b.den E.ρ))).run P w = .ok r w ∧ VR E v r := by
  cases o <;> simp only [symIn, reduceCtorEq] at hv <;> first
    | exact findAV_spec hh hv
    | exact divIn_spec (.inl rfl) hv
    | exact divIn_spec (.inr rfl) hv
    | exact arith_spec ⟨_, rfl⟩ hv
theorem intIn_spec (hh : HypOk hyp E.ρ) {a b : AI} {v : AV} (hv : intIn hyp o k a b = some v) : ∃ r, (Go.binOp o t (.int k (a.den E.ρ)) (.int k (b.den E.ρ))).run P w = .ok r w ∧ VR E v r := by
  cases a with
  | s e => exact symIn_spec hh hv
  | c x =>
    cases b with
    | s e => exact symIn_spec hh hv
    | c y =>
      simp only [intIn] at hv
      cases hc : icmp o x y with
      | some r =>
        rw [hc] at hv
        cases hv
        exact ⟨.bool r, icmp_binOp hc, rfl⟩
      | none =>
        rw [hc] at hv
        simp only at hv
        cases hn : ibin o k x y with
        | none => rw [hn] at hv; cases hv
        | some n =>
          rw [hn] at hv
          cases hv
          exact ⟨.int k n, ibin_run hn (.inl rfl), rfl⟩
theorem binIn_spec (hh : HypOk hyp E.ρ) {x y v : AV} {u u' : Value} (hx : VR E x u) (hy : VR E y u') (hv : binIn hyp o x y = some v) :
    ∃ r, (Go.binOp o t u u').run P w = .ok r w ∧ VR E v r := by
  unfold binIn at hv
  cases x <;> cases y <;> simp only [reduceCtorEq] at hv
  case int.int k a k' b =>
    obtain rfl : u = _ := hx
    obtain rfl : u' = _ := hy
    cases hs : isSh o with
    | true => rw [hs] at hv; exact shIn_spec hs hv
    | false =>
      rw [hs] at hv
      simp only [cond_false] at hv
      by_cases hk : k = k'
      · subst hk
        rw [if_pos rfl] at hv
        exact intIn_spec hh hv
      · rw [if_neg hk] at hv; cases hv
  case str.str s n s' n' =>
    obtain ⟨bs, rfl, rfl, rfl⟩ := hx
    obtain ⟨bs', rfl, rfl, rfl⟩ := hy
    cases o <;> simp only [reduceCtorEq] at hv
    cases hb : Nat.ble (Nat.add bs.data.toList.length bs'.data.toList.length) most with
    | false => rw [hb] at hv; cases hv
    | true =>
      rw [hb] at hv
      simp only [cond_true, Option.some.injEq] at hv
      subst hv
      have hle : bs.data.toList.length + bs'.data.toList.length ≤ 1000000 := Nat.le_of_ble_eq_true hb
      refine ⟨.string (bs ++ bs'), ?_, bs ++ bs', rfl, ?_, ?_⟩
      · rw [binOp_string_add]
        have hlim : ¬ (((bs.size + bs'.size : Nat) : Int) > IntKind.i64.max) := by
          have h1 : bs.size = bs.data.toList.length := by rw [Array.length_toList]; rfl
          have h2 : bs'.size = bs'.data.toList.length := by rw [Array.length_toList]; rfl
          simp only [IntKind.max, IntKind.signed, IntKind.bits]
          simp
          omega
        simp only [Op.stringOp, hlim, if_false, Sem.run_pure]
      · rw [glue_enc]; simp
      · simp
end

theorem unIn_spec {P : Program} {E : Env} {w : World} {o : UnOp} {x v : AV} {u : Value} (hx : VR E x u) (hv : unIn o x = some v) : ∃ r, (Op.unary o u).run P w = .ok r w ∧ VR E v r := by
  unfold unIn at hv
  cases x <;> simp only [reduceCtorEq] at hv
  case int k a =>
    obtain rfl : u = _ := hx
    have key : ∀ x n : Int, iun o k x = some n → (Op.unary o (.int k x)).run P w = .ok (.int k n) w := by
      intro x n hn
      cases o <;> simp only [iun, Option.some.injEq, reduceCtorEq] at hn <;> subst hn
      · rw [wr_eq]; simp [Op.unary, Op.intArith]; rfl
      · simp [Op.unary, Op.intBits]
    cases a with
    | c n =>
      simp only at hv
      cases hn : iun o k n with
      | none => simp [hn] at hv
      | some m =>
        simp only [hn, Option.some.injEq] at hv
        subst hv
        exact ⟨_, key n m hn, rfl⟩
    | s e =>
      simp only at hv
      have : ∀ o', o = o' → (∃ n, iun o' k (e.den E.ρ) = some n) → some (AV.int k (.s (.op1 o' k e))) = some v → ∃ r, (Op.unary o (.int k (AI.den E.ρ (.s e)))).run P w = .ok r w ∧ VR E v r := by
        rintro o' rfl ⟨n, hn⟩ hv
        simp only [Option.some.injEq] at hv
        subst hv
        refine ⟨_, key _ n hn, ?_⟩
        show Value.int k n = .int k _
        simp [AI.den, SX.den, hn]
      cases o <;> simp only [reduceCtorEq] at hv
      · exact this _ rfl ⟨_, rfl⟩ hv
      · exact this _ rfl ⟨_, rfl⟩ hv
  case bool b =>
    obtain rfl : u = _ := hx
    cases o <;> simp only [reduceCtorEq, Option.some.injEq] at hv
    subst hv
    exact ⟨.bool (!b), by simp [Op.unary], rfl⟩

section ops
variable {P : Program} {E : Env} {h : AH} {w : World} {hyp : Hyp} {tm : Tr AV} {a : Act} {o : Oper}

theorem s_bin (hh : HypOk hyp E.ρ) (hr : HRel E h w) (ht : TRel E tm a.tmps) {b : BinOp} (hb : b ≠ .eql) (hb' : b ≠ .neq) {t t' : TypeId} {x y : Operand} {ax ay : AX} (hx : opd x = some ax) (hy : opd y = some ay) (ho : o.op = .binOp b t x y t') :
    OSound P E h w (xop P hyp tm h (.bin b ax ay)) ((execOp a.eval o).run P w) := by
  have h1 := opd_spec hr.globs ht hx
  have h2 := opd_spec hr.globs ht hy
  simp only [xop]
  cases hv : binIn hyp b (ev tm ax) (ev tm ay) with
  | none => simp only [orV]; trivial
  | some v =>
    simp only [orV]
    obtain ⟨r, g1, g2⟩ := binIn_spec (P := P) (w := w) (t := t) hh h1 h2 hv
    refine OSound.val hr g2 ?_
    simp only [execOp, ho]
    refine run_v ?_
    have hgd : (eqGuard b t x y (a.eval x) (a.eval y)).run P w = .ok () w := by
      unfold eqGuard
      cases b <;> first | exact absurd rfl hb | exact absurd rfl hb' | rfl
    simp only [Sem.run_bind, hgd, Result.andThen_ok, g1]

theorem s_un (hr : HRel E h w) (ht : TRel E tm a.tmps) {u : UnOp} {t : TypeId} {x : Operand} {ax : AX} (hx : opd x = some ax) (ho : o.op = .unOp u t x) : OSound P E h w (xop P hyp tm h (.un u ax)) ((execOp a.eval o).run P w) := by
  have h1 := opd_spec hr.globs ht hx
  simp only [xop]
  cases hv : unIn u (ev tm ax) with
  | none => simp only [orV]; trivial
  | some v =>
    simp only [orV]
    obtain ⟨r, g1, g2⟩ := unIn_spec (P := P) (w := w) h1 hv
    refine OSound.val hr g2 ?_
    simp only [execOp, ho]
    exact run_v g1

theorem s_cv (hr : HRel E h w) (ht : TRel E tm a.tmps) {s d : TypeId} {k k0 : IntKind} (hs : P.underlying s = some (.int k0)) (hd : P.underlying d = some (.int k)) {x : Operand} {ax : AX} (hx : opd x = some ax) (ho : o.op = .convert s d x) :
    OSound P E h w (xop P hyp tm h (.cv k ax)) ((execOp a.eval o).run P w) := by
  have h1 := opd_spec hr.globs ht hx
  simp only [xop]
  cases hv : ev tm ax with
  | int k' n =>
    rw [hv] at h1
    obtain h1 : a.eval x = .int k' (n.den E.ρ) := h1
    have run : (convert s d (a.eval x)).run P w = .ok (.int k (k.wrap (n.den E.ρ))) w := by
      simp [convert, run_underlying hs, run_underlying hd, h1, Conv.intToInt]
    cases n with
    | c n =>
      simp only
      have e : VR E (.int k (.c (wr k n))) (.int k (k.wrap n)) := by show Value.int k (k.wrap n) = .int k (wr k n); rw [wr_eq]
      refine OSound.val hr e ?_
      simp only [execOp, ho]
      exact run_v run
    | s e =>
      simp only
      refine OSound.val hr (y := .int k (k.wrap (e.den E.ρ))) (by exact rfl) ?_
      simp only [execOp, ho]
      exact run_v run
  | _ => trivial

theorem s_s2s (hr : HRel E h w) (ht : TRel E tm a.tmps) {s d : TypeId} (hs : P.underlying s = some .string) (hd : P.underlying d = some .string) {x : Operand} {ax : AX} (hx : opd x = some ax) (ho : o.op = .convert s d x) :
    OSound P E h w (xop P hyp tm h (.s2s ax)) ((execOp a.eval o).run P w) := by
  have h1 := opd_spec hr.globs ht hx
  simp only [xop]
  cases hv : ev tm ax with
  | str s' n =>
    rw [hv] at h1
    have h1' := h1
    obtain ⟨bs, h2, _⟩ := h1
    refine OSound.val hr h1' ?_
    simp only [execOp, ho]
    exact run_v (by simp [convert, run_underlying hs, run_underlying hd, h2])
  | _ => trivial

end ops
end Go.Am
