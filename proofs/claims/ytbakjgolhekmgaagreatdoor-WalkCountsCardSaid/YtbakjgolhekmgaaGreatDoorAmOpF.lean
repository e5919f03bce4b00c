/- Operations, one by one (fifth part): slicing, texts and bytes, maps, lengths, least and most. -/
import Derived.Test.YtbakjgolhekmgaaGreatDoorAmOpE
import Derived.Laws.Externs
namespace Go.Am

section
variable {P : Program} {E : Env} {h : AH} {w : World} {hyp : Hyp} {tm : Tr AV} {a : Act} {o : Oper}

/- slicing -/
theorem opdO_spec {x : Option Operand} {ax : Option AX} (h : opdO x = some ax) : (x = none ∧ ax = none) ∨ ∃ y ay, x = some y ∧ ax = some ay ∧ opd y = some ay := by
  cases x with
  | none => simp only [opdO, Option.some.injEq] at h; exact .inl ⟨rfl, h.symm⟩
  | some y =>
    simp only [opdO] at h
    cases hy : opd y with
    | none => rw [hy] at h; cases h
    | some ay => rw [hy] at h; cases h; exact .inr ⟨y, ay, rfl, rfl, hy⟩
theorem bound_run {k : IntKind} {n y : Nat} {code : BoundsCode} (h : n ≤ y) : (Instr.sliceBound (.int k (n : Int)) y code).run P w = .ok n w := by
  have := run_sliceBound (P := P) w k (n : Int) y code (by omega) (by omega)
  simpa using this
theorem bounds_run (hr : HRel E h w) (ht : TRel E tm a.tmps) {lo hi mx : Option Operand} {alo ahi amx : Option AX} (hlo : opdO lo = some alo) (hhi : opdO hi = some ahi) (hmx : opdO mx = some amx) {len cap l hh m : Nat}
    (hb : bounds tm len cap alo ahi amx = some (l, hh, m)) (c : Nat) (hc : cap ≤ c) (isSl : Bool) :
    ∃ m', (Instr.sliceBounds isSl len c (lo.map a.eval) (hi.map a.eval) (mx.map a.eval)).run P w = .ok (l, hh, m') w ∧ l ≤ hh ∧ hh ≤ m ∧ m ≤ cap ∧ m ≤ m' ∧ m' ≤ c ∧ (amx.isSome = true → m' = m) ∧ (amx.isSome = false → m' = c ∧ m = cap) := by
  unfold bounds at hb
  cases h1 : optNat tm amx cap with
  | none => rw [h1] at hb; cases hb
  | some m0 =>
    cases h2 : optNat tm ahi len with
    | none => rw [h1, h2] at hb; cases hb
    | some h0 =>
      cases h3 : optNat tm alo 0 with
      | none => rw [h1, h2, h3] at hb; cases hb
      | some l0 =>
        rw [h1, h2, h3] at hb
        simp only at hb
        cases hcond : (Nat.ble m0 cap && (Nat.ble h0 m0 && (Nat.ble l0 h0 && (amx.isNone || ahi.isSome)))) with
        | false => rw [hcond] at hb; cases hb
        | true =>
          rw [hcond] at hb
          cases hb
          simp only [Bool.and_eq_true] at hcond
          obtain ⟨c1, c2, c3, c4⟩ := hcond
          have c1 : m ≤ cap := Nat.le_of_ble_eq_true c1
          have c2 : hh ≤ m := Nat.le_of_ble_eq_true c2
          have c3 : l ≤ hh := Nat.le_of_ble_eq_true c3
          -- the lowest
          have low : ∃ q : Option Value, lo.map a.eval = q ∧ (q = none ∧ l = 0 ∨ ∃ k, q = some (.int k (l : Int))) := by
            rcases opdO_spec hlo with ⟨rfl, rfl⟩ | ⟨y, ay, rfl, rfl, hy⟩
            · simp only [optNat, Option.some.injEq] at h3
              exact ⟨none, rfl, .inl ⟨rfl, h3.symm⟩⟩
            · simp only [optNat] at h3
              obtain ⟨k, hk⟩ := natOf_spec h3 (opd_spec hr.globs ht hy)
              exact ⟨_, rfl, .inr ⟨k, by rw [Option.map_some, hk]⟩⟩
          obtain ⟨q, hq, low⟩ := low
          rw [hq]
          rcases opdO_spec hmx with ⟨rfl, rfl⟩ | ⟨y, ay, rfl, rfl, hy⟩
          · simp only [optNat, Option.some.injEq] at h1
            subst h1
            refine ⟨c, ?_, c3, c2, c1, hc, Nat.le_refl _, fun h => (by cases h), fun _ => ⟨rfl, rfl⟩⟩
            rcases opdO_spec hhi with ⟨rfl, rfl⟩ | ⟨y, ay, rfl, rfl, hy⟩
            · simp only [optNat, Option.some.injEq] at h2
              subst h2
              rcases low with ⟨rfl, rfl⟩ | ⟨k, rfl⟩
              · simp only [Instr.sliceBounds, Option.map_none, Sem.run_bind, Sem.run_pure, Result.andThen_ok, Option.isSome_none, Bool.false_eq_true, if_false]
              · simp only [Instr.sliceBounds, Option.map_none, Sem.run_bind, Sem.run_pure, Result.andThen_ok, Option.isSome_none, Bool.false_eq_true, if_false, bound_run c3]
            · simp only [optNat] at h2
              obtain ⟨k, hk⟩ := natOf_spec h2 (opd_spec hr.globs ht hy)
              have b2 := fun code => bound_run (P := P) (w := w) (k := k) (code := code) (Nat.le_trans c2 hc)
              rcases low with ⟨rfl, rfl⟩ | ⟨k', rfl⟩
              · simp only [Instr.sliceBounds, Option.map_none, Option.map_some, Sem.run_bind, Sem.run_pure, Result.andThen_ok, Option.isSome_none, Bool.false_eq_true, if_false, hk, b2]
              · simp only [Instr.sliceBounds, Option.map_none, Option.map_some, Sem.run_bind, Sem.run_pure, Result.andThen_ok, Option.isSome_none, Bool.false_eq_true, if_false, hk, b2, bound_run c3]
          · simp only [optNat] at h1
            obtain ⟨k, hk⟩ := natOf_spec h1 (opd_spec hr.globs ht hy)
            refine ⟨m, ?_, c3, c2, c1, Nat.le_refl _, by omega, fun _ => rfl, fun h => (by cases h)⟩
            rcases opdO_spec hhi with ⟨rfl, rfl⟩ | ⟨z, az, rfl, rfl, hz⟩
            · simp at c4
            · simp only [optNat] at h2
              obtain ⟨k2, hk2⟩ := natOf_spec h2 (opd_spec hr.globs ht hz)
              have b1 := fun code => bound_run (P := P) (w := w) (k := k) (code := code) (Nat.le_trans c1 hc)
              have b2 := fun code => bound_run (P := P) (w := w) (k := k2) (code := code) c2
              rcases low with ⟨rfl, rfl⟩ | ⟨k', rfl⟩
              · simp only [Instr.sliceBounds, Option.map_some, Sem.run_bind, Sem.run_pure, Result.andThen_ok, Option.isSome_some, if_true, hk, hk2, b1, b2]
              · simp only [Instr.sliceBounds, Option.map_some, Sem.run_bind, Sem.run_pure, Result.andThen_ok, Option.isSome_some, if_true, hk, hk2, b1, b2, bound_run c3]

theorem s_sa (hr : HRel E h w) (ht : TRel E tm a.tmps) {t : TypeId} {n : Nat} {e : TypeId} (hu : P.underlying t = some (.array n e)) {z : Nat} (hz : sizeIn P e = some z) {x : Operand} {lo hi mx : Option Operand} {ax : AX} {alo ahi amx : Option AX}
    (hx : opd x = some ax) (hlo : opdO lo = some alo) (hhi : opdO hi = some ahi) (hmx : opdO mx = some amx) (ho : o.op = .slice t x lo hi mx) : OSound P E h w (xop P hyp tm h (.sa n z ax alo ahi amx)) ((execOp a.eval o).run P w) := by
  have h1 := opd_spec hr.globs ht hx
  simp only [xop]
  cases hv : ev tm ax with
  | ptr b off =>
    rw [hv] at h1
    obtain ⟨y, hy, h3⟩ := h1
    simp only
    cases hg : h.t.get b with
    | none => trivial
    | some ob =>
      cases ob with
      | map => trivial
      | cells ct bn sh fam co pl ro =>
        simp only
        cases hb : Nat.ble (Nat.add off (Nat.mul n z)) bn with
        | false => trivial
        | true =>
          have hble : off + n * z ≤ bn := Nat.le_of_ble_eq_true hb
          simp only [cond_true]
          cases hbd : bounds tm n n alo ahi amx with
          | none => trivial
          | some q =>
            obtain ⟨l, hh, m⟩ := q
            obtain ⟨m', g1, g2, g3, g4, g5, g6, g7, g8⟩ := bounds_run (P := P) hr ht hlo hhi hmx hbd n (Nat.le_refl _) false
            have hmm : m' = m := by
              cases hs : amx.isSome with
              | true => exact g7 hs
              | false => have := g8 hs; omega
            subst hmm
            simp only
            obtain ⟨y', hy', c, el, fz, _, q2, q3, _⟩ := hr.obj b _ hg
            rw [hy] at hy'
            obtain rfl := Option.some.inj hy'
            refine OSound.val hr (y := .slice (some (if m' = l then y.at off else y.at (off + l * z))) (hh - l) (m' - l)) ?_ ?_
            · refine ⟨_, m' - l, rfl, Nat.le_refl _, fun _ => rfl, by show hh - l ≤ m' - l; omega, by split <;> rfl, fun hc => ⟨y, hy, ?_, ?_⟩⟩
              · rw [if_neg (by omega)]; rfl
              · show off + l * z + (m' - l) * z ≤ y.room
                have : off + l * z + (m' - l) * z ≤ off + n * z := by
                  rw [Nat.add_assoc, ← Nat.add_mul]
                  have : l + (m' - l) ≤ n := by omega
                  exact Nat.add_le_add_left (Nat.mul_le_mul_right z this) off
                omega
            · simp only [execOp, ho]
              refine run_v ?_
              simp only [Instr.sliceAt, Sem.run_bind, run_underlying hu, Result.andThen_ok, h3, Instr.sureAddr, Sem.run_pure, g1, run_sizeOf hz, Slot.at_add]
  | _ => trivial

theorem s_sl (hr : HRel E h w) (ht : TRel E tm a.tmps) {t : TypeId} {e : TypeId} (hu : P.underlying t = some (.slice e)) {z : Nat} (hz : sizeIn P e = some z) {x : Operand} {lo hi mx : Option Operand} {ax : AX} {alo ahi amx : Option AX}
    (hx : opd x = some ax) (hlo : opdO lo = some alo) (hhi : opdO hi = some ahi) (hmx : opdO mx = some amx) (ho : o.op = .slice t x lo hi mx) : OSound P E h w (xop P hyp tm h (.sl z ax alo ahi amx)) ((execOp a.eval o).run P w) := by
  have h1 := opd_spec hr.globs ht hx
  simp only [xop]
  cases hv : ev tm ax with
  | nilslice =>
    rw [hv] at h1
    obtain h1 : a.eval x = .slice none 0 0 := h1
    simp only
    cases hbd : bounds tm 0 0 alo ahi amx with
    | none => trivial
    | some q =>
      obtain ⟨l, hh, m⟩ := q
      obtain ⟨m', g1, g2, g3, g4, g5, g6, g7, g8⟩ := bounds_run (P := P) hr ht hlo hhi hmx hbd 0 (Nat.le_refl _) true
      have e1 : m' = 0 := by omega
      have e2 : l = 0 := by omega
      have e3 : hh = 0 := by omega
      subst e1 e2 e3
      refine OSound.val hr (y := .slice none 0 0) (by exact rfl) ?_
      simp only [execOp, ho]
      refine run_v ?_
      simp [Instr.sliceAt, Instr.slice, run_underlying hu, h1, g1, run_sizeOf hz]
  | slice b off len cap z' ex =>
    rw [hv] at h1
    obtain ⟨ad, c, h3, h4, h5, h6, h7, h8⟩ := h1
    simp only
    cases hzz : Nat.beq z z' with
    | false => trivial
    | true =>
      obtain rfl := Nat.eq_of_beq_eq_true hzz
      simp only [cond_true]
      cases hbd : bounds tm len cap alo ahi amx with
      | none => trivial
      | some q =>
        obtain ⟨l, hh, m⟩ := q
        obtain ⟨m', g1, g2, g3, g4, g5, g6, g7, g8⟩ := bounds_run (P := P) hr ht hlo hhi hmx hbd c h4 true
        simp only
        refine OSound.val hr (y := .slice (some (if m' = l then ad else ad.add (l * z))) (hh - l) (m' - l)) ?_ ?_
        · refine ⟨_, m' - l, rfl, by show m - l ≤ m' - l; omega, fun hex => ?_, by show hh - l ≤ m - l; omega, ?_, fun hc => ?_⟩
          · rw [Bool.or_eq_true] at hex
            show m' - l = m - l
            rcases hex with hex | hex
            · cases hs : amx.isSome with
              | true => rw [g7 hs]
              | false =>
                obtain ⟨q1, q2⟩ := g8 hs
                have := h5 hex
                omega
            · rw [g7 hex]
          · split
            · exact h7
            · unfold Addr.add
              split
              · exact h7
              · rfl
          · obtain ⟨y, hy, q1, q2⟩ := h8 (by omega)
            refine ⟨y, hy, ?_, ?_⟩
            · rw [if_neg (by omega), q1, Slot.at_add]; rfl
            · show off + l * z + (m' - l) * z ≤ y.room
              have : off + l * z + (m' - l) * z ≤ off + c * z := by
                rw [Nat.add_assoc, ← Nat.add_mul]
                have : l + (m' - l) ≤ c := by omega
                exact Nat.add_le_add_left (Nat.mul_le_mul_right z this) off
              omega
        · simp only [execOp, ho]
          refine run_v ?_
          simp only [Instr.sliceAt, Instr.slice, Sem.run_bind, run_underlying hu, Result.andThen_ok, h3, Sem.run_pure, g1, run_sizeOf hz]
          split <;> rfl
  | _ => trivial

theorem extract_bytes (bs : ByteArray) (l hh : Nat) (h1 : l ≤ hh) (h2 : hh ≤ bs.data.toList.length) : (bs.extract l hh).data.toList = (bs.data.toList.drop l).take (hh - l) := by
  have : (bs.extract l hh).data = bs.data.extract l hh := by
    simp [ByteArray.extract, ByteArray.copySlice]
    rw [Array.length_toList] at h2
    congr 1
    omega
  rw [this, Array.toList_extract, List.extract_eq_take_drop]

theorem s_ss (hr : HRel E h w) (ht : TRel E tm a.tmps) {t : TypeId} (hu : P.underlying t = some .string) {x : Operand} {lo hi : Option Operand} {ax : AX} {alo ahi : Option AX}
    (hx : opd x = some ax) (hlo : opdO lo = some alo) (hhi : opdO hi = some ahi) (ho : o.op = .slice t x lo hi none) : OSound P E h w (xop P hyp tm h (.ss ax alo ahi)) ((execOp a.eval o).run P w) := by
  have h1 := opd_spec hr.globs ht hx
  simp only [xop]
  cases hv : ev tm ax with
  | str s n =>
    rw [hv] at h1
    obtain ⟨bs, h3, rfl, rfl⟩ := h1
    simp only
    cases hbd : bounds tm bs.data.toList.length bs.data.toList.length alo ahi none with
    | none => trivial
    | some q =>
      obtain ⟨l, hh, m⟩ := q
      have hsz : bs.size = bs.data.toList.length := by rw [Array.length_toList]; rfl
      obtain ⟨m', g1, g2, g3, g4, g5, g6, g7, g8⟩ := bounds_run (P := P) hr ht hlo hhi (rfl : opdO none = some none) hbd bs.data.toList.length (Nat.le_refl _) false
      simp only
      have hx := extract_bytes bs l hh g2 (by omega)
      refine OSound.val hr (y := .string (bs.extract l hh)) (v := .str _ _) (by
        refine ⟨_, rfl, ?_, ?_⟩
        · rw [hx, cut_enc]
        · rw [hx]
          show ((bs.data.toList.drop l).take (hh - l)).length = hh - l
          rw [List.length_take, List.length_drop]; omega) ?_
      · simp only [execOp, ho]
        refine run_v ?_
        rw [← hsz] at g1
        simp only [Option.map_none] at g1 ⊢
        simp only [Instr.sliceAt, Instr.slice, Sem.run_bind, run_underlying hu, Result.andThen_ok, h3, Sem.run_pure, Option.isSome_none, Bool.false_eq_true, if_false, g1]
  | _ => trivial

end
end Go.Am
