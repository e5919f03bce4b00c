/- What stands behind the operations: operands, the tables of types, reads. -/
import Derived.Test.YtbakjgolhekmgaaGreatDoorAmApp
namespace Go.Am

theorem ofVals_spec {E : Env} {f : Value → Option AV} (hf : ∀ v a, f v = some a → VR E a v) : ∀ (l : List Value) (m : List AV), ofVals f l = some m → VRs E m l
  | [], m, h => by simp only [ofVals, Option.some.injEq] at h; subst h; exact VRs.nil
  | v :: l, m, h => by
    simp only [ofVals] at h
    cases h1 : f v with
    | none => simp [h1] at h
    | some a =>
      simp only [h1] at h
      cases h2 : ofVals f l with
      | none => simp [h2] at h
      | some m' =>
        simp only [h2, Option.some.injEq] at h
        subst h
        exact VRs.cons (hf v a h1) (ofVals_spec hf l m' h2)
theorem ofValF_spec (E : Env) : ∀ (d : Nat) (v : Value) (a : AV), ofValF d v = some a → VR E a v
  | 0, v, a, h => by simp [ofValF] at h
  | d + 1, v, a, h => by
    have ih := fun v a h => ofValF_spec E d v a h
    cases v with
    | bool b => simp only [ofValF, Option.some.injEq] at h; subst h; rfl
    | int k n => simp only [ofValF, Option.some.injEq] at h; subst h; rfl
    | float k n => simp [ofValF] at h
    | complex k n m => simp [ofValF] at h
    | string s => simp only [ofValF, Option.some.injEq] at h; subst h; exact ⟨s, rfl, rfl, rfl⟩
    | pointer p =>
      cases p with
      | none => simp only [ofValF, Option.some.injEq] at h; subst h; rfl
      | some p => simp [ofValF] at h
    | slice p n m =>
      unfold ofValF at h
      split at h <;> simp_all
      all_goals (subst h; rfl)
    | map r =>
      cases r with
      | none => simp only [ofValF, Option.some.injEq] at h; subst h; rfl
      | some p => simp [ofValF] at h
    | chan r => simp [ofValF] at h
    | nilFunc => simp only [ofValF, Option.some.injEq] at h; subst h; rfl
    | nilIface => simp only [ofValF, Option.some.injEq] at h; subst h; rfl
    | iface t v =>
      simp only [ofValF] at h
      cases h1 : ofValF d v with
      | none => simp [h1] at h
      | some b =>
        simp only [h1, Option.some.injEq] at h
        subst h
        exact ⟨v, rfl, ih v b h1⟩
    | func fn x y =>
      simp only [ofValF] at h
      cases h1 : ofVals (ofValF d) x.toList with
      | none => simp [h1] at h
      | some b =>
        cases h2 : ofVals (ofValF d) y.toList with
        | none => simp [h1, h2] at h
        | some c =>
          simp only [h1, h2, Option.some.injEq] at h
          subst h
          exact ⟨x, y, rfl, ofVals_spec ih _ _ h1, ofVals_spec ih _ _ h2⟩
    | agg x =>
      simp only [ofValF] at h
      cases h1 : ofVals (ofValF d) x.toList with
      | none => simp [h1] at h
      | some b =>
        simp only [h1, Option.some.injEq] at h
        subst h
        exact ⟨x, rfl, ofVals_spec ih _ _ h1⟩
    | tuple x =>
      simp only [ofValF] at h
      cases h1 : ofVals (ofValF d) x.toList with
      | none => simp [h1] at h
      | some b =>
        simp only [h1, Option.some.injEq] at h
        subst h
        exact ⟨x, rfl, ofVals_spec ih _ _ h1⟩
theorem ofVal_spec (E : Env) {v : Value} {a : AV} (h : ofVal v = some a) : VR E a v := ofValF_spec E 6 v a h

/-- slots as they are known. -/
def TRel (E : Env) (tm : Tr AV) (vs : Array Value) : Prop := ∀ t v, tm.get t = some v → VR E v (vs.getD t undef)
theorem TRel.mono {E E' : Env} (h : E.le E') {tm : Tr AV} {vs : Array Value} (ht : TRel E tm vs) : TRel E' tm vs := fun t v hv => VR.mono h v _ (ht t v hv)
/-- names of the program's variables. -/
def Glob (E : Env) : Prop := ∀ g, g < 4096 → ∃ r, E.σ g = some ⟨g, 0, r⟩

theorem opd_spec {E : Env} (hg : Glob E) {tm : Tr AV} {a : Act} (ht : TRel E tm a.tmps) {x : Operand} {ax : AX} (h : opd x = some ax) : VR E (ev tm ax) (a.eval x) := by
  cases x with
  | tmp t =>
    simp only [opd, Option.some.injEq] at h
    subst h
    simp only [ev, Tr.getP_pathOf, Act.eval]
    cases hv : tm.get t with
    | none => trivial
    | some v => exact ht t v hv
  | const v =>
    simp only [opd] at h
    cases hv : ofVal v with
    | none => simp [hv] at h
    | some b =>
      simp only [hv, Option.some.injEq] at h
      subst h
      exact ofVal_spec E hv
  | global g =>
    simp only [opd] at h
    cases hb : Nat.blt g 4096 with
    | false => simp [hb] at h
    | true =>
      simp only [hb, cond_true, Option.some.injEq] at h
      subst h
      have hlt : g + 1 ≤ 4096 := Nat.le_of_ble_eq_true hb
      obtain ⟨r, hr⟩ := hg g (by omega)
      refine ⟨_, hr, ?_⟩
      simp [Act.eval, Slot.at]
  | func f =>
    simp only [opd, Option.some.injEq] at h
    subst h
    exact ⟨#[], #[], rfl, VRs.nil, VRs.nil⟩
theorem opds_spec {E : Env} (hg : Glob E) {tm : Tr AV} {a : Act} (ht : TRel E tm a.tmps) : ∀ {l : List Operand} {m : List AX}, opds l = some m → VRs E (evs tm m) (l.map a.eval)
  | [], m, h => by simp only [opds, Option.some.injEq] at h; subst h; exact VRs.nil
  | x :: l, m, h => by
    simp only [opds] at h
    cases h1 : opd x with
    | none => simp [h1] at h
    | some b =>
      simp only [h1] at h
      cases h2 : opds l with
      | none => simp [h2] at h
      | some m' =>
        simp only [h2, Option.some.injEq] at h
        subst h
        exact VRs.cons (opd_spec hg ht h1) (opds_spec hg ht h2)

section
variable {P : Program} {w : World}
theorem run_underlying {t : TypeId} {d : TypeDesc} (h : P.underlying t = some d) : (underlying t).run P w = .ok d w := by
  simp only [underlying, Sem.run_bind, run_program, Result.andThen_ok, h, Sem.run_pure]
theorem run_typeInfo {t : TypeId} {i : TypeInfo} (h : P.info? t = some i) : (typeInfo t).run P w = .ok i w := by
  simp only [typeInfo, Sem.run_bind, run_program, Result.andThen_ok, h, Sem.run_pure]
theorem sizeIn_info {t n : Nat} (h : sizeIn P t = some n) : ∃ i, P.info? t = some i ∧ i.size = n := by
  unfold sizeIn at h
  cases hi : P.info? t with
  | none => simp [hi] at h
  | some i => simp only [hi, Option.some.injEq] at h; exact ⟨i, rfl, h⟩
theorem run_sizeOf {t n : Nat} (h : sizeIn P t = some n) : (sizeOf t).run P w = .ok n w := by
  obtain ⟨i, hi, rfl⟩ := sizeIn_info h
  simp only [sizeOf, Sem.run_bind, run_typeInfo hi, Result.andThen_ok, Sem.run_pure]
theorem bytesIn_info {t n : Nat} (h : bytesIn P t = some n) : ∃ i, P.info? t = some i ∧ i.bytes = n := by
  unfold bytesIn at h
  cases hi : P.info? t with
  | none => simp [hi] at h
  | some i => simp only [hi, Option.some.injEq] at h; exact ⟨i, rfl, h⟩
theorem zeroIn_info {t : Nat} {a : AV} (h : zeroIn P t = some a) : ∃ i v, P.info? t = some i ∧ i.zero = some v ∧ ∀ E, VR E a v := by
  unfold zeroIn at h
  cases hi : P.info? t with
  | none => simp [hi] at h
  | some i =>
    simp only [hi] at h
    cases hz : i.zero with
    | none => simp [hz] at h
    | some v => simp only [hz] at h; exact ⟨i, v, rfl, hz, fun E => ofVal_spec E h⟩
theorem run_zeroValue {t : Nat} {a : AV} (h : zeroIn P t = some a) : ∃ v, (∀ w, (zeroValue t).run P w = .ok v w) ∧ ∀ E, VR E a v := by
  obtain ⟨i, v, hi, hz, hv⟩ := zeroIn_info h
  refine ⟨v, fun w => ?_, hv⟩
  simp only [zeroValue, Sem.run_bind, run_typeInfo hi, Result.andThen_ok, hz, Sem.run_pure]
theorem aggIn_some {t n : Nat} (h : aggIn P t = some (some n)) : (∀ w, (isAgg t).run P w = .ok true w) ∧ sizeIn P t = some n := by
  unfold aggIn at h
  cases hu : P.underlying t with
  | none => simp [hu] at h
  | some d =>
    have key : sizeIn P t = some n → (d matches .struct _ | .array _ _) = true → (∀ w, (isAgg t).run P w = .ok true w) ∧ sizeIn P t = some n := by
      intro h1 h2
      refine ⟨fun w => ?_, h1⟩
      cases d <;> simp_all [isAgg, run_underlying hu]
    cases d <;> simp only [hu] at h <;> first
      | (cases hs : sizeIn P t with
         | none => rw [hs] at h; cases h
         | some m => rw [hs] at h; cases h; exact hs ▸ key hs rfl)
      | (cases h)
theorem aggIn_none {t : Nat} (h : aggIn P t = some none) : ∀ w, (isAgg t).run P w = .ok false w := by
  unfold aggIn at h
  intro w
  cases hu : P.underlying t with
  | none => simp [hu] at h
  | some d =>
    have key : (d matches .struct _ | .array _ _) = false → (isAgg t).run P w = .ok false w := by
      intro h2
      cases d <;> simp_all [isAgg, run_underlying hu]
    cases d <;> simp only [hu] at h <;> first
      | exact key rfl
      | (exfalso; cases hs : sizeIn P t with
         | none => rw [hs] at h; cases h
         | some m => rw [hs] at h; cases h)
end

/-- a load of a variable. -/
theorem load_spec {E : Env} {h : AH} {w : World} {P : Program} (hr : HRel E h w) {t : Nat} {n : Option Nat} (hn : aggIn P t = some n) {b o : Nat} {v : AV} (hv : loadOf n h b o = some v) {x : Slot} (hx : E.σ b = some x) :
    ∃ y, (loadVar t (x.at o)).run P w = .ok y w ∧ VR E v y := by
  cases n with
  | none =>
    obtain ⟨x', y, hx', h1, h2⟩ := hr.rd hv
    rw [hx] at hx'
    obtain rfl := Option.some.inj hx'
    refine ⟨y, ?_, h2⟩
    simp [loadVar, aggIn_none hn, h1]
  | some n =>
    simp only [loadOf] at hv
    cases hl : h.rds b o n with
    | none => simp [hl] at hv
    | some l =>
      simp only [hl, Option.some.injEq] at hv
      subst hv
      obtain ⟨h1, h2⟩ := aggIn_some hn
      obtain ⟨vs, g1, g2, g3⟩ := hr.vals hl hx
      refine ⟨.agg vs.toArray, ?_, vs.toArray, rfl, by simpa using g2⟩
      simp [loadVar, h1, run_sizeOf h2, run_loadCells P w (x.at o) n vs g1 g3]

theorem slit_spec {l : List AV} {off n : Nat} {m : List AV} (h : slit l off n = some m) : off + n ≤ l.length ∧ m = (l.drop off).take n := by
  unfold slit at h
  cases hb : Nat.ble (Nat.add off n) l.length with
  | false => rw [hb] at h; cases h
  | true =>
    simp only [hb, cond_true, Option.some.injEq] at h
    exact ⟨Nat.le_of_ble_eq_true hb, h.symm⟩
/-- a part of an aggregate. -/
theorem part_spec {E : Env} {P : Program} {t : Nat} {n : Option Nat} (hn : aggIn P t = some n) {cs : List AV} {a : Array Value} (hc : VRs E cs a.toList) {off : Nat} {v : AV} (hv : partOf n cs off = some v) :
    ∃ y, (∀ w, (part t a off).run P w = .ok y w) ∧ VR E v y := by
  cases n with
  | none =>
    simp only [partOf, nth_eq] at hv
    obtain ⟨y, h1, h2⟩ := hc.get _ _ hv
    refine ⟨y, fun w => ?_, h2⟩
    have : a[off]? = some y := by rw [← Array.getElem?_toList]; exact h1
    simp [part, aggIn_none hn, this]
  | some n =>
    simp only [partOf] at hv
    cases hl : slit cs off n with
    | none => simp [hl] at hv
    | some l =>
      simp only [hl, Option.some.injEq] at hv
      subst hv
      obtain ⟨h1, rfl⟩ := slit_spec hl
      obtain ⟨h2, h3⟩ := aggIn_some hn
      refine ⟨.agg (a.extract off (off + n)), fun w => ?_, _, rfl, ?_⟩
      · simp [part, h2, run_sizeOf h3]
      · rw [Array.toList_extract, List.extract_eq_take_drop, show off + n - off = n by omega]
        exact (hc.drop off).take n

/-- a store into a variable. -/
theorem store_spec {E : Env} {h h' : AH} {w : World} {P : Program} (hr : HRel E h w) {t n : Nat} (hn : sizeIn P t = some n) {b o : Nat} {v : AV} {y : Value} (hv : VR E v y) (hl : Nat.beq v.cells.length n = true)
    (hw : h.wrs b o v.cells = some h') {x : Slot} (hx : E.σ b = some x) : ∃ w', (storeVar t (x.at o) y).run P w = .ok () w' ∧ HRel E h' w' ∧ Ext E h w E h' w' := by
  have hl := Nat.eq_of_beq_eq_true hl
  have hcells : VRs E v.cells y.cells.toList := by
    by_cases he : v.cells = []
    · cases v <;> first | (simp [AV.cells] at he; done) | skip
      rename_i cs
      exact hv.cells (.inr ⟨_, rfl⟩)
    · have hones : ones v.cells = true := by
        cases hc : v.cells with
        | nil => exact absurd hc he
        | cons a l =>
          rw [hc] at hw
          simp only [AH.wrs] at hw
          split at hw
          · rename_i t' n' sh fam co pl ro _
            cases hb : (!ro && (Nat.ble (Nat.add o (a :: l).length) n' && ones (a :: l))) with
            | false => rw [hb] at hw; simp at hw
            | true => simp only [Bool.and_eq_true] at hb; exact hb.2.2
          · cases hw
      exact hv.cells_ones hones
  obtain ⟨w', h1, h2, h3⟩ := hr.wrs P hw hcells x (fun _ => hx)
  refine ⟨w', ?_, h2, h3⟩
  have hsz : y.cells.size = n := by
    have := hcells.length
    rw [hl] at this
    simpa using this
  simp only [storeVar, Sem.run_bind, run_sizeOf hn, Result.andThen_ok, hsz, ne_eq, not_true_eq_false, if_false]
  exact h1

end Go.Am
