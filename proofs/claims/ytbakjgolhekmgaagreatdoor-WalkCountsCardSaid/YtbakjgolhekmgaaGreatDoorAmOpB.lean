/- Operations, one by one (first part): what the abstract one comes to, the model's does. -/
import Derived.Test.YtbakjgolhekmgaaGreatDoorAmOpA
import Derived.Laws.BytesString
import Derived.Laws.Append
import Derived.Laws.Strings
import Derived.Laws.Slices
namespace Go.Am

/-- what an abstract result says of the model's. -/
def OSound (P : Program) (E : Env) (h : AH) (w : World) (x : OR) (r : Result Next) : Prop :=
  match x with
  | .no => True
  | .v v h' => ∃ nx y w' E', r = .ok nx w' ∧ (nx = .value y ∨ (nx = .skip ∧ y = undef)) ∧ VR E' v y ∧ HRel E' h' w' ∧ Ext E h w E' h' w'
  | .call f args h' => ∃ ys, r = .ok (.enter f ys) w ∧ VRs E args ys.toList ∧ h' = h
  | .dfr f args h' => ∃ fn cap xs ys, r = .ok (.defer { target := .fn fn cap, args := xs }) w ∧ VRs E args ys.toList ∧ h' = h ∧ ∀ w, (invoke (.fn fn cap) xs).run P w = .ok (.enter f ys) w
  | .pan v h' => ∃ y, r = .halt (.panic y) w ∧ VR E v y ∧ h' = h
  | .rcv h' => r = .ok .recover w ∧ h' = h

section
variable {P : Program} {E : Env} {h : AH} {w : World}
theorem OSound.val (hr : HRel E h w) {v : AV} {y : Value} (hv : VR E v y) {r : Result Next} (e : r = .ok (.value y) w) : OSound P E h w (.v v h) r :=
  ⟨.value y, y, w, E, e, .inl rfl, hv, hr, .refl hr⟩
theorem OSound.valE {h' : AH} {w' : World} {E' : Env} (hr : HRel E' h' w') (hx : Ext E h w E' h' w') {v : AV} {y : Value} (hv : VR E' v y) {r : Result Next} (e : r = .ok (.value y) w') : OSound P E h w (.v v h') r :=
  ⟨.value y, y, w', E', e, .inl rfl, hv, hr, hx⟩
theorem undef_rel : VR E .undef undef := ⟨#[], rfl, VRs.nil⟩
theorem OSound.skip {h' : AH} {w' : World} {E' : Env} {r : Result Next} (e : r = .ok .skip w') (hr : HRel E' h' w') (hx : Ext E h w E' h' w') : OSound P E h w (.v .undef h') r :=
  ⟨.skip, undef, w', E', e, .inr ⟨rfl, rfl⟩, undef_rel, hr, hx⟩
/-- 'v (..)': an operation that gives a value. -/
theorem run_v {s : Sem Value} {y : Value} {w' : World} (e : s.run P w = .ok y w') : (do pure (.value (← s)) : Sem Next).run P w = .ok (.value y) w' := by
  simp only [Sem.run_bind, e, Result.andThen_ok, Sem.run_pure]
theorem run_u {s : Sem Unit} {w' : World} (e : s.run P w = .ok () w') : (do s; pure .skip : Sem Next).run P w = .ok .skip w' := by
  simp only [Sem.run_bind, e, Result.andThen_ok, Sem.run_pure]
end

theorem natOf_spec {E : Env} {v : AV} {n : Nat} {y : Value} (h : natOf v = some n) (hv : VR E v y) : ∃ k, y = .int k (n : Int) := by
  unfold natOf at h
  split at h
  · rename_i k a
    split at h
    · split at h
      · simp only [Option.some.injEq] at h
        subst h
        exact ⟨k, hv⟩
      · cases h
    · cases h
  · cases h

/- filling -/
theorem foldl_set (off : Nat) : ∀ (vs : List Value) (k : Nat) (cs : Array Value), off + k + vs.length ≤ cs.size →
    ((vs.zipIdx k).foldl (fun (cs : Array Value) (p : Value × Nat) => cs.setIfInBounds (off + p.2) p.1) cs).toList = cs.toList.take (off + k) ++ (vs ++ cs.toList.drop (off + k + vs.length))
  | [], k, cs, _ => by simp
  | v :: vs, k, cs, hl => by
    simp only [List.length_cons] at hl
    rw [List.zipIdx_cons, List.foldl_cons, foldl_set off vs (k + 1) _ (by simp; omega)]
    apply List.ext_getElem?
    intro i
    simp only [List.length_cons, List.cons_append, Array.toList_setIfInBounds]
    rw [List.getElem?_append (l₁ := List.take (off + (k + 1)) _), List.getElem?_append (l₁ := List.take (off + k) _)]
    simp only [List.length_take, List.length_set, Array.length_toList]
    have e1 : min (off + (k + 1)) cs.size = off + k + 1 := by omega
    have e2 : min (off + k) cs.size = off + k := by omega
    rw [e1, e2]
    by_cases h1 : i < off + k
    · rw [if_pos (by omega), if_pos h1, List.getElem?_take, List.getElem?_take, if_pos (by omega), if_pos h1, List.getElem?_set_ne (by omega)]
    · rw [if_neg h1]
      by_cases h2 : i = off + k
      · subst h2
        rw [if_pos (by omega), List.getElem?_take, if_pos (by omega), List.getElem?_set_self (by simp; omega)]
        simp
      · rw [if_neg (by omega)]
        obtain ⟨j, rfl⟩ : ∃ j, i = off + k + 1 + j := ⟨i - (off + k + 1), by omega⟩
        rw [show off + k + 1 + j - (off + k + 1) = j by omega, show off + k + 1 + j - (off + k) = j + 1 by omega, List.getElem?_cons_succ]
        rw [List.getElem?_append, List.getElem?_append]
        by_cases h3 : j < vs.length
        · rw [if_pos h3, if_pos h3]
        · rw [if_neg h3, if_neg h3, List.getElem?_drop, List.getElem?_drop, List.getElem?_set_ne (by omega)]
          congr 1
          omega
theorem solid_cells {E : Env} {v : AV} {y : Value} (hs : v.solid = true) (h : VR E v y) : VRs E v.cells y.cells.toList := by
  refine h.cells ?_
  cases v <;> first | exact .inl rfl | exact .inr ⟨_, rfl⟩ | (simp [AV.solid] at hs)
theorem fill_spec {E : Env} (hg : Glob E) {tm : Tr AV} {a : Act} (ht : TRel E tm a.tmps) {place place' : Nat → Option (Nat × Nat)} (hpl : ∀ i p, place i = some p → place' i = some p) :
    ∀ (parts : List (Nat × Operand)) (ps : List (Nat × Nat × AX)) (cells cells' : List AV) (cs : Array Value), partsIn place parts = some ps → VRs E cells cs.toList → fillIn cells (evps tm ps) = some cells' →
      ∃ cs', Instr.fill place' cs (parts.map fun p => (p.1, a.eval p.2)) = some cs' ∧ VRs E cells' cs'.toList
  | [], ps, cells, cells', cs, hp, hc, hf => by
    simp only [partsIn, Option.some.injEq] at hp
    subst hp
    simp only [evps, fillIn, Option.some.injEq] at hf
    subst hf
    exact ⟨cs, rfl, hc⟩
  | (i, x) :: parts, ps, cells, cells', cs, hp, hc, hf => by
    simp only [partsIn] at hp
    cases h1 : place i with
    | none => simp [h1] at hp
    | some q =>
      obtain ⟨off, n⟩ := q
      cases h2 : opd x with
      | none => simp [h1, h2] at hp
      | some ax =>
        simp only [h1, h2] at hp
        cases h3 : partsIn place parts with
        | none => simp [h3] at hp
        | some m =>
          simp only [h3, Option.some.injEq] at hp
          subst hp
          simp only [evps, fillIn] at hf
          have hv := opd_spec hg ht h2
          cases hcond : ((ev tm ax).solid && (Nat.beq (ev tm ax).cells.length n && Nat.ble (Nat.add off n) cells.length)) with
          | false => rw [hcond] at hf; cases hf
          | true =>
            rw [hcond] at hf
            simp only [cond_true] at hf
            simp only [Bool.and_eq_true] at hcond
            obtain ⟨c1, c2, c3⟩ := hcond
            have c2 := Nat.eq_of_beq_eq_true c2
            have c3 : off + n ≤ cells.length := Nat.le_of_ble_eq_true c3
            have hvc := solid_cells c1 hv
            have hlen : (a.eval x).cells.size = n := by have := hvc.length; rw [c2] at this; simpa using this
            have hcl : cs.size = cells.length := by have := hc.length; simpa using this
            have hnew : VRs E (cells.take off ++ ((ev tm ax).cells ++ cells.drop (off + n))) ((a.eval x).cells.zipIdx.foldl (fun cs (c, j) => cs.setIfInBounds (off + j) c) cs).toList := by
              have hfold : ((a.eval x).cells.zipIdx.foldl (fun cs (c, j) => cs.setIfInBounds (off + j) c) cs).toList = cs.toList.take off ++ ((a.eval x).cells.toList ++ cs.toList.drop (off + n)) := by
                have := foldl_set off (a.eval x).cells.toList 0 cs (by simp [hlen]; omega)
                simp only [Nat.add_zero, Array.length_toList, hlen] at this
                rw [← this, ← Array.foldl_toList]
                simp [Array.toList_zipIdx]
              rw [hfold]
              exact (hc.take off).append (hvc.append (hc.drop _))
            obtain ⟨cs', g1, g2⟩ := fill_spec hg ht hpl parts m _ cells' _ h3 hnew hf
            refine ⟨cs', ?_, g2⟩
            simp only [List.map_cons, Instr.fill, hpl i _ h1]
            rw [if_neg (by simp [hlen, hcl]; omega)]
            exact g1

theorem places_spec (P : Program) : ∀ (fs : List Field) (ps : List (Nat × Nat)), placesIn P fs = some ps → ∀ w, (fs.mapM fun f => do pure (f.offset, ← sizeOf f.type) : Sem (List (Nat × Nat))).run P w = .ok ps w
  | [], ps, h, w => by simp only [placesIn, Option.some.injEq] at h; subst h; rfl
  | f :: fs, ps, h, w => by
    simp only [placesIn] at h
    cases h1 : sizeIn P f.type with
    | none => simp [h1] at h
    | some n =>
      cases h2 : placesIn P fs with
      | none => simp [h1, h2] at h
      | some m =>
        simp only [h1, h2, Option.some.injEq] at h
        subst h
        have ih := places_spec P fs m h2 w
        simp only [List.mapM_cons, Sem.run_bind, run_sizeOf h1, Result.andThen_ok, Sem.run_pure, ih]

/-- a slice's elements, each one thing over and over. -/
theorem repeatIn_spec {E : Env} {l : List AV} {vs : List Value} (hv : VRs E l vs) : ∀ n, VRs E (repeatIn l n) (List.replicate n vs).flatten
  | 0 => VRs.nil
  | n + 1 => by
    rw [List.replicate_succ, List.flatten_cons]
    exact hv.append (repeatIn_spec hv n)
theorem zeros_eq (z : Array Value) : ∀ n, ((Array.range (n * z.size)).map (z[· % z.size]!)).toList = (List.replicate n z.toList).flatten
  | 0 => by simp
  | n + 1 => by
    rw [List.replicate_succ', List.flatten_concat, ← zeros_eq z n]
    apply List.ext_getElem?
    intro i
    simp only [Array.toList_map, Array.toList_range, List.getElem?_map]
    rw [List.getElem?_append]
    simp only [List.length_map, List.length_range, List.getElem?_map]
    by_cases h1 : i < n * z.size
    · rw [if_pos h1, List.getElem?_range (by rw [Nat.add_mul]; omega), List.getElem?_range h1]
    · rw [if_neg h1]
      by_cases h2 : i < (n + 1) * z.size
      · rw [List.getElem?_range h2]
        rw [Nat.add_mul] at h2
        have h3 : i - n * z.size < z.size := by omega
        simp only [Option.map_some, Array.getElem?_toList, Array.getElem?_eq_getElem h3]
        have h4 : i % z.size = i - n * z.size := by
          have : i = (i - n * z.size) + z.size * n := by rw [Nat.mul_comm z.size n]; omega
          rw [this, Nat.add_mul_mod_self_left, Nat.mod_eq_of_lt h3]
          rw [Nat.mul_comm z.size n]; omega
        rw [h4, getElem!_pos z _ h3]
      · rw [List.getElem?_eq_none (by simp; omega), Array.getElem?_toList, Array.getElem?_eq_none (by rw [Nat.add_mul] at h2; omega)]
        rfl
theorem zeroCells_eq (z : Array Value) (n : Nat) : (Builtin.zeroCells z n).toList = (List.replicate n z.toList).flatten := zeros_eq z n
theorem length_repeat (l : List AV) : ∀ n, (repeatIn l n).length = n * l.length
  | 0 => by simp [repeatIn]
  | n + 1 => by simp only [repeatIn, List.length_append, length_repeat l n, Nat.add_mul]; omega

section ops
variable {P : Program} {E : Env} {h : AH} {w : World} {hyp : Hyp} {tm : Tr AV} {a : Act} {o : Oper}
theorem HRel.globs (hr : HRel E h w) : Glob E := hr.glob

theorem s_mv (hr : HRel E h w) (ht : TRel E tm a.tmps) {x : Operand} {ax : AX} (hx : opd x = some ax) (ho : o.op = .move x ∨ o.op = .assign x) : OSound P E h w (xop P hyp tm h (.mv ax)) ((execOp a.eval o).run P w) := by
  refine OSound.val hr (opd_spec hr.globs ht hx) ?_
  rcases ho with ho | ho <;> simp [execOp, ho]

theorem s_pk (hr : HRel E h w) (ht : TRel E tm a.tmps) {c x y : Operand} {ac ax ay : AX} (hc : opd c = some ac) (hx : opd x = some ax) (hy : opd y = some ay) (ho : o.op = .pick c x y) :
    OSound P E h w (xop P hyp tm h (.pk ac ax ay)) ((execOp a.eval o).run P w) := by
  have h1 := opd_spec hr.globs ht hc
  simp only [xop]
  cases hv : ev tm ac with
  | bool t =>
    rw [hv] at h1
    obtain h1 : a.eval c = .bool t := h1
    refine OSound.val hr (y := if t then a.eval x else a.eval y) ?_ ?_
    · cases t
      · exact opd_spec hr.globs ht hy
      · exact opd_spec hr.globs ht hx
    · simp [execOp, ho, h1, asBool]
  | _ => trivial

theorem s_al (hr : HRel E h w) {e : TypeId} {z : AV} (hz : zeroIn P e = some z) (hone : ones z.cells = true) (ho : o.op = .alloc e) : OSound P E h w (xop P hyp tm h (.al z.cells)) ((execOp a.eval o).run P w) := by
  obtain ⟨v, hv, hvr⟩ := run_zeroValue hz
  obtain ⟨g1, g2⟩ := hr.newCells e z.cells v.cells ((hvr E).cells_ones hone)
  refine OSound.valE g1 g2 (y := .pointer (some ⟨w.heap.size, 0, none⟩)) (by exact ⟨_, Env.with_same _ _ _, by simp [Slot.at]⟩) ?_
  have : (Instr.alloc e true (.tuple #[])).run P w = .ok (.pointer (some ⟨w.heap.size, 0, none⟩)) (w.alloc (.cells v.cells e)) := by
    simp [Instr.alloc, hv, newVar, newRow]
  simp only [execOp, ho]
  exact run_v this

theorem s_bx (hr : HRel E h w) (ht : TRel E tm a.tmps) {e : TypeId} {x : Operand} {ax : AX} (hx : opd x = some ax) (ho : o.op = .box e x) : OSound P E h w (xop P hyp tm h (.bx ax)) ((execOp a.eval o).run P w) := by
  have hv := opd_spec hr.globs ht hx
  simp only [xop]
  cases hone : ones (ev tm ax).cells with
  | false => trivial
  | true =>
    simp only [cond_true]
    obtain ⟨g1, g2⟩ := hr.newCells e (ev tm ax).cells (a.eval x).cells (hv.cells_ones hone)
    refine OSound.valE g1 g2 (y := .pointer (some ⟨w.heap.size, 0, none⟩)) (by exact ⟨_, Env.with_same _ _ _, by simp [Slot.at]⟩) ?_
    simp only [execOp, ho]
    exact run_v (by simp [Instr.box, newVar, newRow])

theorem s_bdS (hr : HRel E h w) (ht : TRel E tm a.tmps) {t : TypeId} {z : AV} (hz : zeroIn P t = some z) (hone : ones z.cells = true) {fs : Array Field} (hu : P.underlying t = some (.struct fs)) {pl : List (Nat × Nat)} (hpl : placesIn P fs.toList = some pl)
    {parts : Array (Nat × Operand)} {ps : List (Nat × Nat × AX)} (hps : partsIn (fun i => pl[i]?) parts.toList = some ps) (ho : o.op = .build t parts) :
    OSound P E h w (xop P hyp tm h (.bd z.cells ps)) ((execOp a.eval o).run P w) := by
  obtain ⟨v, hv, hvr⟩ := run_zeroValue hz
  simp only [xop]
  cases hf : fillIn z.cells (evps tm ps) with
  | none => trivial
  | some cs =>
    obtain ⟨cs', g1, g2⟩ := fill_spec hr.globs ht (place' := fun i => pl.toArray[i]?) (fun i p hp => by simpa using hp) parts.toList ps z.cells cs v.cells hps ((hvr E).cells_ones hone) hf
    refine OSound.val hr (y := .agg cs') (by exact ⟨cs', rfl, g2⟩) ?_
    simp only [execOp, ho]
    refine run_v ?_
    have hm : (fs.mapM fun f => do pure (f.offset, ← sizeOf f.type) : Sem (Array (Nat × Nat))).run P w = .ok pl.toArray w := by
      rw [Array.mapM_eq_mapM_toList]
      simp only [Sem.run_map, places_spec P _ _ hpl w, Result.andThen_ok]
    have hparts : (parts.map fun (i, x) => (i, a.eval x)).toList = parts.toList.map fun p => (p.1, a.eval p.2) := by simp
    simp only [Instr.build, Sem.run_bind, hv, Result.andThen_ok, run_underlying hu, hm, hparts, g1, Sem.run_pure]

theorem s_bdA (hr : HRel E h w) (ht : TRel E tm a.tmps) {t : TypeId} {z : AV} (hz : zeroIn P t = some z) (hone : ones z.cells = true) {m : Nat} {e : TypeId} (hu : P.underlying t = some (.array m e)) {n : Nat} (hn : sizeIn P e = some n)
    {parts : Array (Nat × Operand)} {ps : List (Nat × Nat × AX)} (hps : partsIn (fun i => some (Nat.mul i n, n)) parts.toList = some ps) (ho : o.op = .build t parts) :
    OSound P E h w (xop P hyp tm h (.bd z.cells ps)) ((execOp a.eval o).run P w) := by
  obtain ⟨v, hv, hvr⟩ := run_zeroValue hz
  simp only [xop]
  cases hf : fillIn z.cells (evps tm ps) with
  | none => trivial
  | some cs =>
    obtain ⟨cs', g1, g2⟩ := fill_spec hr.globs ht (place' := fun i => some (i * n, n)) (fun i p hp => hp) parts.toList ps z.cells cs v.cells hps ((hvr E).cells_ones hone) hf
    refine OSound.val hr (y := .agg cs') (by exact ⟨cs', rfl, g2⟩) ?_
    simp only [execOp, ho]
    refine run_v ?_
    have hparts : (parts.map fun (i, x) => (i, a.eval x)).toList = parts.toList.map fun p => (p.1, a.eval p.2) := by simp
    simp only [Instr.build, Sem.run_bind, hv, Result.andThen_ok, run_underlying hu, run_sizeOf hn, hparts, g1, Sem.run_pure]

theorem s_bs (hr : HRel E h w) (ht : TRel E tm a.tmps) {t e : TypeId} (hu : P.underlying t = some (.slice e)) {z len : Nat} (hz : sizeIn P e = some z) {v0 : AV} (hv0 : zeroIn P e = some v0) (hone : ones v0.cells = true) (hl0 : v0.cells.length = z) (hlen : len * z ≤ 16777216)
    {parts : Array (Nat × Operand)} {ps : List (Nat × Nat × AX)} (hps : partsIn (fun i => some (Nat.mul i z, z)) parts.toList = some ps) (ho : o.op = .buildSlice t len parts) :
    OSound P E h w (xop P hyp tm h (.bs z len v0.cells ps)) ((execOp a.eval o).run P w) := by
  obtain ⟨v, hv, hvr⟩ := run_zeroValue hv0
  have hvc := (hvr E).cells_ones hone
  have hvs : v.cells.size = z := by have := hvc.length; rw [hl0] at this; simpa using this
  simp only [xop]
  cases hf : fillIn (repeatIn v0.cells len) (evps tm ps) with
  | none => trivial
  | some cs =>
    simp only
    cases hc : ones cs with
    | false => trivial
    | true =>
      simp only [cond_true]
      -- what is filled
      have key : ∀ zero : Array Value, ((Array.range (len * z)).map (zero[· % zero.size]!)).toList = (List.replicate len v.cells.toList).flatten →
          ∃ cs', Instr.fill (fun i => some (i * z, z)) ((Array.range (len * z)).map (zero[· % zero.size]!)) (parts.toList.map fun p => (p.1, a.eval p.2)) = some cs' ∧ VRs E cs cs'.toList := by
        intro zero hzero
        exact fill_spec hr.globs ht (fun i p hp => hp) parts.toList ps _ cs _ hps (by rw [hzero]; exact repeatIn_spec hvc len) hf
      have hparts : (parts.map fun (i, x) => (i, a.eval x)).toList = parts.toList.map fun p => (p.1, a.eval p.2) := by simp
      have hrun : ∃ cs', VRs E cs cs'.toList ∧ cs'.size = len * z ∧ (Instr.buildSlice t len (parts.map fun (i, x) => (i, a.eval x))).run P w = .ok (.slice (some ⟨w.heap.size, 0, none⟩) len len) (w.alloc (.cells cs' e)) := by
        have hlim : ¬ (2 ^ 24 < len * z) := by omega
        by_cases h0 : len * z = 0
        · obtain ⟨cs', g1, g2⟩ := key #[] (by
            rw [h0]
            rcases Nat.mul_eq_zero.1 h0 with h1 | h1
            · subst h1; simp
            · have : v.cells.toList = [] := List.length_eq_zero_iff.1 (by rw [Array.length_toList, hvs, h1])
              rw [this]; simp)
          rw [h0] at g1
          refine ⟨cs', g2, ?_, ?_⟩
          · have h1 : (Array.map (fun x => (#[] : Array Value)[x % (#[] : Array Value).size]!) (Array.range 0)).size = 0 := by simp
            have := fill_size _ _ _ _ g1
            rw [h0, this, h1]
          · simp only [Instr.buildSlice, Sem.run_bind, run_underlying hu, Result.andThen_ok, run_sizeOf hz, gt_iff_lt, Nat.not_lt_zero, if_false, Sem.run_pure, h0, if_true, hparts, g1, newRow, run_newObj]
            rfl
        · obtain ⟨cs', g1, g2⟩ := key v.cells (by rw [← hvs]; exact zeros_eq v.cells len)
          refine ⟨cs', g2, ?_, ?_⟩
          · have := fill_size _ _ _ _ g1
            rw [this]; simp
          · simp only [Instr.buildSlice, Sem.run_bind, run_underlying hu, Result.andThen_ok, run_sizeOf hz, gt_iff_lt, hlim, if_false, Sem.run_pure, h0, hv, hparts, g1, newRow, run_newObj]
            rfl
      obtain ⟨cs', g1, gs, g2⟩ := hrun
      obtain ⟨k1, k2⟩ := hr.newCells e cs cs' g1
      refine OSound.valE k1 k2 (y := .slice (some ⟨w.heap.size, 0, none⟩) len len) ?_ ?_
      · exact ⟨_, len, rfl, Nat.le_refl _, fun _ => rfl, Nat.le_refl _, rfl, fun _ => ⟨_, Env.with_same _ _ _, by simp [Slot.at], by simp [gs]⟩⟩
      · simp only [execOp, ho]
        exact run_v g2
where
  fill_size (place : Nat → Option (Nat × Nat)) : ∀ (l : List (Nat × Value)) (cs cs' : Array Value), Instr.fill place cs l = some cs' → cs'.size = cs.size
    | [], cs, cs', h => by simp only [Instr.fill, Option.some.injEq] at h; rw [h]
    | (i, v) :: l, cs, cs', h => by
      simp only [Instr.fill] at h
      split at h
      · cases h
      · split at h
        · cases h
        · have := fill_size place l _ _ h
          rw [this]
          have foldsz : ∀ (ps : List (Value × Nat)) (off : Nat) (cs : Array Value), (ps.foldl (fun (cs : Array Value) (p : Value × Nat) => cs.setIfInBounds (off + p.2) p.1) cs).size = cs.size := by
            intro ps
            induction ps with
            | nil => intro _ _; rfl
            | cons p ps ih => intro off cs; rw [List.foldl_cons, ih]; simp
          rw [← Array.foldl_toList]
          exact foldsz _ _ _

theorem s_ld (hr : HRel E h w) (ht : TRel E tm a.tmps) {t : TypeId} {n : Option Nat} (hn : aggIn P t = some n) {x : Operand} {ax : AX} (hx : opd x = some ax) (ho : o.op = .load t x) :
    OSound P E h w (xop P hyp tm h (.ld n ax)) ((execOp a.eval o).run P w) := by
  have h1 := opd_spec hr.globs ht hx
  simp only [xop]
  cases hv : ev tm ax with
  | ptr b off =>
    rw [hv] at h1
    obtain ⟨s, hs, h2⟩ := h1
    cases hl : loadOf n h b off with
    | none => simp only [hl, orV]; trivial
    | some v =>
      simp only [hl, orV]
      obtain ⟨y, g1, g2⟩ := load_spec hr hn hl hs
      refine OSound.val hr g2 ?_
      simp only [execOp, ho]
      refine run_v ?_
      simp only [Instr.loadAt, h2, Instr.sureAddr, Sem.run_bind, Sem.run_pure, Result.andThen_ok, g1]
  | _ => trivial

theorem s_st (hr : HRel E h w) (ht : TRel E tm a.tmps) {t : TypeId} {n : Nat} (hn : sizeIn P t = some n) {x y : Operand} {ax ay : AX} (hx : opd x = some ax) (hy : opd y = some ay) (ho : o.op = .store t x y) :
    OSound P E h w (xop P hyp tm h (.st n ax ay)) ((execOp a.eval o).run P w) := by
  have h1 := opd_spec hr.globs ht hx
  have h3 := opd_spec hr.globs ht hy
  simp only [xop]
  cases hv : ev tm ax with
  | ptr b off =>
    rw [hv] at h1
    obtain ⟨s, hs, h2⟩ := h1
    simp only
    cases hl : Nat.beq (ev tm ay).cells.length n with
    | false => trivial
    | true =>
      simp only [cond_true]
      cases hw : h.wrs b off (ev tm ay).cells with
      | none => simp only [orH]; trivial
      | some h' =>
        simp only [orH]
        obtain ⟨w', g1, g2, g3⟩ := store_spec hr hn h3 hl hw hs
        refine OSound.skip ?_ g2 g3
        simp only [execOp, ho]
        refine run_u ?_
        simp only [Instr.storeAt, h2, Instr.sureAddr, Sem.run_bind, Sem.run_pure, Result.andThen_ok, g1]
  | _ => trivial

theorem s_nc (hr : HRel E h w) (ht : TRel E tm a.tmps) {x : Operand} {ax : AX} (hx : opd x = some ax) (ho : o.op = .nilCheck x) : OSound P E h w (xop P hyp tm h (.nc ax)) ((execOp a.eval o).run P w) := by
  have h1 := opd_spec hr.globs ht hx
  simp only [xop]
  cases hv : ev tm ax with
  | ptr b off =>
    rw [hv] at h1
    have h1' := h1
    obtain ⟨s, hs, h2⟩ := h1
    refine OSound.val hr h1' ?_
    simp only [execOp, ho, h2, Sem.run_pure]
  | iface t v =>
    rw [hv] at h1
    have h1' := h1
    obtain ⟨y, h2, _⟩ := h1
    refine OSound.val hr h1' ?_
    simp only [execOp, ho, h2, Sem.run_pure]
  | func fn xs ys =>
    rw [hv] at h1
    have h1' := h1
    obtain ⟨b, c, h2, _⟩ := h1
    cases fn with
    | func f =>
      refine OSound.val hr h1' ?_
      simp only [execOp, ho, h2, Sem.run_pure]
    | _ => trivial
  | _ => trivial

end ops
end Go.Am
