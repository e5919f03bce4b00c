/- New rows and maps under kept names. -/
import Derived.Test.YtbakjgolhekmgaaGreatDoorAmDrawA
namespace Go.Am

/-- nothing bears this name yet. -/
structure NR (E : Env) (N : Nat) : Prop where
  glob : Glob E
  no : E.σ N = none
structure NOk (E : Env) (N : Nat) (w : World) (o : AO) (x : Slot) (w' : World) : Prop where
  blk : w.heap.size ≤ x.blk
  keep : ∀ k, k < w.heap.size → w'.heap[k]? = w.heap[k]?
  size : w.heap.size ≤ w'.heap.size
  os : w'.os = w.os
  tape : w'.tape = w.tape
  output : w'.output = w.output
  rel : ORel (E.with N x) o x w'
  ro : o.ro = false
  al : o.alone
def ASnd (E : Env) (N : Nat) (w : World) (v : AV) (o : AO) (r : Result Next) : Prop := ∃ y w' x, r = .ok (.value y) w' ∧ NOk E N w o x w' ∧ VR (E.with N x) v y
def ASound (P : Program) (E : Env) (N : Nat) (w : World) (X : OR) (r : Result Next) : Prop :=
  match X with
  | .v v h' => ∃ o, h'.t.get N = some o ∧ ASnd E N w v o r
  | _ => True
section
variable {P : Program} {E : Env} {N : Nat} {w : World} {hyp : Hyp} {tm : Tr AV} {a : Act} {o : Oper}
theorem NOk.drew {ob : AO} {x : Slot} {w' : World} (g : NOk E N w.drew ob x w') : NOk E N w ob x w' := ⟨g.blk, g.keep, g.size, g.os, g.tape, g.output, g.rel, g.ro, g.al⟩
theorem ASound.of {v : AV} {ob : AO} {x : Slot} {w' : World} {y : Value} {r : Result Next} (g : NOk E N w ob x w') (hv : VR (E.with N x) v y) (e : r = .ok (.value y) w') : ASound P E N w (.v v (AH.mk' ⟨.leaf, .leaf, N⟩ ob)) r :=
  ⟨ob, (by show (Tr.set (.leaf : Tr AO) N ob).get N = some ob; exact Tr.get_set_same _ _ _), y, w', x, e, g, hv⟩
theorem NR.mkNew (_hr : NR E N) (ob : AO) (obj : Obj) (room : Nat) (hsh : ob.alone) (hro : ob.ro = false)
    (ho : ∀ w' : World, w'.heap[w.heap.size]? = some obj → ORel (E.with N ⟨w.heap.size, 0, room⟩) ob ⟨w.heap.size, 0, room⟩ w') : NOk E N w ob ⟨w.heap.size, 0, room⟩ (w.alloc obj) := by
  refine ⟨Nat.le_refl _, fun k hk => ?_, by show w.heap.size ≤ (w.heap.push obj).size; simp, rfl, rfl, rfl, ho _ ?_, hro, hsh⟩
  · simp only [World.alloc, Array.getElem?_push]
    rw [if_neg (by omega)]
  · show (w.heap.push obj)[w.heap.size]? = some obj; simp
theorem NR.newRow (hr : NR E N) (el : TypeId) (l : List AV) (vs more : List Value) (pl : Bool) (hv : VRs E l vs) (fz : Nat × Nat)
    (hfz : ∀ i, i < vs.length + more.length → ¬ (fz.1 ≤ i ∧ i < fz.2)) (hpl : pl = true → fz.2 = 0) :
    NOk E N w (.cells (Tr.ofList l) l.length false 0 0 pl false) ⟨w.heap.size, 0, vs.length + more.length⟩ (w.alloc (.cells (vs ++ more).toArray el fz)) := by
  have hle := Env.le_with (⟨w.heap.size, 0, vs.length + more.length⟩ : Slot) hr.no
  refine hr.mkNew _ _ _ (fun _ _ _ _ _ _ h => by cases h) rfl fun w' hw' => ?_
  refine ⟨_, el, fz, hw', by simp, by rw [← hv.length]; simp, fun _ i hi => by simpa using hfz i hi, hpl, fun i v hi => ?_⟩
  rw [Tr.get_ofList] at hi
  obtain ⟨y, hy, hyr⟩ := hv.get i v hi
  have hlt : i < vs.length := by
    rcases Nat.lt_or_ge i vs.length with h1 | h1
    · exact h1
    · rw [List.getElem?_eq_none h1] at hy; cases hy
  refine ⟨by rw [← hv.length]; exact hlt, y, ?_, VR.mono hle v y hyr⟩
  simp only [Nat.zero_add, List.getElem?_toArray]
  rw [List.getElem?_append_left hlt]; exact hy
theorem NR.newCells (hr : NR E N) (el : TypeId) (l : List AV) (cs : Array Value) (hv : VRs E l cs.toList) :
    NOk E N w (.cells (Tr.ofList l) l.length false 0 0 true false) ⟨w.heap.size, 0, cs.size⟩ (w.alloc (.cells cs el)) := by
  have := hr.newRow (w := w) el l cs.toList [] true hv (0, 0) (fun i _ => by simp) (fun _ => rfl)
  simpa using this

theorem a_al (hr : NR E N) {e : TypeId} {z : AV} (hz : zeroIn P e = some z) (hone : ones z.cells = true) (ho : o.op = .alloc e) : ASound P E N w (xop P hyp tm ⟨.leaf, .leaf, N⟩ (.al z.cells)) ((execOp a.eval o).run P w) := by
  obtain ⟨v, hv, hvr⟩ := run_zeroValue hz
  have g0 := hr.newCells (w := w) e z.cells v.cells ((hvr E).cells_ones hone)
  refine ASound.of g0 (y := .pointer (some ⟨w.heap.size, 0, none⟩)) (by exact ⟨_, Env.with_same _ _ _, by simp [Slot.at]⟩) ?_
  have : (Instr.alloc e true (.tuple #[])).run P w = .ok (.pointer (some ⟨w.heap.size, 0, none⟩)) (w.alloc (.cells v.cells e)) := by
    simp [Instr.alloc, hv, newVar, newRow]
  simp only [execOp, ho]
  exact run_v this

theorem a_bx (hr : NR E N) (ht : TRel E tm a.tmps) {e : TypeId} {x : Operand} {ax : AX} (hx : opd x = some ax) (ho : o.op = .box e x) : ASound P E N w (xop P hyp tm ⟨.leaf, .leaf, N⟩ (.bx ax)) ((execOp a.eval o).run P w) := by
  have hv := opd_spec hr.glob ht hx
  simp only [xop]
  cases hone : ones (ev tm ax).cells with
  | false => trivial
  | true =>
    simp only [cond_true]
    have g0 := hr.newCells (w := w) e (ev tm ax).cells (a.eval x).cells (hv.cells_ones hone)
    refine ASound.of g0 (y := .pointer (some ⟨w.heap.size, 0, none⟩)) (by exact ⟨_, Env.with_same _ _ _, by simp [Slot.at]⟩) ?_
    simp only [execOp, ho]
    exact run_v (by simp [Instr.box, newVar, newRow])

theorem a_bs (hr : NR E N) (ht : TRel E tm a.tmps) {t e : TypeId} (hu : P.underlying t = some (.slice e)) {z len : Nat} (hz : sizeIn P e = some z) {v0 : AV} (hv0 : zeroIn P e = some v0) (hone : ones v0.cells = true) (hl0 : v0.cells.length = z) (hlen : len * z ≤ 16777216)
    {parts : Array (Nat × Operand)} {ps : List (Nat × Nat × AX)} (hps : partsIn (fun i => some (Nat.mul i z, z)) parts.toList = some ps) (ho : o.op = .buildSlice t len parts) :
    ASound P E N w (xop P hyp tm ⟨.leaf, .leaf, N⟩ (.bs z len v0.cells ps)) ((execOp a.eval o).run P w) := by
  obtain ⟨v, hv, hvr⟩ := run_zeroValue hv0
  have hvc := (hvr E).cells_ones hone
  have hvs : v.cells.size = z := by have := hvc.length; rw [hl0] at this; simpa using this
  simp only [xop]
  cases hf : fillIn (repeatIn v0.cells len) (evps tm ps) with
  | none => trivial
  | some cs =>
    simp only
    cases hc : ones cs with
    | false => trivial
    | true =>
      simp only [cond_true]
      -- what is filled
      have key : ∀ zero : Array Value, ((Array.range (len * z)).map (zero[· % zero.size]!)).toList = (List.replicate len v.cells.toList).flatten →
          ∃ cs', Instr.fill (fun i => some (i * z, z)) ((Array.range (len * z)).map (zero[· % zero.size]!)) (parts.toList.map fun p => (p.1, a.eval p.2)) = some cs' ∧ VRs E cs cs'.toList := by
        intro zero hzero
        exact fill_spec hr.glob ht (fun i p hp => hp) parts.toList ps _ cs _ hps (by rw [hzero]; exact repeatIn_spec hvc len) hf
      have hparts : (parts.map fun (i, x) => (i, a.eval x)).toList = parts.toList.map fun p => (p.1, a.eval p.2) := by simp
      have hrun : ∃ cs', VRs E cs cs'.toList ∧ cs'.size = len * z ∧ (Instr.buildSlice t len (parts.map fun (i, x) => (i, a.eval x))).run P w = .ok (.slice (some ⟨w.heap.size, 0, none⟩) len len) (w.alloc (.cells cs' e)) := by
        have hlim : ¬ (2 ^ 24 < len * z) := by omega
        by_cases h0 : len * z = 0
        · obtain ⟨cs', g1, g2⟩ := key #[] (by
            rw [h0]
            rcases Nat.mul_eq_zero.1 h0 with h1 | h1
            · subst h1; simp
            · have : v.cells.toList = [] := List.length_eq_zero_iff.1 (by rw [Array.length_toList, hvs, h1])
              rw [this]; simp)
          rw [h0] at g1
          refine ⟨cs', g2, ?_, ?_⟩
          · have h1 : (Array.map (fun x => (#[] : Array Value)[x % (#[] : Array Value).size]!) (Array.range 0)).size = 0 := by simp
            have := fill_size2 _ _ _ _ g1
            rw [h0, this, h1]
          · simp only [Instr.buildSlice, Sem.run_bind, run_underlying hu, Result.andThen_ok, run_sizeOf hz, gt_iff_lt, Nat.not_lt_zero, if_false, Sem.run_pure, h0, if_true, hparts, g1, newRow, run_newObj]
            rfl
        · obtain ⟨cs', g1, g2⟩ := key v.cells (by rw [← hvs]; exact zeros_eq v.cells len)
          refine ⟨cs', g2, ?_, ?_⟩
          · have := fill_size2 _ _ _ _ g1
            rw [this]; simp
          · simp only [Instr.buildSlice, Sem.run_bind, run_underlying hu, Result.andThen_ok, run_sizeOf hz, gt_iff_lt, hlim, if_false, Sem.run_pure, h0, hv, hparts, g1, newRow, run_newObj]
            rfl
      obtain ⟨cs', g1, gs, g2⟩ := hrun
      have g0 := hr.newCells (w := w) e cs cs' g1
      refine ASound.of g0 (y := .slice (some ⟨w.heap.size, 0, none⟩) len len) ?_ ?_
      · exact ⟨_, len, rfl, Nat.le_refl _, fun _ => rfl, Nat.le_refl _, rfl, fun _ => ⟨_, Env.with_same _ _ _, by simp [Slot.at], by simp [gs]⟩⟩
      · simp only [execOp, ho]
        exact run_v g2
where
  fill_size2 (place : Nat → Option (Nat × Nat)) : ∀ (l : List (Nat × Value)) (cs cs' : Array Value), Instr.fill place cs l = some cs' → cs'.size = cs.size
    | [], cs, cs', h => by simp only [Instr.fill, Option.some.injEq] at h; rw [h]
    | (i, v) :: l, cs, cs', h => by
      simp only [Instr.fill] at h
      split at h
      · cases h
      · split at h
        · cases h
        · have := fill_size2 place l _ _ h
          rw [this]
          have foldsz : ∀ (ps : List (Value × Nat)) (off : Nat) (cs : Array Value), (ps.foldl (fun (cs : Array Value) (p : Value × Nat) => cs.setIfInBounds (off + p.2) p.1) cs).size = cs.size := by
            intro ps
            induction ps with
            | nil => intro _ _; rfl
            | cons p ps ih => intro off cs; rw [List.foldl_cons, ih]; simp
          rw [← Array.foldl_toList]
          exact foldsz _ _ _

theorem a_ms (hr : NR E N) (ht : TRel E tm a.tmps) {t e : TypeId} (hu : P.underlying t = some (.slice e)) {z : Nat} (hz : sizeIn P e = some z) {bw : Nat} (hbw : bytesIn P e = some bw) (hbl : bw ≤ 10000) {v0 : AV} (hv0 : zeroIn P e = some v0) (hone : ones v0.cells = true) (hl0 : v0.cells.length = z)
    {l c : Operand} {al ac : AX} (hl : opd l = some al) (hc : opd c = some ac) (ho : o.op = .makeSlice t l c) :
    ASound P E N w (xop P hyp tm ⟨.leaf, .leaf, N⟩ (.ms z v0.cells al ac)) ((execOp a.eval o).run P w) := by
  have h1 := opd_spec hr.glob ht hl
  have h2 := opd_spec hr.glob ht hc
  obtain ⟨v, hv, hvr⟩ := run_zeroValue hv0
  have hvc := (hvr E).cells_ones hone
  have hvs : v.cells.size = z := by have := hvc.length; rw [hl0] at this; simpa using this
  simp only [xop]
  cases hn : natOf (ev tm al) with
  | none => trivial
  | some n =>
    cases hm : natOf (ev tm ac) with
    | none => trivial
    | some m =>
      obtain ⟨k1, e1⟩ := natOf_spec hn h1
      obtain ⟨k2, e2⟩ := natOf_spec hm h2
      simp only
      cases hb : (Nat.ble n m && Nat.ble m most) with
      | false => trivial
      | true =>
        simp only [cond_true]
        rw [Bool.and_eq_true] at hb
        have b1 : n ≤ m := Nat.le_of_ble_eq_true hb.1
        have b2 : m ≤ 1000000 := Nat.le_of_ble_eq_true hb.2
        obtain ⟨i, hi, hib⟩ := bytesIn_info hbw
        have hcells : ∃ cs : Array Value, VRs E (repeatIn v0.cells m) cs.toList ∧ cs.size = m * z ∧ (Instr.makeSlice t (.int k1 n) (.int k2 m)).run P w = .ok (.slice (some ⟨w.heap.size, 0, none⟩) n m) (w.alloc (.cells cs e)) := by
          have hwn : IntKind.i64.wrap (n : Int) = n := by rw [← wr_eq]; simp only [wr, top]; rw [show Nat.ble (Nat.succ n) 9223372036854775808 = true from Nat.ble_eq_true_of_le (by omega)]; rfl
          have hwm : IntKind.i64.wrap (m : Int) = m := by rw [← wr_eq]; simp only [wr, top]; rw [show Nat.ble (Nat.succ m) 9223372036854775808 = true from Nat.ble_eq_true_of_le (by omega)]; rfl
          have hmul : bw * m ≤ 10000 * 1000000 := Nat.mul_le_mul hbl b2
          have hbig : ¬ ((i.bytes : Int) * (m : Int) > 2 ^ 48) := by
            rw [hib]
            have : ((bw : Int) * (m : Int)) = ((bw * m : Nat) : Int) := by simp
            rw [this]
            omega
          have c1 : ¬ ((m : Int) < 0) := by omega
          have c2 : ¬ ((n : Int) < 0) := by omega
          have c3 : ¬ ((n : Int) > (m : Int)) := by omega
          by_cases h0 : m * z = 0
          · refine ⟨(Array.range (m * z)).map ((#[] : Array Value)[· % (#[] : Array Value).size]!), ?_, by simp, ?_⟩
            · have : (repeatIn v0.cells m) = [] := List.length_eq_zero_iff.1 (by rw [length_repeat, hl0]; exact h0)
              rw [this, h0, show ((Array.range 0).map ((#[] : Array Value)[· % (#[] : Array Value).size]!)).toList = [] by simp]; exact VRs.nil
            · simp only [Instr.makeSlice, Sem.run_bind, run_underlying hu, Result.andThen_ok, asInt, asIntOf, Sem.run_pure, run_typeInfo hi, hwn, hwm, c1, c2, c3, hbig, decide_false, Bool.or_false, Bool.false_eq_true, if_false, run_askRoom, Int.toNat_natCast, run_sizeOf hz, h0, if_true, newRow, run_newObj]
              rfl
          · refine ⟨(Array.range (m * z)).map (v.cells[· % v.cells.size]!), ?_, by simp, ?_⟩
            · rw [← hvs, zeros_eq]; exact repeatIn_spec hvc m
            · simp only [Instr.makeSlice, Sem.run_bind, run_underlying hu, Result.andThen_ok, asInt, asIntOf, Sem.run_pure, run_typeInfo hi, hwn, hwm, c1, c2, c3, hbig, decide_false, Bool.or_false, Bool.false_eq_true, if_false, run_askRoom, Int.toNat_natCast, run_sizeOf hz, h0, hv, newRow, run_newObj]
              rfl
        obtain ⟨cs, g1, g2, g3⟩ := hcells
        have g0 := hr.newCells (w := w) e _ cs g1
        refine ASound.of g0 (y := .slice (some ⟨w.heap.size, 0, none⟩) n m) ?_ ?_
        · exact ⟨_, m, rfl, Nat.le_refl _, fun _ => rfl, b1, rfl, fun _ => ⟨_, Env.with_same _ _ _, by simp [Slot.at], by simp [g2]⟩⟩
        · simp only [execOp, ho, e1, e2]
          exact run_v g3

theorem a_mm (hr : NR E N) {t : TypeId} (ho : o.op = .makeMap t none) : ASound P E N w (xop P hyp tm ⟨.leaf, .leaf, N⟩ .mm) ((execOp a.eval o).run P w) := by
  have g0 := hr.mkNew (w := w) (.map [] 0) (.map #[] 0) 0 (fun _ _ _ _ _ _ h => by cases h) rfl (fun w' hw' => ⟨rfl, #[], hw', rfl⟩)
  refine ASound.of g0 (y := .map (some w.heap.size)) (by exact ⟨_, Env.with_same _ _ _, rfl⟩) ?_
  simp only [execOp, ho]
  refine run_v ?_
  simp [Instr.makeMap]

theorem a_s2b (hr : NR E N) (ht : TRel E tm a.tmps) {s d e : TypeId} (hs : P.underlying s = some .string) (hd : P.underlying d = some (.slice e)) (he : P.underlying e = some (.int .u8)) {x : Operand} {ax : AX} (hx : opd x = some ax) (ho : o.op = .convert s d x) :
    ASound P E N w (xop P hyp tm ⟨.leaf, .leaf, N⟩ (.s2b ax)) ((execOp a.eval o).run P w) := by
  have h1 := opd_spec hr.glob ht hx
  simp only [xop]
  cases hv : ev tm ax with
  | str q n =>
    rw [hv] at h1
    obtain ⟨bs, h3, rfl, rfl⟩ := h1
    have hrun := run_bytes_of_string (P := P) w s d e bs hs hd he
    have hsz : bs.size = bs.data.toList.length := by rw [Array.length_toList]; rfl
    have hcap : bs.size ≤ grownCap w bs.size 0 e := by unfold grownCap; simp only [Question.cut]; omega
    have hrow : bytesRow bs (grownCap w bs.size 0 e) = ((bs.data.toList.map fun b => Value.int .u8 (b.toNat : Int)) ++ List.replicate (grownCap w bs.size 0 e - bs.size) (Value.int .u8 0)).toArray := by
      apply Array.ext'; simp [bytesRow]
    have hrl : (bytesRow bs (grownCap w bs.size 0 e)).size = grownCap w bs.size 0 e := by
      rw [hrow]; simp; omega
    have g0 := hr.newRow (w := w.drew) e (decN (enc bs.data.toList) bs.data.toList.length) (bs.data.toList.map fun b => Value.int .u8 (b.toNat : Int)) (List.replicate (grownCap w bs.size 0 e - bs.size) (Value.int .u8 0)) false (decN_spec _)
      ((bytesRow bs (grownCap w bs.size 0 e)).size, (bytesRow bs (grownCap w bs.size 0 e)).size + 1) (fun i hi hc => by
        rw [hrl] at hc
        simp only [List.length_map, List.length_replicate] at hi
        omega) (fun hc => by cases hc)
    rw [← hrow] at g0
    simp only
    refine ASound.of (NOk.drew g0) (y := .slice (some ⟨w.heap.size, 0, none⟩) bs.size (grownCap w bs.size 0 e)) ?_ ?_
    · refine ⟨_, grownCap w bs.size 0 e, congrArg (fun n => Value.slice (some ⟨w.heap.size, 0, none⟩) n (grownCap w bs.size 0 e)) hsz, by omega, fun hc => (by cases hc), Nat.le_refl _, rfl, fun _ => ⟨_, Env.with_same _ _ _, rfl, ?_⟩⟩
      simp only [List.length_map, List.length_replicate]
      omega
    · simp only [execOp, ho, h3]
      exact run_v hrun
  | _ => trivial


theorem aop_spec (hr : NR E N) (ht : TRel E tm a.tmps) {ax : AO'} (hc : cop P o.op = some ax) (hk : kindOf ax = .a) (hal : isAl o.op = true) : ASound P E N w (xop P hyp tm ⟨.leaf, .leaf, N⟩ ax) ((execOp a.eval o).run P w) := by
  cases hop : o.op <;> rw [hop] at hc hal <;> simp only [isAl, Bool.false_eq_true] at hal
  case alloc e =>
    simp only [cop, Option.bind_eq_bind, Option.bind_eq_some_iff, Option.pure_def] at hc
    obtain ⟨z, h1, hc⟩ := hc
    obtain ⟨h2, hc⟩ := bif_some hc rfl
    cases hc
    exact a_al hr h1 h2 hop
  case box e x =>
    simp only [cop, Option.bind_eq_bind, Option.bind_eq_some_iff, Option.pure_def, Option.some.injEq] at hc
    obtain ⟨_, h1, rfl⟩ := hc
    exact a_bx hr ht h1 hop
  case buildSlice t len parts =>
    simp only [cop, Option.bind_eq_bind, Option.pure_def] at hc
    split at hc
    · rename_i e hu
      simp only [Option.bind_eq_some_iff] at hc
      obtain ⟨z, h1, v, h2, ps, h4, hc⟩ := hc
      obtain ⟨h3, hc⟩ := bif_some hc rfl
      cases hc
      obtain ⟨h5, h6, h7⟩ := and3 h3
      exact a_bs hr ht hu h1 h2 h6 (Nat.eq_of_beq_eq_true h7) (Nat.le_of_ble_eq_true h5) h4 hop
    · cases hc
  case makeMap t m =>
    cases m with
    | none => cases hc; exact a_mm hr hop
    | some m => cases hc
  case makeSlice t l c =>
    simp only [cop, Option.bind_eq_bind, Option.pure_def] at hc
    split at hc
    · rename_i e hu
      simp only [Option.bind_eq_some_iff] at hc
      obtain ⟨z, h1, bw, h2, v, h3, _, h5, _, h6, hc⟩ := hc
      obtain ⟨h4, hc⟩ := bif_some hc rfl
      cases hc
      obtain ⟨h7, h8, h9⟩ := and3 h4
      exact a_ms hr ht hu h1 h2 (Nat.le_of_ble_eq_true h7) h3 h8 (Nat.eq_of_beq_eq_true h9) h5 h6 hop
    · cases hc
  case convert s d x =>
    simp only [cop] at hc
    split at hc
    · simp only [Option.bind_eq_bind, Option.bind_eq_some_iff, Option.pure_def, Option.some.injEq] at hc
      obtain ⟨_, h1, rfl⟩ := hc
      cases hk
    · simp only [Option.bind_eq_bind, Option.bind_eq_some_iff, Option.pure_def, Option.some.injEq] at hc
      obtain ⟨_, h1, rfl⟩ := hc
      cases hk
    · rename_i e hs hd
      split at hc
      · rename_i he
        simp only [Option.bind_eq_bind, Option.bind_eq_some_iff, Option.pure_def, Option.some.injEq] at hc
        obtain ⟨_, h1, rfl⟩ := hc
        exact a_s2b hr ht hs hd he h1 hop
      · cases hc
    · rename_i e hs hd
      split at hc
      · simp only [Option.bind_eq_bind, Option.bind_eq_some_iff, Option.pure_def, Option.some.injEq] at hc
        obtain ⟨_, h1, rfl⟩ := hc
        cases hk
      · cases hc
    · cases hc
end
end Go.Am
