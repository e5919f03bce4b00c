/- Operations, one by one (sixth part): texts and bytes, maps, lengths, least and most, calls. -/
import Derived.Test.YtbakjgolhekmgaaGreatDoorAmOpF
import Derived.Laws.IdiomStrings
namespace Go.Am

theorem str_beq (bs bs' : ByteArray) : (bs == bs') = (Nat.beq bs.data.toList.length bs'.data.toList.length && Nat.beq (enc bs.data.toList) (enc bs'.data.toList)) := by
  rw [beq_toListBytes, ByteArray.toList_eq, ByteArray.toList_eq, Bool.eq_iff_iff, beq_iff_eq, Bool.and_eq_true, Nat.beq_eq, Nat.beq_eq]
  exact ⟨fun h => by rw [h]; exact ⟨rfl, rfl⟩, fun h => enc_inj _ _ h.1 h.2⟩

theorem decN_spec {E : Env} : ∀ (l : List UInt8), VRs E (decN (enc l) l.length) (l.map fun b => Value.int .u8 (b.toNat : Int))
  | [] => VRs.nil
  | b :: l => by
    have h1 : b.toNat < 256 := b.toNat_lt
    have e1 : Nat.mod (enc (b :: l)) 256 = b.toNat := by show (b.toNat + 256 * enc l) % 256 = _; omega
    have e2 : Nat.div (enc (b :: l)) 256 = enc l := by show (b.toNat + 256 * enc l) / 256 = _; omega
    show VRs E (.int .u8 (.c (.ofNat (Nat.mod (enc (b :: l)) 256))) :: decN (Nat.div (enc (b :: l)) 256) l.length) _
    rw [e1, e2]
    exact VRs.cons rfl (decN_spec l)
theorem length_decN : ∀ (n s : Nat), (decN s n).length = n
  | 0, _ => rfl
  | n + 1, s => by simp [decN, length_decN n]

theorem bytesOf_spec {E : Env} : ∀ {l : List AV} {m : List Nat} {vs : List Value}, bytesOf l = some m → VRs E l vs → vs = m.map (fun n : Nat => Value.int .u8 (n : Int)) ∧ ∀ n ∈ m, n < 256
  | [], m, vs, h, hv => by
    simp only [bytesOf, Option.some.injEq] at h
    subst h
    exact ⟨VRs.nil_inv hv, fun n hn => by cases hn⟩
  | v :: l, m, vs, h, hv => by
    obtain ⟨y, ys, rfl, h1, h2⟩ := VRs.cons_inv hv
    simp only [bytesOf] at h
    split at h
    · rename_i n
      cases hb : bytesOf l with
      | none => rw [hb] at h; cases h
      | some m' =>
        rw [hb] at h
        simp only at h
        cases hn : Nat.blt n 256 with
        | false => rw [hn] at h; cases h
        | true =>
          rw [hn] at h
          cases h
          obtain ⟨q1, q2⟩ := bytesOf_spec hb h2
          obtain rfl : y = .int .u8 (n : Int) := h1
          subst q1
          refine ⟨rfl, fun k hk => ?_⟩
          rcases List.mem_cons.1 hk with rfl | hk
          · exact Nat.lt_of_lt_of_le (Nat.lt_of_succ_le (Nat.le_of_ble_eq_true hn)) (Nat.le_refl _)
          · exact q2 k hk
    · cases h
theorem encN_eq : ∀ (m : List Nat), (∀ n ∈ m, n < 256) → encN m = enc (m.map UInt8.ofNat)
  | [], _ => rfl
  | n :: m, h => by
    show n + 256 * encN m = (UInt8.ofNat n).toNat + 256 * enc (m.map UInt8.ofNat)
    rw [encN_eq m fun k hk => h k (List.mem_cons_of_mem _ hk)]
    have : (UInt8.ofNat n).toNat = n := by
      rw [UInt8.toNat_ofNat']
      exact Nat.mod_eq_of_lt (h n (List.mem_cons_self ..))
    rw [this]
theorem pushes_eq : ∀ (ns : List Nat) (s : ByteArray), ((ns.map (fun n : Nat => (n : Int))).foldl (fun (r : ByteArray) (n : Int) => r.push (UInt8.ofNat n.toNat)) s).data.toList = s.data.toList ++ ns.map UInt8.ofNat
  | [], s => by simp
  | n :: ns, s => by
    simp only [List.map_cons, List.foldl_cons, Int.toNat_natCast]
    rw [pushes_eq ns (s.push (UInt8.ofNat n))]
    simp [ByteArray.push]

section
variable {P : Program} {E : Env} {h : AH} {w : World} {hyp : Hyp} {tm : Tr AV} {a : Act} {o : Oper}

/-- the first cells of a slice. -/
theorem slice_cells (hr : HRel E h w) {b off len cap z : Nat} {ex : Bool} {v : Value} (hv : VR E (.slice b off len cap z ex) v) {k : Nat} {l : List AV} (hl : h.rds b off k = some l) (hk : k ≠ 0 → len ≠ 0) :
    ∃ ad c vs, v = .slice (some ad) len c ∧ vs.length = k ∧ VRs E l vs ∧ ∀ j u, vs[j]? = some u → w.cell? (ad.add j) = some u := by
  obtain ⟨ad, c, h3, h4, h5, h6, h7, h8⟩ := hv
  cases k with
  | zero =>
    simp only [AH.rds, Option.some.injEq] at hl
    subst hl
    exact ⟨ad, c, [], h3, rfl, VRs.nil, fun j u hj => by simp at hj⟩
  | succ k =>
    have hlen : len ≠ 0 := hk (by omega)
    obtain ⟨x, hx, rfl, _⟩ := h8 (by omega)
    obtain ⟨vs, g1, g2, g3⟩ := hr.vals hl hx
    exact ⟨_, c, vs, h3, g1, g2, g3⟩

theorem s_s2b (hr : HRel E h w) (ht : TRel E tm a.tmps) {s d e : TypeId} (hs : P.underlying s = some .string) (hd : P.underlying d = some (.slice e)) (he : P.underlying e = some (.int .u8)) {x : Operand} {ax : AX} (hx : opd x = some ax) (ho : o.op = .convert s d x) :
    OSound P E h w (xop P hyp tm h (.s2b ax)) ((execOp a.eval o).run P w) := by
  have h1 := opd_spec hr.globs ht hx
  simp only [xop]
  cases hv : ev tm ax with
  | str q n =>
    rw [hv] at h1
    obtain ⟨bs, h3, rfl, rfl⟩ := h1
    have hrun := run_bytes_of_string (P := P) w s d e bs hs hd he
    have hsz : bs.size = bs.data.toList.length := by rw [Array.length_toList]; rfl
    have hcap : bs.size ≤ grownCap w bs.size 0 e := by unfold grownCap; simp only [Question.cut]; omega
    have hrow : bytesRow bs (grownCap w bs.size 0 e) = ((bs.data.toList.map fun b => Value.int .u8 (b.toNat : Int)) ++ List.replicate (grownCap w bs.size 0 e - bs.size) (Value.int .u8 0)).toArray := by
      apply Array.ext'; simp [bytesRow]
    have hrl : (bytesRow bs (grownCap w bs.size 0 e)).size = grownCap w bs.size 0 e := by
      rw [hrow]; simp; omega
    obtain ⟨g1, g2⟩ := hr.drew.newRow e (decN (enc bs.data.toList) bs.data.toList.length) (bs.data.toList.map fun b => Value.int .u8 (b.toNat : Int)) (List.replicate (grownCap w bs.size 0 e - bs.size) (Value.int .u8 0)) false (decN_spec _)
      ((bytesRow bs (grownCap w bs.size 0 e)).size, (bytesRow bs (grownCap w bs.size 0 e)).size + 1) (fun i hi hc => by
        rw [hrl] at hc
        simp only [List.length_map, List.length_replicate] at hi
        omega) (fun hc => by cases hc)
    rw [← hrow] at g1 g2
    simp only
    refine OSound.valE g1 ((Ext.drew hr).trans g2) (y := .slice (some ⟨w.heap.size, 0, none⟩) bs.size (grownCap w bs.size 0 e)) ?_ ?_
    · refine ⟨_, grownCap w bs.size 0 e, congrArg (fun n => Value.slice (some ⟨w.heap.size, 0, none⟩) n (grownCap w bs.size 0 e)) hsz, by omega, fun hc => (by cases hc), Nat.le_refl _, rfl, fun _ => ⟨_, Env.with_same _ _ _, rfl, ?_⟩⟩
      simp only [List.length_map, List.length_replicate]
      omega
    · simp only [execOp, ho, h3]
      exact run_v hrun
  | _ => trivial

theorem s_b2s (hr : HRel E h w) (ht : TRel E tm a.tmps) {s d e : TypeId} (hs : P.underlying s = some (.slice e)) (hd : P.underlying d = some .string) (he : P.underlying e = some (.int .u8)) {x : Operand} {ax : AX} (hx : opd x = some ax) (ho : o.op = .convert s d x) :
    OSound P E h w (xop P hyp tm h (.b2s ax)) ((execOp a.eval o).run P w) := by
  have h1 := opd_spec hr.globs ht hx
  simp only [xop]
  cases hv : ev tm ax with
  | nilslice =>
    rw [hv] at h1
    obtain h1 : a.eval x = .slice none 0 0 := h1
    refine OSound.val hr (y := .string .empty) (v := .str 0 0) ⟨.empty, rfl, rfl, rfl⟩ ?_
    simp only [execOp, ho, h1]
    refine run_v ?_
    rw [run_convert_bytes_string w s d e _ _ _ hs he hd]
    rfl
  | slice b off len cap z ex =>
    rw [hv] at h1
    simp only
    cases hz : Nat.beq z 1 with
    | false => trivial
    | true =>
      obtain rfl := Nat.eq_of_beq_eq_true hz
      simp only [cond_true]
      cases hl : h.rds b off len with
      | none => trivial
      | some l =>
        simp only
        cases hm : bytesOf l with
        | none => trivial
        | some m =>
          simp only
          obtain ⟨ad, c, vs, g1, g2, g3, g4⟩ := slice_cells hr h1 hl (by omega)
          obtain ⟨q1, q2⟩ := bytesOf_spec hm g3
          have hload := run_loadCells P w ad len vs g2 g4
          have hvs : vs.toArray = ((m.map fun n : Nat => (n : Int)).map (Value.int .u8)).toArray := by rw [q1, List.map_map]; rfl
          rw [hvs] at hload
          have hrun := run_bytesToString (P := P) w ad len c _ hload
          have hbytes := pushes_eq m ByteArray.empty
          refine OSound.val hr (y := .string _) (v := .str _ _) ⟨_, rfl, ?_, ?_⟩ (by
            simp only [execOp, ho, g1]
            refine run_v ?_
            rw [run_convert_bytes_string w s d e _ _ _ hs he hd]
            exact hrun)
          · rw [hbytes, encN_eq m q2]; rfl
          · rw [hbytes]
            have : vs.length = m.length := by rw [q1]; simp
            simp; omega
  | _ => trivial

/- maps -/
def KindOf (st : Bool) (d : TypeDesc) : Prop := (st = false ∧ ∃ k, d = .int k) ∨ (st = true ∧ d = .string)
theorem keyOk_spec {st : Bool} {k : AV} {y : Value} (h : keyOk st k = true) (hv : VR E k y) : (st = false ∧ ∃ j n, k = .int j (.c n) ∧ y = .int j n) ∨ (st = true ∧ ∃ bs : ByteArray, k = .str (enc bs.data.toList) bs.data.toList.length ∧ y = .string bs) := by
  unfold keyOk at h
  split at h
  · rename_i j n
    left
    refine ⟨by simpa using h, j, n, rfl, hv⟩
  · rename_i s n
    right
    obtain ⟨bs, h1, rfl, rfl⟩ := hv
    exact ⟨h, bs, rfl, h1⟩
  · cases h
theorem keyEq_spec {st : Bool} {d : TypeDesc} (hd : KindOf st d) {k a : AV} {y u : Value} (hk : VR E k y) (ha : VR E a u) {r : Bool} (h : keyEq st k a = some r) : Instr.sameNow d y u = some r := by
  rcases hd with ⟨rfl, kk, rfl⟩ | ⟨rfl, rfl⟩
  · simp only [keyEq, cond_false] at h
    split at h
    · rename_i j x j' y'
      obtain rfl : y = .int j x := hk
      obtain rfl : u = .int j' y' := ha
      simp only [Instr.sameNow]
      split at h
      · rename_i hj
        rw [if_pos hj, ← h, ieq_eq]
      · cases h
    · cases h
  · simp only [keyEq, cond_true] at h
    split at h
    · obtain ⟨bs, rfl, rfl, rfl⟩ := hk
      obtain ⟨bs', rfl, rfl, rfl⟩ := ha
      simp only [Instr.sameNow]
      rw [← h, str_beq]
    · cases h
theorem keyEq_true {st : Bool} {k a : AV} {y u : Value} (hk : VR E k y) (ha : VR E a u) (h : keyEq st k a = some true) : Instr.sameBits 10000 u y = true := by
  cases st with
  | false =>
    simp only [keyEq, cond_false] at h
    split at h
    · rename_i j x j' y'
      obtain rfl : y = .int j x := hk
      obtain rfl : u = .int j' y' := ha
      split at h
      · rename_i hj
        subst hj
        simp only [Option.some.injEq, ieq_eq, beq_iff_eq] at h
        subst h
        simp [Instr.sameBits]
      · cases h
    · cases h
  | true =>
    simp only [keyEq, cond_true] at h
    split at h
    · obtain ⟨bs, rfl, rfl, rfl⟩ := hk
      obtain ⟨bs', rfl, rfl, rfl⟩ := ha
      simp only [Option.some.injEq, Bool.and_eq_true] at h
      simp only [Instr.sameBits]
      rw [str_beq, Nat.eq_of_beq_eq_true h.1, Nat.eq_of_beq_eq_true h.2, Nat.beq_refl, Nat.beq_refl]
      rfl
    · cases h
/-- where an entry is found. -/
theorem findIn_spec {st : Bool} {d : TypeDesc} (hd : KindOf st d) {k : AV} {y : Value} (hk : VR E k y) : ∀ (es : List (AV × AV × Nat)) (ms : List MapEntry) (i : Nat) (r : Option (Nat × AV)), ERel E es ms → findIn st k es i = some r →
    (r = none ∧ Instr.findNow d y ms i = some none) ∨ ∃ j v u, r = some (i + j, v) ∧ Instr.findNow d y ms i = some (some (i + j, u)) ∧ VR E v u ∧ ∃ e, ms[j]? = some e ∧ Instr.sameBits 10000 e.key y = true
  | [], ms, i, r, he, h => by
    obtain rfl : ms = [] := he
    simp only [findIn, Option.some.injEq] at h
    exact .inl ⟨h.symm, rfl⟩
  | (ka, v, n) :: es, ms, i, r, he, h => by
    obtain ⟨e, ms', rfl, g1, g2, g3, g4⟩ := he
    simp only [findIn] at h
    cases hq : keyEq st k ka with
    | none => rw [hq] at h; cases h
    | some b =>
      rw [hq] at h
      have hs := keyEq_spec hd hk g1 hq
      cases b with
      | true =>
        simp only [Option.some.injEq] at h
        refine .inr ⟨0, v, e.val, h.symm, by simp only [Instr.findNow, hs, Nat.add_zero], g2, e, rfl, keyEq_true hk g1 hq⟩
      | false =>
        simp only at h
        rcases findIn_spec hd hk es ms' (i + 1) r g4 h with ⟨q1, q2⟩ | ⟨j, v', u, q1, q2, q3, e', q4, q5⟩
        · exact .inl ⟨q1, by simp only [Instr.findNow, hs]; exact q2⟩
        · refine .inr ⟨j + 1, v', u, by rw [q1]; congr 2; omega, ?_, q3, e', by simpa using q4, q5⟩
          simp only [Instr.findNow, hs]
          rw [q2]
          congr 3; omega
theorem run_checkKey {d : TypeDesc} {kt : TypeId} {st : Bool} (hd : KindOf st d) (hu : P.underlying kt = some d) (em : Bool) (y : Value) : (Instr.checkKey em 10000 kt y).run P w = .ok () w := by
  show (Instr.checkKey em (9999 + 1) kt y).run P w = _
  generalize 9999 = n
  rcases hd with ⟨_, kk, rfl⟩ | ⟨_, rfl⟩ <;> simp only [Instr.checkKey, Sem.run_bind, run_underlying hu, Result.andThen_ok] <;> rfl
theorem run_findKey {d : TypeDesc} {kt : TypeId} (hu : P.underlying kt = some d) {y : Value} {ms : List MapEntry} {r : Option (Nat × Value)} (h : Instr.findNow d y ms 0 = some r) : (Instr.findKey kt y ms).run P w = .ok r w := by
  simp only [Instr.findKey, Sem.run_bind, run_underlying hu, Result.andThen_ok, h, Sem.run_pure]

theorem ERel.length {es : List (AV × AV × Nat)} {ms : List MapEntry} : ERel E es ms → ms.length = es.length := by
  induction es generalizing ms with
  | nil => intro h; obtain rfl : ms = [] := h; rfl
  | cons e es ih =>
    obtain ⟨k, v, n⟩ := e
    rintro ⟨e, ms', rfl, _, _, _, g⟩
    simp [ih g]
theorem map_obj (hr : HRel E h w) {b : Nat} {es : List (AV × AV × Nat)} {clock : Nat} (hg : h.t.get b = some (.map es clock)) {x : Slot} (hx : E.σ b = some x) : ∃ ms : Array MapEntry, w.heap[x.blk]? = some (.map ms clock) ∧ ERel E es ms.toList := by
  obtain ⟨y, hy, _, ms, h1, h2⟩ := hr.obj b _ hg
  rw [hx] at hy
  obtain rfl := Option.some.inj hy
  exact ⟨ms, h1, h2⟩
theorem run_getMap {r : Nat} {ms : Array MapEntry} {clock : Nat} (h : w.heap[r]? = some (.map ms clock)) : (getObj r).run P w = .ok (.map ms clock) w := by
  simp only [getObj, Sem.run, h]

theorem run_lookup {st : Bool} {t kt et : TypeId} {d : TypeDesc} (hu : P.underlying t = some (.map kt et)) (hk : P.underlying kt = some d) (hd : KindOf st d) {m y : Value} {ms : Array MapEntry}
    (hm : (m = .map none ∧ ms = #[]) ∨ ∃ r c, m = .map (some r) ∧ w.heap[r]? = some (.map ms c)) {res : Option (Nat × Value)} (hf : Instr.findNow d y ms.toList 0 = some res) {zv : Value} (hz : (zeroValue et).run P w = .ok zv w) (ok : Bool) :
    (Instr.lookup t m y ok).run P w = .ok (match res with | some (_, v) => if ok then .tuple #[v, .bool true] else v | none => if ok then .tuple #[zv, .bool false] else zv) w := by
  have hck := fun em => run_checkKey (P := P) (w := w) hd hk em y
  have hfk := run_findKey (P := P) (w := w) hk hf
  rcases hm with ⟨rfl, rfl⟩ | ⟨r, c, rfl, hm⟩
  · simp only [Instr.lookup, Sem.run_bind, run_underlying hu, Result.andThen_ok, Sem.run_pure, hck, hfk]
    cases res with
    | none => simp only [Sem.run_bind, hz, Result.andThen_ok, Sem.run_pure]
    | some p => rfl
  · simp only [Instr.lookup, Sem.run_bind, run_underlying hu, Result.andThen_ok, Sem.run_pure, run_getMap hm, hck, hfk]
    cases res with
    | none => simp only [Sem.run_bind, hz, Result.andThen_ok, Sem.run_pure]
    | some p => rfl

theorem s_lk (hr : HRel E h w) (ht : TRel E tm a.tmps) {st : Bool} {t kt et : TypeId} {d : TypeDesc} (hu : P.underlying t = some (.map kt et)) (hk : P.underlying kt = some d) (hd : KindOf st d) {zero : AV} (hz : zeroIn P et = some zero)
    {m k : Operand} {am ak : AX} (hm : opd m = some am) (hkk : opd k = some ak) {ok : Bool} (ho : o.op = .lookup t m k ok) : OSound P E h w (xop P hyp tm h (.lk st zero am ak ok)) ((execOp a.eval o).run P w) := by
  have h1 := opd_spec hr.globs ht hm
  have h2 := opd_spec hr.globs ht hkk
  obtain ⟨zv, hzr, hzv⟩ := run_zeroValue (P := P) hz
  simp only [xop]
  unfold lookIn
  cases hok : keyOk st (ev tm ak) with
  | false => trivial
  | true =>
    simp only [cond_true]
    -- the entries
    have key : ∀ (es : List (AV × AV × Nat)) (ms : Array MapEntry), ERel E es ms.toList → ((a.eval m = .map none ∧ ms = #[]) ∨ ∃ r c, a.eval m = .map (some r) ∧ w.heap[r]? = some (.map ms c)) → OSound P E h w (orV (match findIn st (ev tm ak) es 0 with
          | none => none
          | some r => match r with
            | some (_, v) => some (bif ok then .tup [v, .bool true] else v)
            | none => some (bif ok then .tup [zero, .bool false] else zero)) h) ((execOp a.eval o).run P w) := by
      intro es ms he hs
      cases hf : findIn st (ev tm ak) es 0 with
      | none => trivial
      | some r =>
        rcases findIn_spec hd h2 es ms.toList 0 r he hf with ⟨rfl, q2⟩ | ⟨j, v, u, rfl, q2, q3, _⟩
        · simp only [orV]
          refine OSound.val hr (y := if ok then .tuple #[zv, .bool false] else zv) ?_ ?_
          · cases ok
            · exact hzv E
            · exact ⟨_, rfl, VRs.cons (hzv E) (VRs.cons rfl VRs.nil)⟩
          · simp only [execOp, ho]
            exact run_v (run_lookup hu hk hd hs q2 (hzr w) ok)
        · simp only [orV]
          refine OSound.val hr (y := if ok then .tuple #[u, .bool true] else u) ?_ ?_
          · cases ok
            · exact q3
            · exact ⟨_, rfl, VRs.cons q3 (VRs.cons rfl VRs.nil)⟩
          · simp only [execOp, ho]
            exact run_v (run_lookup hu hk hd hs q2 (hzr w) ok)
    cases hv : ev tm am with
    | nilmap =>
      rw [hv] at h1
      exact key [] #[] rfl (.inl ⟨h1, rfl⟩)
    | map b =>
      rw [hv] at h1
      obtain ⟨x, hx, h3⟩ := h1
      simp only
      cases hg : h.t.get b with
      | none => trivial
      | some ob =>
        cases ob with
        | cells => trivial
        | map es clock =>
          obtain ⟨ms, g1, g2⟩ := map_obj hr hg hx
          exact key es ms g2 (.inr ⟨_, _, h3, g1⟩)
    | _ => trivial

/-- a map is laid anew. -/
theorem HRel.setMap (hr : HRel E h w) {b : Nat} {es : List (AV × AV × Nat)} {clock : Nat} (hg : h.t.get b = some (.map es clock)) {x : Slot} (hx : E.σ b = some x) (es' : List (AV × AV × Nat)) (clock' : Nat) (ms' : Array MapEntry) (he : ERel E es' ms'.toList) :
    (setObj x.blk (.map ms' clock')).run P w = .ok () { w with heap := w.heap.setIfInBounds x.blk (.map ms' clock') } ∧
    HRel E (h.over b (.map es' clock')) { w with heap := w.heap.setIfInBounds x.blk (.map ms' clock') } ∧ Ext E h w E (h.over b (.map es' clock')) { w with heap := w.heap.setIfInBounds x.blk (.map ms' clock') } := by
  obtain ⟨ms, g1, g2⟩ := map_obj hr hg hx
  have hlt : x.blk < w.heap.size := (Array.getElem?_eq_some_iff.1 g1).1
  have hget : ∀ k, (h.over b (.map es' clock')).t.get k = if k = b then some (.map es' clock') else h.t.get k := by intro k; cases h; exact Tr.get_set _ _ _ _
  have hf : (h.over b (.map es' clock')).f = h.f := by cases h; rfl
  have hnx : (h.over b (.map es' clock')).nx = h.nx := by cases h; rfl
  have hself : (w.heap.setIfInBounds x.blk (.map ms' clock'))[x.blk]? = some (.map ms' clock') := by simp [hlt]
  have hoth : ∀ k, k ≠ x.blk → (w.heap.setIfInBounds x.blk (.map ms' clock'))[k]? = w.heap[k]? := by
    intro k hk
    rw [Array.getElem?_setIfInBounds, if_neg (fun e => hk e.symm)]
  have hx0 : x.off = 0 := by
    obtain ⟨y, hy, h0, _⟩ := hr.obj b _ hg
    rw [hx] at hy
    obtain rfl := Option.some.inj hy
    exact h0
  have hne : ∀ k o' y, k ≠ b → h.t.get k = some o' → E.σ k = some y → y.blk ≠ x.blk := by
    intro k o' y hk ho hy e
    obtain ⟨t, n, fam, co, pl, t', n', co', pl', e1, e2, _⟩ := hr.sep k b o' _ y x hk ho hg hy hx e
    cases e2
  refine ⟨?_, ⟨?_, ?_, ?_, ?_, hr.glob, by rw [hnx]; exact hr.base⟩, ⟨.refl E, rfl, rfl, rfl, by show w.heap.size ≤ (w.heap.setIfInBounds _ _).size; simp, by rw [hnx]; exact Nat.le_refl _, ?_, ?_, ?_, fun _ _ => rfl⟩⟩
  · simp only [setObj, Sem.run, g1]
  · intro k o' hk
    rw [hget] at hk
    by_cases e : k = b
    · rw [if_pos e] at hk
      obtain rfl := Option.some.inj hk
      subst e
      exact ⟨x, hx, hx0, ms', hself, he⟩
    · rw [if_neg e] at hk
      obtain ⟨y, hy, hyr⟩ := hr.obj k o' hk
      exact ⟨y, hy, hyr.mono (.refl E) (hoth _ (hne k o' y e hk hy))⟩
  · intro k k' o1 o2 y y' hkk k1 k2 hy hy' hblk
    rw [hget] at k1 k2
    by_cases e : k = b
    · by_cases e' : k' = b
      · exact absurd (e.trans e'.symm) hkk
      · rw [if_neg e'] at k2
        subst e
        rw [hx] at hy
        obtain rfl := Option.some.inj hy
        exact absurd hblk.symm (hne k' o2 y' e' k2 hy')
    · rw [if_neg e] at k1
      by_cases e' : k' = b
      · subst e'
        rw [hx] at hy'
        obtain rfl := Option.some.inj hy'
        exact absurd hblk (hne k o1 y e k1 hy)
      · rw [if_neg e'] at k2
        exact hr.sep k k' o1 o2 y y' hkk k1 k2 hy hy' hblk
  · intro k t n fam co pl ro hk
    rw [hget] at hk
    rw [hf, hnx]
    by_cases e : k = b
    · rw [if_pos e] at hk; cases hk
    · rw [if_neg e] at hk
      exact hr.shl k t n fam co pl ro hk
  · intro k hk
    rw [hnx] at hk
    exact hr.fresh k hk
  · intro k hk hn
    exact hoth k fun e => hn b _ x hg rfl hx e.symm
  · intro k o' y hk hy
    rw [hget] at hk
    by_cases e : k = b
    · subst e
      rw [hx] at hy
      obtain rfl := Option.some.inj hy
      exact .inr ⟨k, _, x, hg, fun _ => rfl, hx, rfl⟩
    · rw [if_neg e] at hk
      exact .inr ⟨k, o', y, hk, id, hy, rfl⟩
  · intro k hk y hy
    rw [hr.fresh k hk] at hy; cases hy

theorem setVal_rel {k v : AV} {y u : Value} (hk : VR E k y) (hv : VR E v u) : ∀ (es : List (AV × AV × Nat)) (ms : List MapEntry) (j : Nat), ERel E es ms → ERel E (setVal es j k v) (ms.modify j fun e => { e with key := y, val := u })
  | [], ms, j, he => by
    obtain rfl : ms = [] := he
    cases j <;> exact rfl
  | (ka, va, n) :: es, ms, 0, he => by
    obtain ⟨e, ms', rfl, g1, g2, g3, g4⟩ := he
    exact ⟨_, ms', rfl, hk, hv, g3, g4⟩
  | (ka, va, n) :: es, ms, j + 1, he => by
    obtain ⟨e, ms', rfl, g1, g2, g3, g4⟩ := he
    exact ⟨e, _, rfl, g1, g2, g3, setVal_rel hk hv es ms' j g4⟩
theorem ERel.append {es es' : List (AV × AV × Nat)} {ms ms' : List MapEntry} : ERel E es ms → ERel E es' ms' → ERel E (es ++ es') (ms ++ ms') := by
  induction es generalizing ms with
  | nil => intro h h'; obtain rfl : ms = [] := h; exact h'
  | cons e es ih =>
    obtain ⟨k, v, n⟩ := e
    rintro ⟨e, ms'', rfl, g1, g2, g3, g⟩ h'
    exact ⟨e, _, rfl, g1, g2, g3, ih g h'⟩

theorem s_up (hr : HRel E h w) (ht : TRel E tm a.tmps) {st : Bool} {t kt et : TypeId} {d : TypeDesc} (hu : P.underlying t = some (.map kt et)) (hk : P.underlying kt = some d) (hd : KindOf st d)
    {m k x : Operand} {am ak ax : AX} (hm : opd m = some am) (hkk : opd k = some ak) (hx : opd x = some ax) (ho : o.op = .mapUpdate t m k x) : OSound P E h w (xop P hyp tm h (.up st am ak ax)) ((execOp a.eval o).run P w) := by
  have h1 := opd_spec hr.globs ht hm
  have h2 := opd_spec hr.globs ht hkk
  have h3 := opd_spec hr.globs ht hx
  simp only [xop]
  unfold updIn
  cases hok : keyOk st (ev tm ak) with
  | false => trivial
  | true =>
    simp only [cond_true]
    cases hv : ev tm am with
    | map b =>
      rw [hv] at h1
      obtain ⟨sl, hsl, h4⟩ := h1
      simp only
      cases hg : h.t.get b with
      | none => trivial
      | some ob =>
        cases ob with
        | cells => trivial
        | map es clock =>
          obtain ⟨ms, g1, g2⟩ := map_obj hr hg hsl
          simp only
          have hck := run_checkKey (P := P) (w := w) hd hk false (a.eval k)
          cases hf : findIn st (ev tm ak) es 0 with
          | none => trivial
          | some r =>
            rcases findIn_spec hd h2 es ms.toList 0 r g2 hf with ⟨rfl, q2⟩ | ⟨j, v, u, rfl, q2, q3, e, q4, q5⟩
            · have hfk := run_findKey (P := P) (w := w) hk q2
              obtain ⟨f1, f2, f3⟩ := hr.setMap (P := P) hg hsl (es ++ [(ev tm ak, ev tm ax, clock)]) (clock + 1) (ms.push { key := a.eval k, val := a.eval x, born := clock }) (by
                rw [Array.toList_push]
                exact g2.append ⟨_, _, rfl, h2, h3, rfl, rfl⟩)
              refine OSound.skip (w' := _) ?_ f2 f3
              simp only [execOp, ho]
              refine run_u ?_
              simp only [Instr.mapUpdate, Sem.run_bind, run_underlying hu, Result.andThen_ok, h4, run_getMap g1, hck, hfk]
              exact f1
            · have hfk := run_findKey (P := P) (w := w) hk q2
              obtain ⟨f1, f2, f3⟩ := hr.setMap (P := P) hg hsl (setVal es j (ev tm ak) (ev tm ax)) clock (ms.modify j fun e => { e with key := a.eval k, val := a.eval x }) (by
                have := setVal_rel h2 h3 es ms.toList j g2
                rwa [← Array.toList_modify] at this)
              have hold : ms[j]? = some e := by rw [← Array.getElem?_toList]; exact q4
              simp only [Nat.zero_add]
              refine OSound.skip (w' := _) ?_ f2 f3
              simp only [execOp, ho]
              refine run_u ?_
              simp only [Instr.mapUpdate, Sem.run_bind, run_underlying hu, Result.andThen_ok, h4, run_getMap g1, hck, hfk, Nat.zero_add, hold, Option.map_some, Option.getD_some, Instr.keyThatStays, q5, if_true, Sem.run_pure]
              exact f1
    | _ => trivial

/- calls -/
theorem opds_nil {l : List Operand} (h : opds l = some []) : l = [] := by
  cases l with
  | nil => rfl
  | cons y l =>
    simp only [opds] at h
    cases h1 : opd y with
    | none => rw [h1] at h; cases h
    | some b =>
      rw [h1] at h
      cases h2 : opds l with
      | none => rw [h2] at h; cases h
      | some m => rw [h2] at h; cases h
theorem opds_cons {l : List Operand} {x : AX} {m : List AX} (h : opds l = some (x :: m)) : ∃ y l', l = y :: l' ∧ opd y = some x ∧ opds l' = some m := by
  cases l with
  | nil => simp only [opds] at h; cases h
  | cons y l =>
    simp only [opds] at h
    cases h1 : opd y with
    | none => rw [h1] at h; cases h
    | some b =>
      rw [h1] at h
      cases h2 : opds l with
      | none => rw [h2] at h; cases h
      | some m => rw [h2] at h; cases h; exact ⟨y, l, rfl, h1, h2⟩
theorem run_bi {c : Call} {b : Builtin} (ho : o.op = .call c) (hc : c.callee = .builtin b) : (execOp a.eval o).run P w = (builtin b c.argTypes o.type (c.args.map fun | .const _ => true | _ => false) (c.args.map a.eval)).run P w := by
  simp only [execOp, ho, resolve, hc]
  rfl
theorem gi_rel (n : Nat) : VR E (gi n) (goInt n) := rfl

theorem s_lnS (hr : HRel E h w) (ht : TRel E tm a.tmps) {c : Call} {t : TypeId} (hu : P.underlying t = some .string) (ho : o.op = .call c) (hc : c.callee = .builtin .len) (hat : c.argTypes = #[t]) {x : Operand} (ha : c.args = #[x])
    {ax : AX} (hx : opd x = some ax) : OSound P E h w (xop P hyp tm h (.lnS ax)) ((execOp a.eval o).run P w) := by
  have h1 := opd_spec hr.globs ht hx
  rw [run_bi ho hc, hat, ha]
  simp only [xop]
  cases hv : ev tm ax with
  | str s n =>
    rw [hv] at h1
    obtain ⟨bs, h3, rfl, rfl⟩ := h1
    refine OSound.val hr (y := goInt bs.data.toList.length) (gi_rel _) (run_v ?_)
    have hsz : bs.size = bs.data.toList.length := by rw [Array.length_toList]; rfl
    rw [← hsz]
    simp [Builtin.len_, run_underlying hu, h3]
  | _ => trivial
theorem s_lnL (hr : HRel E h w) (ht : TRel E tm a.tmps) {c : Call} {t e : TypeId} (hu : P.underlying t = some (.slice e)) (ho : o.op = .call c) (hc : c.callee = .builtin .len) (hat : c.argTypes = #[t]) {x : Operand} (ha : c.args = #[x])
    {ax : AX} (hx : opd x = some ax) : OSound P E h w (xop P hyp tm h (.lnL ax)) ((execOp a.eval o).run P w) := by
  have h1 := opd_spec hr.globs ht hx
  rw [run_bi ho hc, hat, ha]
  simp only [xop]
  cases hv : ev tm ax with
  | nilslice =>
    rw [hv] at h1
    obtain h1 : a.eval x = .slice none 0 0 := h1
    refine OSound.val hr (y := goInt (0 : Nat)) (gi_rel _) (run_v ?_)
    simp [Builtin.len_, run_underlying hu, h1]
  | slice b off n cap z ex =>
    rw [hv] at h1
    obtain ⟨ad, c', h3, _⟩ := h1
    refine OSound.val hr (y := goInt n) (gi_rel _) (run_v ?_)
    simp [Builtin.len_, run_underlying hu, h3]
  | _ => trivial
theorem s_lnM (hr : HRel E h w) (ht : TRel E tm a.tmps) {c : Call} {t k e : TypeId} (hu : P.underlying t = some (.map k e)) (ho : o.op = .call c) (hc : c.callee = .builtin .len) (hat : c.argTypes = #[t]) {x : Operand} (ha : c.args = #[x])
    {ax : AX} (hx : opd x = some ax) : OSound P E h w (xop P hyp tm h (.lnM ax)) ((execOp a.eval o).run P w) := by
  have h1 := opd_spec hr.globs ht hx
  rw [run_bi ho hc, hat, ha]
  simp only [xop]
  cases hv : ev tm ax with
  | nilmap =>
    rw [hv] at h1
    obtain h1 : a.eval x = .map none := h1
    refine OSound.val hr (y := goInt (0 : Nat)) (gi_rel _) (run_v ?_)
    simp [Builtin.len_, run_underlying hu, h1]
  | map b =>
    rw [hv] at h1
    obtain ⟨sl, hsl, h4⟩ := h1
    simp only
    cases hg : h.t.get b with
    | none => trivial
    | some ob =>
      cases ob with
      | cells => trivial
      | map es clock =>
        obtain ⟨ms, g1, g2⟩ := map_obj hr hg hsl
        refine OSound.val hr (y := goInt es.length) (gi_rel _) (run_v ?_)
        have : ms.size = es.length := by rw [← g2.length]; simp
        simp [Builtin.len_, run_underlying hu, h4, run_getMap g1, this]
  | _ => trivial
theorem s_lenA (hr : HRel E h w) {c : Call} {t e : TypeId} {n : Nat} (hu : P.underlying t = some (.array n e)) (ho : o.op = .call c) (hc : c.callee = .builtin .len) (hat : c.argTypes = #[t]) {x : Operand} (ha : c.args = #[x]) :
    OSound P E h w (xop P hyp tm h (.lenA n)) ((execOp a.eval o).run P w) := by
  rw [run_bi ho hc, hat, ha]
  simp only [xop]
  refine OSound.val hr (y := goInt n) (gi_rel _) (run_v ?_)
  simp [Builtin.len_, run_underlying hu]
theorem s_cap (hr : HRel E h w) (ht : TRel E tm a.tmps) {c : Call} {t e : TypeId} (hu : P.underlying t = some (.slice e)) (ho : o.op = .call c) (hc : c.callee = .builtin .cap) (hat : c.argTypes = #[t]) {x : Operand} (ha : c.args = #[x])
    {ax : AX} (hx : opd x = some ax) : OSound P E h w (xop P hyp tm h (.cap ax)) ((execOp a.eval o).run P w) := by
  have h1 := opd_spec hr.globs ht hx
  rw [run_bi ho hc, hat, ha]
  simp only [xop]
  cases hv : ev tm ax with
  | nilslice =>
    rw [hv] at h1
    obtain h1 : a.eval x = .slice none 0 0 := h1
    refine OSound.val hr (y := goInt (0 : Nat)) (gi_rel _) (run_v ?_)
    simp [Builtin.cap_, run_underlying hu, h1]
  | slice b off n cap z ex =>
    rw [hv] at h1
    obtain ⟨ad, c', h3, h4, h5, _⟩ := h1
    simp only
    cases ex with
    | false => trivial
    | true =>
      obtain rfl := h5 rfl
      refine OSound.val hr (y := goInt c') (gi_rel _) (run_v ?_)
      simp [Builtin.cap_, run_underlying hu, h3]
  | _ => trivial

/- least and most -/
theorem fold_spec {f : AV → AV → Option AV} {g : Value → Value → Sem Value} (hfg : ∀ x y v u u', f x y = some v → VR E x u → VR E y u' → ∃ r, (g u u').run P w = .ok r w ∧ VR E v r) :
    ∀ (l : List AV) (vs : List Value) (x v : AV) (u : Value), foldIn f x l = some v → VR E x u → VRs E l vs → ∃ r, (vs.foldlM g u).run P w = .ok r w ∧ VR E v r
  | [], vs, x, v, u, hf, hx, hl => by
    rw [VRs.nil_inv hl]
    simp only [foldIn, Option.some.injEq] at hf
    subst hf
    exact ⟨u, rfl, hx⟩
  | y :: l, vs, x, v, u, hf, hx, hl => by
    obtain ⟨u', us, rfl, h1, h2⟩ := VRs.cons_inv hl
    simp only [foldIn] at hf
    cases hq : f x y with
    | none => rw [hq] at hf; cases hf
    | some q =>
      rw [hq] at hf
      obtain ⟨r, g1, g2⟩ := hfg x y q u u' hq hx h1
      obtain ⟨r', g3, g4⟩ := fold_spec hfg l us q v r hf g2 h2
      exact ⟨r', by simp only [List.foldlM_cons, Sem.run_bind, g1, Result.andThen_ok, g3], g4⟩
theorem mn2_spec {x y v : AV} {u u' : Value} (hf : mn2 x y = some v) (hx : VR E x u) (hy : VR E y u') : ∃ r, (Builtin.min2 u u').run P w = .ok r w ∧ VR E v r := by
  unfold mn2 at hf
  split at hf
  · rename_i k p k' q
    obtain rfl : u = .int k (p.den E.ρ) := hx
    obtain rfl : u' = .int k' (q.den E.ρ) := hy
    refine ⟨_, rfl, ?_⟩
    have hsx : (SX.mn p.sx q.sx).den E.ρ = if q.den E.ρ < p.den E.ρ then q.den E.ρ else p.den E.ρ := by simp only [SX.den, AI.sx_den]
    split at hf
    · rename_i m n
      cases hf
      show Value.int k _ = .int k _
      congr 1
      rw [ile_eq]
      show (if n < m then n else m) = _
      by_cases hlt : n < m
      · rw [if_pos hlt, show (!decide (m ≤ n)) = true by simp; omega]; rfl
      · rw [if_neg hlt, show (!decide (m ≤ n)) = false by simp; omega]; rfl
    · cases hf
      show Value.int k _ = .int k _
      exact congrArg _ hsx.symm
  · cases hf
theorem mx2_spec {x y v : AV} {u u' : Value} (hf : mx2 x y = some v) (hx : VR E x u) (hy : VR E y u') : ∃ r, (Builtin.max2 u u').run P w = .ok r w ∧ VR E v r := by
  unfold mx2 at hf
  split at hf
  · rename_i k p k' q
    obtain rfl : u = .int k (p.den E.ρ) := hx
    obtain rfl : u' = .int k' (q.den E.ρ) := hy
    refine ⟨_, rfl, ?_⟩
    have hsx : (SX.mx p.sx q.sx).den E.ρ = if q.den E.ρ > p.den E.ρ then q.den E.ρ else p.den E.ρ := by simp only [SX.den, AI.sx_den]
    split at hf
    · rename_i m n
      cases hf
      show Value.int k _ = .int k _
      congr 1
      rw [ile_eq]
      show (if n > m then n else m) = _
      by_cases hlt : n > m
      · rw [if_pos hlt, show (!decide (n ≤ m)) = true by simp; omega]; rfl
      · rw [if_neg hlt, show (!decide (n ≤ m)) = false by simp; omega]; rfl
    · cases hf
      show Value.int k _ = .int k _
      exact congrArg _ hsx.symm
  · cases hf
theorem s_mn (hr : HRel E h w) (ht : TRel E tm a.tmps) {c : Call} (ho : o.op = .call c) (hc : c.callee = .builtin .min) {x : AX} {l : List AX} (hl : opds c.args.toList = some (x :: l)) : OSound P E h w (xop P hyp tm h (.mn x l)) ((execOp a.eval o).run P w) := by
  obtain ⟨y, l', e1, e2, e3⟩ := opds_cons hl
  rw [run_bi ho hc]
  simp only [xop]
  cases hf : foldIn mn2 (ev tm x) (evs tm l) with
  | none => trivial
  | some v =>
    obtain ⟨r, g1, g2⟩ := fold_spec (P := P) (w := w) (fun x y v u u' => mn2_spec) _ _ _ _ _ hf (opd_spec hr.globs ht e2) (opds_spec hr.globs ht e3)
    refine OSound.val hr (y := r) g2 (run_v ?_)
    simp only [Builtin.min_, Array.toList_map, e1, List.map_cons]
    exact g1
theorem s_mx (hr : HRel E h w) (ht : TRel E tm a.tmps) {c : Call} (ho : o.op = .call c) (hc : c.callee = .builtin .max) {x : AX} {l : List AX} (hl : opds c.args.toList = some (x :: l)) : OSound P E h w (xop P hyp tm h (.mx x l)) ((execOp a.eval o).run P w) := by
  obtain ⟨y, l', e1, e2, e3⟩ := opds_cons hl
  rw [run_bi ho hc]
  simp only [xop]
  cases hf : foldIn mx2 (ev tm x) (evs tm l) with
  | none => trivial
  | some v =>
    obtain ⟨r, g1, g2⟩ := fold_spec (P := P) (w := w) (fun x y v u u' => mx2_spec) _ _ _ _ _ hf (opd_spec hr.globs ht e2) (opds_spec hr.globs ht e3)
    refine OSound.val hr (y := r) g2 (run_v ?_)
    simp only [Builtin.max_, Array.toList_map, e1, List.map_cons]
    exact g1
theorem s_rcv {c : Call} (ho : o.op = .call c) (hc : c.callee = .builtin .recover) : OSound P E h w (xop P hyp tm h .rcv) ((execOp a.eval o).run P w) := by
  rw [run_bi ho hc]
  exact ⟨rfl, rfl⟩

/- functions -/
theorem find_ib (fn : Func) (hn : fn.name = "internal/bytealg.IndexByteString") (ho : fn.origin = "") : Extern.findNext fn = none ∧ Extern.find fn = some Extern.BytealgIndexByte.indexByte := by
  constructor
  · unfold Extern.findNext
    rw [hn, ho]
    rfl
  · unfold Extern.find
    rw [hn]
    rfl
theorem indexByte_spec (bs : ByteArray) (c : Nat) (hc : c < 256) : ∀ (n i : Nat), i + n = bs.data.toList.length → (List.range' i n).find? (fun i => bs[i]! == c.toUInt8) = indexByte (enc bs.data.toList) c i n
  | 0, i, _ => rfl
  | n + 1, i, h => by
    have hlt : i < bs.size := by show i < bs.data.size; rw [← Array.length_toList]; omega
    have hb : bs[i]! = bs[i] := by simp [hlt]
    have hget : bs.data.toList[i]? = some bs[i] := by
      rw [Array.getElem?_toList, Array.getElem?_eq_getElem hlt]; rfl
    have hch := chr_enc bs.data.toList i _ hget
    simp only [List.range'_succ, List.find?_cons, indexByte, hch, hb]
    have : (bs[i] == c.toUInt8) = Nat.beq (bs[i]).toNat c := by
      rw [Bool.eq_iff_iff, beq_iff_eq, Nat.beq_eq]
      constructor
      · intro e; rw [e]; show (UInt8.ofNat c).toNat = c; rw [UInt8.toNat_ofNat']; exact Nat.mod_eq_of_lt hc
      · intro e; apply UInt8.toNat.inj; rw [e]; show c = (UInt8.ofNat c).toNat; rw [UInt8.toNat_ofNat']; exact (Nat.mod_eq_of_lt hc).symm
    rw [this]
    cases Nat.beq (bs[i]).toNat c with
    | true => rfl
    | false => exact indexByte_spec bs c hc n (i + 1) (by omega)

theorem extern_spec {name : String} {args : List AV} {v : AV} (hv : externIn name args = some v) {vs : Array Value} (hvs : VRs E args vs.toList) {g : Nat} {fn : Func} (hg : P.funcs[g]? = some fn) (hb : fn.body = none) (hn : fn.name = name) (hor : fn.origin = "") :
    ∃ r, (callFunc g vs).run P w = .ok (.value r) w ∧ VR E v r := by
  unfold externIn at hv
  split at hv
  · rename_i e
    subst e
    split at hv
    · rename_i s n c
      obtain ⟨y1, l1, e1, r1, hvs⟩ := VRs.cons_inv hvs
      obtain ⟨y2, l2, rfl, r2, hvs⟩ := VRs.cons_inv hvs
      obtain rfl := VRs.nil_inv hvs
      obtain ⟨bs, rfl, rfl, rfl⟩ := r1
      obtain rfl : y2 = .int .u8 (c : Int) := r2
      obtain ⟨q1, q2⟩ := find_ib fn hn hor
      have hvs' : vs = #[.string bs, .int .u8 (c : Int)] := by apply Array.ext'; rw [e1]
      have hrun := run_callFunc_extern (P := P) hg (by rw [hn]; rfl) (by rw [hb]; rfl) q1 q2 vs w
      rw [hvs', run_indexByte_string] at hrun
      rw [hvs']
      cases hc : Nat.blt c 256 with
      | false => rw [hc] at hv; cases hv
      | true =>
        rw [hc] at hv
        have hc' : c < 256 := Nat.le_of_ble_eq_true hc
        have hib := indexByte_spec bs c hc' bs.data.toList.length 0 (by omega)
        have hfi : firstIdx bs (c : Int).toNat.toUInt8 = match indexByte (enc bs.data.toList) c 0 bs.data.toList.length with | some i => (i : Int) | none => -1 := by
          unfold firstIdx
          rw [← hib, Array.length_toList, List.range_eq_range']
          rfl
        refine ⟨_, hrun, ?_⟩
        rw [hfi]
        simp only [cond_true] at hv
        cases hi : indexByte (enc bs.data.toList) c 0 bs.data.toList.length with
        | none => rw [hi] at hv; cases hv; rfl
        | some i => rw [hi] at hv; cases hv; rfl
    · cases hv
  · cases hv

theorem hasBody_some {g : Nat} (h : hasBody P g = some none) : ∀ (vs : Array Value) (w : World), (callFunc g vs).run P w = .ok (.enter g vs) w := by
  unfold hasBody at h
  cases hg : P.funcs[g]? with
  | none => rw [hg] at h; cases h
  | some fn =>
    rw [hg] at h
    simp only at h
    cases hb : fn.body with
    | none =>
      rw [hb] at h
      simp only at h
      split at h <;> cases h
    | some bd =>
      rw [hb] at h
      simp only at h
      split at h
      · cases h
      · rename_i hn
        intro vs w
        simp only [callFunc, Sem.run_bind, run_program, Result.andThen_ok, hg]
        rw [if_neg (by simpa using hn)]
        simp [hb]
theorem hasBody_ext {g : Nat} {name : String} (h : hasBody P g = some (some name)) : ∃ fn, P.funcs[g]? = some fn ∧ fn.body = none ∧ fn.name = name ∧ fn.origin = "" := by
  unfold hasBody at h
  cases hg : P.funcs[g]? with
  | none => rw [hg] at h; cases h
  | some fn =>
    rw [hg] at h
    simp only at h
    cases hb : fn.body with
    | none =>
      rw [hb] at h
      simp only at h
      split at h
      · rename_i hc; cases h; exact ⟨fn, rfl, hb, rfl, hc.2⟩
      · cases h
    | some bd =>
      rw [hb] at h
      simp only at h
      split at h <;> cases h

theorem s_cl (hr : HRel E h w) (ht : TRel E tm a.tmps) {c : Call} (ho : o.op = .call c) {f : Operand} (hc : c.callee = .value f) {af : AX} (hf : opd f = some af) {l : List AX} (hl : opds c.args.toList = some l) :
    OSound P E h w (xop P hyp tm h (.cl af l)) ((execOp a.eval o).run P w) := by
  have h1 := opd_spec hr.globs ht hf
  have h2 := opds_spec hr.globs ht hl
  simp only [xop]
  unfold callIn
  cases hv : ev tm af with
  | func fn first cap =>
    rw [hv] at h1
    obtain ⟨A, B, h3, h4, h5⟩ := h1
    simp only
    cases fn with
    | func g =>
      simp only
      have hall : VRs E (first ++ (evs tm l ++ cap)) ((A ++ c.args.map a.eval) ++ B).toList := by
        rw [Array.toList_append, Array.toList_append, Array.toList_map, List.append_assoc]
        exact h4.append (h2.append h5)
      have hrun : (execOp a.eval o).run P w = (callFunc g ((A ++ c.args.map a.eval) ++ B)).run P w := by
        simp only [execOp, ho, resolve, hc, h3, Deferred.ofValue]
        rfl
      cases hb : hasBody P g with
      | none => trivial
      | some q =>
        cases q with
        | none => exact ⟨_, by rw [hrun, hasBody_some hb], hall, rfl⟩
        | some name =>
          simp only
          cases hx : externIn name (first ++ (evs tm l ++ cap)) with
          | none => trivial
          | some v =>
            obtain ⟨fn, g1, g2, g3, g4⟩ := hasBody_ext hb
            obtain ⟨r, q1, q2⟩ := extern_spec (P := P) (w := w) hx hall g1 g2 g3 g4
            exact OSound.val hr q2 (hrun.trans q1)
    | _ => trivial
  | _ => trivial
theorem s_df (hr : HRel E h w) (ht : TRel E tm a.tmps) {c : Call} (ho : o.op = .defer c) {f : Operand} (hc : c.callee = .value f) {af : AX} (hf : opd f = some af) {l : List AX} (hl : opds c.args.toList = some l) :
    OSound P E h w (xop P hyp tm h (.df af l)) ((execOp a.eval o).run P w) := by
  have h1 := opd_spec hr.globs ht hf
  have h2 := opds_spec hr.globs ht hl
  simp only [xop]
  unfold callIn
  cases hv : ev tm af with
  | func fn first cap =>
    rw [hv] at h1
    obtain ⟨A, B, h3, h4, h5⟩ := h1
    simp only
    cases fn with
    | func g =>
      simp only
      have hall : VRs E (first ++ (evs tm l ++ cap)) ((A ++ c.args.map a.eval) ++ B).toList := by
        rw [Array.toList_append, Array.toList_append, Array.toList_map, List.append_assoc]
        exact h4.append (h2.append h5)
      cases hb : hasBody P g with
      | none => trivial
      | some q =>
        cases q with
        | none =>
          refine ⟨.func g, B, A ++ c.args.map a.eval, (A ++ c.args.map a.eval) ++ B, ?_, hall, rfl, fun w => hasBody_some hb _ w⟩
          simp only [execOp, ho, resolve, hc, h3, Deferred.ofValue]
          rfl
        | some name =>
          simp only
          cases hx : externIn name (first ++ (evs tm l ++ cap)) <;> trivial
    | _ => trivial
  | _ => trivial
end
end Go.Am
