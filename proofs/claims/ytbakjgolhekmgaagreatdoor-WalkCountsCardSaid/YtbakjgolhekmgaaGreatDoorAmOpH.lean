/- Operations, one by one (seventh part): 'append' and 'copy'. -/
import Derived.Test.YtbakjgolhekmgaaGreatDoorAmOpG
namespace Go.Am

theorem decN_take {E : Env} : ∀ (n : Nat) (l : List UInt8), n ≤ l.length → VRs E (decN (enc l) n) ((l.take n).map fun b => Value.int .u8 (b.toNat : Int))
  | 0, l, _ => by simp only [List.take_zero, List.map_nil]; exact VRs.nil
  | n + 1, [], h => by simp at h
  | n + 1, b :: l, h => by
    have h1 : b.toNat < 256 := b.toNat_lt
    have e1 : Nat.mod (enc (b :: l)) 256 = b.toNat := by show (b.toNat + 256 * enc l) % 256 = _; omega
    have e2 : Nat.div (enc (b :: l)) 256 = enc l := by show (b.toNat + 256 * enc l) / 256 = _; omega
    show VRs E (.int .u8 (.c (.ofNat (Nat.mod (enc (b :: l)) 256))) :: decN (Nat.div (enc (b :: l)) 256) n) _
    rw [e1, e2, List.take_succ_cons, List.map_cons]
    exact VRs.cons rfl (decN_take n l (by simpa using h))

section
variable {P : Program} {E : Env} {h : AH} {w : World} {hyp : Hyp} {tm : Tr AV} {a : Act} {o : Oper}

theorem lenOf_spec {v : AV} {y : Value} (hv : VR E v y) {n : Nat} (hn : lenOf v = some n) : (Builtin.lenOf y).run P w = .ok n w := by
  unfold lenOf at hn
  split at hn
  · cases hn
    obtain rfl : y = .slice none 0 0 := hv
    rfl
  · cases hn
    obtain ⟨ad, c, rfl, _⟩ := hv
    rfl
  · cases hn
    obtain ⟨bs, rfl, _, rfl⟩ := hv
    show (pure bs.size : Sem Nat).run P w = _
    have hsz : bs.size = bs.data.toList.length := by rw [Array.length_toList]; rfl
    rw [hsz]; rfl
  · cases hn
theorem cell_heap {w w' : World} (hh : w'.heap = w.heap) (ad : Addr) : w'.cell? ad = w.cell? ad := by unfold World.cell?; rw [hh]
/-- the first cells of a slice, or of a text. -/
theorem firstIn_spec (hr : HRel E h w) {v : AV} {y : Value} (hv : VR E v y) {z n m : Nat} {new : List AV} (hm : lenOf v = some m) (hnm : n ≤ m) (hf : firstIn h z n v = some new) :
    ∃ news : List Value, (∀ w' : World, w'.heap = w.heap → (Builtin.firstCells z n y).run P w' = .ok news.toArray w') ∧ VRs E new news := by
  unfold firstIn at hf
  split at hf
  · cases hf
    obtain rfl : y = .slice none 0 0 := hv
    exact ⟨[], fun w' _ => by simp [run_firstCells_none], VRs.nil⟩
  · rename_i b off len cap z' ex
    simp only [lenOf, Option.some.injEq] at hm
    subst hm
    obtain ⟨ad, c, vs, g1, g2, g3, g4⟩ := slice_cells hr hv hf (fun hk e => by
      have hn0 : n = 0 := by omega
      rw [hn0] at hk
      exact hk (Nat.zero_mul z))
    subst g1
    exact ⟨vs, fun w' hh => run_firstCells_some w' z n ad len c vs g2 (fun j u hj => by rw [cell_heap hh]; exact g4 j u hj), g3⟩
  · rename_i s k
    cases hf
    obtain ⟨bs, rfl, rfl, rfl⟩ := hv
    simp only [lenOf, Option.some.injEq] at hm
    subst hm
    refine ⟨_, fun w' _ => ?_, decN_take n _ hnm⟩
    simp only [Builtin.firstCells, Sem.run_pure]
    congr 1
    apply Array.ext'
    have := extract_bytes bs 0 n (Nat.zero_le _) hnm
    simp only [Array.toList_map, this, List.drop_zero, Nat.sub_zero]
  · cases hf

theorem run_append_room {t t' ty e : TypeId} {u : TypeDesc} (hu : P.underlying t = some (.slice e)) (hu' : P.underlying t' = some u) (hnu : (∃ e', u = .slice e') ∨ u = .string) {z : Nat} (hz : sizeIn P e = some z)
    {base : Option Addr} {sLen sCap n : Nat} {x : Value} {news : List Value} (hl : (Builtin.lenOf x).run P w = .ok n w) (hf : (Builtin.firstCells z n x).run P w = .ok news.toArray w) (hroom : sLen + n ≤ sCap) :
    (Builtin.append_ #[t, t'] ty #[.slice base sLen sCap, x]).run P w = match base with
      | none => .ok (.slice none (sLen + n) sCap) w
      | some ad => ((storeCells (ad.add (sLen * z)) news 0).run P w).andThen fun _ w' => .ok (.slice (some ad) (sLen + n) sCap) w' := by
  rcases hnu with ⟨e', rfl⟩ | rfl <;> cases base <;> simp [Builtin.append_, run_underlying hu, run_underlying hu', run_sizeOf hz, hl, hf, hroom]

theorem run_append_grown {t t' ty e : TypeId} {u : TypeDesc} (hu : P.underlying t = some (.slice e)) (hu' : P.underlying t' = some u) (hnu : (∃ e', u = .slice e') ∨ u = .string) {z : Nat} (hz : sizeIn P e = some z) {bw : Nat} (hbw : bytesIn P e = some bw) (hbl : bw ≤ 10000)
    {v : Value} (hv : ∀ w, (zeroValue e).run P w = .ok v w)
    {base : Option Addr} {sLen sCap n : Nat} {x : Value} {olds news : List Value} (hl : (Builtin.lenOf x).run P w = .ok n w) (hf : (Builtin.firstCells z n x).run P w.drew = .ok news.toArray w.drew)
    (hfo : (Builtin.firstCells z sLen (.slice base sLen sCap)).run P w.drew = .ok olds.toArray w.drew) (hg : sCap < sLen + n) (hmost : sLen + n ≤ 1000000) :
    (Builtin.append_ #[t, t'] ty #[.slice base sLen sCap, x]).run P w = .ok (.slice (some ⟨w.heap.size, 0, none⟩) (sLen + n) (grownCap w (sLen + n) sCap e))
      (w.drew.alloc (.cells ((olds ++ news) ++ (Builtin.zeroCells v.cells (grownCap w (sLen + n) sCap e - (sLen + n))).toList).toArray e)) := by
  obtain ⟨i, hi, hib⟩ := bytesIn_info hbw
  have hn : ¬ (sLen + n ≤ sCap) := by omega
  have h63' : ¬ (9223372036854775807 < ((sLen : Int) + (n : Int))) := by omega
  have hmul : (sLen + n) * i.bytes ≤ 1000000 * 10000 := by rw [hib]; exact Nat.mul_le_mul hmost hbl
  have h48' : ¬ (281474976710656 < Builtin.nextslicecap (sLen + n) sCap * i.bytes) := by
    have := growslice_fits (bytes := i.bytes) hg (by omega)
    omega
  rcases hnu with ⟨e', rfl⟩ | rfl <;>
  · simp [Builtin.append_, run_underlying hu, run_underlying hu', run_sizeOf hz, hl, typeInfo, hi, hv, hn, h63', h48', Question.forced, hf, hfo, newRow, grownCap]
    congr 2
    apply Array.ext'
    simp [List.append_assoc]

theorem grown_ge (w : World) (n c e : Nat) : n ≤ grownCap w n c e := by unfold grownCap; simp only [Question.cut]; omega

/-- a new row, behind 'append'. -/
theorem grown_row (hr : HRel E h w) (e : TypeId) {l : List AV} {vs : List Value} (hv : VRs E l vs) {zc : Array Value} {z : Nat} (hzc : zc.size = z) {n k : Nat} (hl : vs.length = n * z) :
    HRel (E.with h.nx ⟨w.heap.size, 0, (n + k) * z⟩) (h.new l true) (w.drew.alloc (.cells (vs ++ (Builtin.zeroCells zc k).toList).toArray e)) ∧
      Ext E h w (E.with h.nx ⟨w.heap.size, 0, (n + k) * z⟩) (h.new l true) (w.drew.alloc (.cells (vs ++ (Builtin.zeroCells zc k).toList).toArray e)) := by
  obtain ⟨g1, g2⟩ := hr.drew.newRow e l vs (Builtin.zeroCells zc k).toList true hv (0, 0) (fun i _ => by simp) (fun _ => rfl)
  have hroom : vs.length + (Builtin.zeroCells zc k).toList.length = (n + k) * z := by
    rw [hl, Nat.add_mul]
    congr 1
    rw [Array.length_toList]
    simp [Builtin.zeroCells, hzc]
  rw [hroom] at g1 g2
  exact ⟨g1, (Ext.drew hr).trans g2⟩

theorem s_app (hr : HRel E h w) (ht : TRel E tm a.tmps) {c : Call} {t t' e : TypeId} {u : TypeDesc} (hu : P.underlying t = some (.slice e)) (hu' : P.underlying t' = some u) (hnu : (∃ e', u = .slice e') ∨ u = .string) {z : Nat} (hz : sizeIn P e = some z) {bw : Nat} (hbw : bytesIn P e = some bw) (hbl : bw ≤ 10000)
    {v0 : AV} (hv0 : zeroIn P e = some v0) (hone : ones v0.cells = true) (hl0 : v0.cells.length = z) (ho : o.op = .call c) (hc : c.callee = .builtin .append) (hat : c.argTypes = #[t, t']) {s x : Operand} (ha : c.args = #[s, x]) {as ax : AX} (hs : opd s = some as) (hx : opd x = some ax) :
    OSound P E h w (xop P hyp tm h (.app z as ax)) ((execOp a.eval o).run P w) := by
  have h1 := opd_spec hr.globs ht hs
  have h2 := opd_spec hr.globs ht hx
  obtain ⟨v, hv, hvr⟩ := run_zeroValue hv0
  have hvc := (hvr E).cells_ones hone
  have hvs : v.cells.size = z := by have := hvc.length; rw [hl0] at this; simpa using this
  have hrun : (execOp a.eval o).run P w = ((Builtin.append_ #[t, t'] o.type #[a.eval s, a.eval x]).run P w).andThen fun v w' => .ok (.value v) w' := by
    rw [run_bi ho hc, hat, ha]
    simp only [builtin, Sem.run_bind, List.map_toArray, List.map_cons, List.map_nil]
    rfl
  rw [hrun]
  simp only [xop]
  cases hls : lenOf (ev tm as) with
  | none => trivial
  | some len =>
    cases hln : lenOf (ev tm ax) with
    | none => trivial
    | some n =>
      simp only
      cases hm : Nat.ble (Nat.add len n) most with
      | false => trivial
      | true =>
        have hmost : len + n ≤ 1000000 := Nat.le_of_ble_eq_true hm
        simp only [cond_true]
        cases hfi : firstIn h z n (ev tm ax) with
        | none => trivial
        | some new =>
          simp only
          cases hcnd : (Nat.beq new.length (Nat.mul n z) && ones new) with
          | false => trivial
          | true =>
            simp only [cond_true]
            rw [Bool.and_eq_true] at hcnd
            have hnl : new.length = n * z := Nat.eq_of_beq_eq_true hcnd.1
            have hlx := lenOf_spec (P := P) (w := w) h2 hln
            obtain ⟨news, hfall, hnr⟩ := firstIn_spec (P := P) hr h2 hln (Nat.le_refl _) hfi
            have hf := hfall w rfl
            have hf' := hfall w.drew rfl
            unfold appIn
            cases hva : ev tm as with
            | nilslice =>
              rw [hva] at h1 hls
              obtain h1 : a.eval s = .slice none 0 0 := h1
              simp only [lenOf, Option.some.injEq] at hls
              subst hls
              rw [h1]
              simp only
              cases hn0 : Nat.beq n 0 with
              | true =>
                obtain rfl := Nat.eq_of_beq_eq_true hn0
                simp only [cond_true]
                refine OSound.val hr (y := .slice none 0 0) (by exact rfl) ?_
                rw [run_append_room hu hu' hnu hz hlx hf (Nat.le_refl _)]
                rfl
              | false =>
                have hn1 : n ≠ 0 := by intro e; subst e; cases hn0
                simp only [cond_false]
                have hgr := run_append_grown (ty := o.type) (olds := []) hu hu' hnu hz hbw hbl hv hlx hf' (by simp [run_firstCells_none]) (base := none) (sLen := 0) (sCap := 0) (by omega) (by omega)
                obtain ⟨g1, g2⟩ := grown_row hr e hnr (k := grownCap w (0 + n) 0 e - (0 + n)) hvs (n := 0 + n) (by rw [hnr.length, hnl, Nat.zero_add])
                have hge := grown_ge w (0 + n) 0 e
                rw [show 0 + n + (grownCap w (0 + n) 0 e - (0 + n)) = grownCap w (0 + n) 0 e by omega] at g1 g2
                refine OSound.valE g1 g2 (y := .slice (some ⟨w.heap.size, 0, none⟩) (0 + n) (grownCap w (0 + n) 0 e)) ?_ ?_
                · exact ⟨_, _, congrArg (fun k => Value.slice (some ⟨w.heap.size, 0, none⟩) k (grownCap w (0 + n) 0 e)) (Nat.zero_add n), by omega, fun hc => (by cases hc), Nat.le_refl _, rfl, fun _ => ⟨_, Env.with_same _ _ _, rfl, by rw [Nat.zero_add (_ * z)]; exact Nat.le_refl _⟩⟩
                · rw [hgr]
                  simp only [List.nil_append]
                  rfl
            | slice b off len' cap z' ex =>
              rw [hva] at h1 hls
              have hall := h1
              obtain ⟨ad, c', h3, h4, h5, h6, h7, h8⟩ := h1
              simp only [lenOf, Option.some.injEq] at hls
              subst hls
              rw [h3]
              simp only
              cases hzz : Nat.beq z z' with
              | false => trivial
              | true =>
                obtain rfl := Nat.eq_of_beq_eq_true hzz
                simp only [cond_true]
                cases hroom : Nat.ble (Nat.add len' n) cap with
                | true =>
                  have hroom' : len' + n ≤ cap := Nat.le_of_ble_eq_true hroom
                  simp only [cond_true]
                  cases hw : h.wrs b (Nat.add off (Nat.mul len' z)) new with
                  | none => trivial
                  | some h' =>
                    simp only
                    rw [run_append_room hu hu' hnu hz hlx hf (by omega)]
                    simp only
                    by_cases hc0 : c' = 0
                    · have hn0 : n = 0 := by omega
                      have hnew : new = [] := List.length_eq_zero_iff.1 (by rw [hnl, hn0, Nat.zero_mul])
                      subst hnew
                      obtain rfl := hnr.nil_inv
                      simp only [AH.wrs, Option.some.injEq] at hw
                      subst hw
                      refine OSound.val hr (y := .slice (some ad) (len' + n) c') (by exact ⟨ad, c', rfl, h4, h5, hroom', h7, h8⟩) ?_
                      rfl
                    · obtain ⟨x', hx', rfl, hrm⟩ := h8 hc0
                      obtain ⟨w', q1, q2, q3⟩ := hr.wrs P hw hnr x' (fun _ => hx')
                      refine OSound.valE q2 q3 (y := .slice (some (x'.at off)) (len' + n) c') (by exact ⟨_, c', rfl, h4, h5, hroom', h7, h8⟩) ?_
                      rw [Slot.at_add]
                      have q1' : (storeCells (x'.at (off + len' * z)) news 0).run P w = .ok () w' := q1
                      rw [q1']
                      rfl
                | false =>
                  have hroom' : ¬ (len' + n ≤ cap) := fun hc => by rw [show Nat.ble (Nat.add len' n) cap = true from Nat.ble_eq_true_of_le hc] at hroom; cases hroom
                  simp only [cond_false]
                  cases hold : h.rds b off (Nat.mul len' z) with
                  | none => trivial
                  | some old =>
                    simp only
                    obtain ⟨ad', c'', olds, g1, g2, g3, g4⟩ := slice_cells hr hall hold (fun hk e => by subst e; exact hk (Nat.zero_mul z))
                    rw [h3] at g1
                    cases g1
                    have hol : olds.length = len' * z := g2
                    have hLlen : (olds ++ news).length = (len' + n) * z := by rw [List.length_append, hol, hnr.length, hnl, Nat.add_mul]
                    have grow : c' < len' + n → (Builtin.append_ #[t, t'] o.type #[.slice (some ad) len' c', a.eval x]).run P w = .ok (.slice (some ⟨w.heap.size, 0, none⟩) (len' + n) (grownCap w (len' + n) c' e))
                        (w.drew.alloc (.cells ((olds ++ news) ++ (Builtin.zeroCells v.cells (grownCap w (len' + n) c' e - (len' + n))).toList).toArray e)) := fun hlt =>
                      run_append_grown hu hu' hnu hz hbw hbl hv hlx hf' (run_firstCells_some w.drew z len' ad len' c' olds hol (fun j u hj => by rw [cell_heap rfl]; exact g4 j u hj)) hlt hmost
                    have hge := grown_ge w (len' + n) c' e
                    cases ex with
                    | true =>
                      obtain rfl := h5 rfl
                      simp only [cond_true]
                      obtain ⟨k1, k2⟩ := grown_row hr e (g3.append hnr) (k := grownCap w (len' + n) c' e - (len' + n)) hvs (n := len' + n) hLlen
                      rw [show len' + n + (grownCap w (len' + n) c' e - (len' + n)) = grownCap w (len' + n) c' e by omega] at k1 k2
                      refine OSound.valE k1 k2 (y := .slice (some ⟨w.heap.size, 0, none⟩) (len' + n) (grownCap w (len' + n) c' e)) ?_ ?_
                      · exact ⟨_, _, rfl, hge, fun hc => (by cases hc), Nat.le_refl _, rfl, fun _ => ⟨_, Env.with_same _ _ _, rfl, by rw [Nat.zero_add]; exact Nat.le_refl _⟩⟩
                      · rw [grow (by omega)]
                        rfl
                    | false =>
                      simp only [cond_false]
                      rcases h with ⟨h0, f0, nx0⟩
                      simp only
                      cases hg : h0.get b with
                      | none => trivial
                      | some ob =>
                        cases ob with
                        | map => trivial
                        | cells bt bn sh fam co pl ro =>
                          simp only
                          cases ro with
                          | true => trivial
                          | false =>
                            simp only [cond_false]
                            suffices hsuf : OSound P E ⟨h0, f0, nx0⟩ w (.v (.slice nx0 0 (len' + n) (len' + n) z false) (appH ⟨h0, f0, nx0⟩ b bt bn sh fam co pl off len' z n (old ++ new)))
                              (((Builtin.append_ #[t, t'] o.type #[.slice (some ad) len' c', a.eval x]).run P w).andThen fun v w' => .ok (.value v) w') by
                              cases sh <;> exact hsuf
                            obtain ⟨x', hx', ob⟩ := hr.obj b _ hg
                            have hLr : VRs E (old ++ new) (olds ++ news) := g3.append hnr
                            have hL : (old ++ new).length = (len' + n) * z := by rw [← hLr.length]; exact hLlen
                            rcases Nat.lt_or_ge c' (len' + n) with hlt | hge'
                            · -- elsewhere
                              have hcells : (((olds ++ news) ++ (Builtin.zeroCells v.cells (grownCap w (len' + n) c' e - (len' + n))).toList).toArray).size = grownCap w (len' + n) c' e * z := by
                                simp only [List.size_toArray, List.length_append, Array.length_toList] at hLlen ⊢
                                rw [hLlen]
                                simp only [Builtin.zeroCells, Array.size_map, Array.size_range, hvs]
                                rw [← Nat.add_mul]
                                congr 1
                                omega
                              have hnewb : ∀ cs : Array Value, (w.drew.alloc (.cells cs e)).heap[w.heap.size]? = some (.cells cs e) := fun cs => by
                                show (w.heap.push (.cells cs e))[w.heap.size]? = some (.cells cs e)
                                simp
                              obtain ⟨k1, k2⟩ := hr.app (w' := w.drew.alloc (.cells ((olds ++ news) ++ (Builtin.zeroCells v.cells (grownCap w (len' + n) c' e - (len' + n))).toList).toArray e)) hg hx' off len' z n (old ++ new) hL
                                ⟨w.heap.size, 0, grownCap w (len' + n) c' e * z⟩ ((olds ++ news) ++ (Builtin.zeroCells v.cells (grownCap w (len' + n) c' e - (len' + n))).toList).toArray e (0, 0) (hnewb _) (by rw [hcells]; exact Nat.le_of_eq (Nat.zero_add _)) (Nat.mul_le_mul_right z hge) (fun i _ => by simp) (fun _ => rfl)
                                (fun E' hE i u hi => by
                                  rw [Tr.get_ofList] at hi
                                  obtain ⟨y, hy, hyr⟩ := hLr.get i u hi
                                  have hil : i < (olds ++ news).length := by
                                    rcases Nat.lt_or_ge i (olds ++ news).length with q | q
                                    · exact q
                                    · rw [List.getElem?_eq_none q] at hy; cases hy
                                  refine ⟨by rw [← hLlen]; exact hil, y, ?_, VR.mono hE u y hyr⟩
                                  simp only [Nat.zero_add, List.getElem?_toArray]
                                  rw [List.getElem?_append_left hil]; exact hy)
                                (.inl ⟨Nat.le_refl _, fun k hk => by show (w.heap.push _)[k]? = _; rw [Array.getElem?_push, if_neg (by omega)]⟩) rfl rfl rfl (by show w.heap.size ≤ (w.heap.push _).size; simp)
                              refine OSound.valE k1 k2 (y := .slice (some ⟨w.heap.size, 0, none⟩) (len' + n) (grownCap w (len' + n) c' e)) ?_ ?_
                              · exact ⟨_, _, rfl, hge, fun hc => (by cases hc), Nat.le_refl _, rfl, fun _ => ⟨_, Env.with_same _ _ _, rfl, by rw [Nat.zero_add]; exact Nat.le_refl _⟩⟩
                              · rw [grow hlt]
                                rfl
                            · -- in place
                              obtain ⟨x'', hx'', rfl, hrm⟩ := h8 (by omega)
                              rw [hx'] at hx''
                              obtain rfl := Option.some.inj hx''
                              obtain ⟨cc, el, fz, o1, o2, o3, o4, o5, o6⟩ := ob
                              have hmul : (len' + n) * z ≤ c' * z := Nat.mul_le_mul_right z hge'
                              have hmul2 : (len' + n) * z = len' * z + n * z := Nat.add_mul _ _ _
                              have hnewsl : news.length = n * z := by rw [hnr.length, hnl]
                              obtain ⟨w', c2, s1, s2, s3, s4, s5, s6, s7, s8, s9⟩ := run_storeCells P news w x'.blk (x'.off + (off + len' * z)) 0 cc el fz o1 (by omega) (fun j hj => by
                                have := o4 rfl (off + len' * z + j) (by omega)
                                rw [show x'.off + (off + len' * z) + 0 + j = x'.off + (off + len' * z + j) by omega]; exact this) (oneCells hnr hcnd.2)
                              have hcell : ∀ j u, olds[j]? = some u → cc[x'.off + off + j]? = some u := by
                                intro j u hj
                                have := g4 j u hj
                                rw [Slot.at_add] at this
                                simp only [World.cell?, Slot.at, o1] at this
                                rw [← this]
                                congr 1
                                omega
                              obtain ⟨k1, k2⟩ := hr.app (w' := w') hg hx' off len' z n (old ++ new) hL ⟨x'.blk, x'.off + off, x'.room - off⟩ c2 el fz s2 (by rw [s3]; show x'.off + off + (x'.room - off) ≤ _; omega) (by show _ ≤ x'.room - off; omega)
                                (fun i hi => by
                                  have hi' : i < x'.room - off := hi
                                  have := o4 rfl (off + i) (by omega)
                                  show ¬ (fz.1 ≤ x'.off + off + i ∧ x'.off + off + i < fz.2)
                                  rw [Nat.add_assoc]; exact this) o5
                                (fun E' hE i u hi => by
                                  rw [Tr.get_ofList] at hi
                                  obtain ⟨y, hy, hyr⟩ := hLr.get i u hi
                                  have hil : i < (olds ++ news).length := by
                                    rcases Nat.lt_or_ge i (olds ++ news).length with q | q
                                    · exact q
                                    · rw [List.getElem?_eq_none q] at hy; cases hy
                                  refine ⟨by rw [← hLlen]; exact hil, y, ?_, VR.mono hE u y hyr⟩
                                  show c2[x'.off + off + i]? = _
                                  rw [s4]
                                  rcases Nat.lt_or_ge i olds.length with q | q
                                  · rw [if_neg (by omega)]
                                    rw [List.getElem?_append_left q] at hy
                                    exact hcell i y hy
                                  · rw [List.getElem?_append_right q] at hy
                                    have : i - olds.length < news.length := by rw [List.length_append] at hil; omega
                                    rw [if_pos (by omega), ← hy]
                                    congr 1
                                    omega)
                                (.inr ⟨rfl, rfl, s5, cc, el, fz, o1, rfl, rfl, s3, fun j hj => by rw [s4, if_neg (by omega)]⟩) s7 s8 s9 (by rw [s6]; exact Nat.le_refl _)
                              refine OSound.valE k1 k2 (y := .slice (some (x'.at off)) (len' + n) c') ?_ ?_
                              · refine ⟨_, c', rfl, hge', fun hc => (by cases hc), Nat.le_refl _, rfl, fun _ => ⟨_, Env.with_same _ _ _, rfl, ?_⟩⟩
                                show 0 + c' * z ≤ x'.room - off
                                omega
                              · rw [run_append_room hu hu' hnu hz hlx hf hge']
                                simp only
                                rw [Slot.at_add]
                                have q1' : (storeCells (x'.at (off + len' * z)) news 0).run P w = .ok () w' := s1
                                rw [q1']
                                rfl
            | _ => trivial

theorem s_cpy (hr : HRel E h w) (ht : TRel E tm a.tmps) {c : Call} {t e : TypeId} (hu : P.underlying t = some (.slice e)) {z : Nat} (hz : sizeIn P e = some z) (ho : o.op = .call c) (hc : c.callee = .builtin .copy) {ts : List TypeId} (hat : c.argTypes.toList = t :: ts) {d s : Operand} (ha : c.args = #[d, s])
    {ad as : AX} (hd : opd d = some ad) (hs : opd s = some as) : OSound P E h w (xop P hyp tm h (.cpy z ad as)) ((execOp a.eval o).run P w) := by
  have h1 := opd_spec hr.globs ht hd
  have h2 := opd_spec hr.globs ht hs
  have hat' : c.argTypes[0]? = some t := by rw [← Array.getElem?_toList, hat]; rfl
  have hrun : (execOp a.eval o).run P w = ((Builtin.copy_ c.argTypes o.type #[a.eval d, a.eval s]).run P w).andThen fun v w' => .ok (.value v) w' := by
    rw [run_bi ho hc, ha]
    simp only [builtin, Sem.run_bind, List.map_toArray, List.map_cons, List.map_nil]
    rfl
  rw [hrun]
  simp only [xop]
  cases hva : ev tm ad with
  | nilslice =>
    rw [hva] at h1
    obtain h1 : a.eval d = .slice none 0 0 := h1
    simp only
    cases hln : lenOf (ev tm as) with
    | none => trivial
    | some sl =>
      have hlx := lenOf_spec (P := P) (w := w) h2 hln
      have hfi : firstIn h z 0 (ev tm as) = some [] := by
        cases hq : ev tm as <;> rw [hq] at hln <;> simp only [lenOf, reduceCtorEq] at hln
        · rfl
        · rfl
        · simp only [firstIn]
          rw [show Nat.mul 0 z = 0 from Nat.zero_mul z]
          rfl
      obtain ⟨news, hfall, hnr⟩ := firstIn_spec (P := P) hr h2 hln (Nat.zero_le _) hfi
      have hf := hfall w rfl
      refine OSound.val hr (y := goInt (0 : Nat)) (gi_rel _) ?_
      have hmin : Nat.min sl 0 = 0 := Nat.min_zero sl
      simp [Builtin.copy_, hat', run_underlying hu, h1, hlx, run_sizeOf hz, hmin, hf]
  | slice b off dl cap z' ex =>
    rw [hva] at h1
    obtain ⟨adr, c', h3, h4, h5, h6, h7, h8⟩ := h1
    simp only
    cases hln : lenOf (ev tm as) with
    | none => trivial
    | some sl =>
      have hlx := lenOf_spec (P := P) (w := w) h2 hln
      simp only
      have hmin : (bif Nat.ble sl dl then sl else dl) = Nat.min sl dl := by
        rw [show Nat.min sl dl = if sl ≤ dl then sl else dl from rfl]
        by_cases hle : sl ≤ dl
        · rw [if_pos hle, Nat.ble_eq_true_of_le hle]; rfl
        · rw [if_neg hle]
          cases hb : Nat.ble sl dl with
          | false => rfl
          | true => exact absurd (Nat.le_of_ble_eq_true hb) hle
      rw [hmin]
      cases hfi : firstIn h z (Nat.min sl dl) (ev tm as) with
      | none => trivial
      | some new =>
        simp only
        cases hcnd : (Nat.beq z z' && Nat.beq new.length (Nat.mul (Nat.min sl dl) z)) with
        | false => trivial
        | true =>
          rw [Bool.and_eq_true] at hcnd
          obtain rfl := Nat.eq_of_beq_eq_true hcnd.1
          have hnl : new.length = Nat.min sl dl * z := Nat.eq_of_beq_eq_true hcnd.2
          simp only [cond_true]
          cases hw : h.wrs b off new with
          | none => trivial
          | some h' =>
            simp only
            obtain ⟨news, hfall, hnr⟩ := firstIn_spec (P := P) hr h2 hln (Nat.min_le_left _ _) hfi
            have hf := hfall w rfl
            by_cases hnew : new = []
            · subst hnew
              obtain rfl := hnr.nil_inv
              simp only [AH.wrs, Option.some.injEq] at hw
              subst hw
              refine OSound.val hr (y := goInt (Nat.min sl dl)) (gi_rel _) ?_
              simp [Builtin.copy_, hat', run_underlying hu, h3, hlx, run_sizeOf hz, hf]
              rfl
            · have hn0 : c' ≠ 0 := by
                intro e0
                apply hnew
                apply List.length_eq_zero_iff.1
                have : Nat.min sl dl ≤ dl := Nat.min_le_right _ _
                rw [hnl, show Nat.min sl dl = 0 by omega, Nat.zero_mul]
              obtain ⟨x', hx', rfl, hrm⟩ := h8 hn0
              obtain ⟨w', q1, q2, q3⟩ := hr.wrs P hw hnr x' (fun _ => hx')
              refine OSound.valE q2 q3 (y := goInt (Nat.min sl dl)) (gi_rel _) ?_
              simp [Builtin.copy_, hat', run_underlying hu, h3, hlx, run_sizeOf hz, hf, q1]
  | _ => trivial
end
end Go.Am
