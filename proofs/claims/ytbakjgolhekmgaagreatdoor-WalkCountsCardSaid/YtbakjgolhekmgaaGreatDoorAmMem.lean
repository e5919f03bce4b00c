/- New blocks and writes, in both memories. -/
import Derived.Test.YtbakjgolhekmgaaGreatDoorAmRel
namespace Go.Am

/-- a name more. -/
def Env.with (E : Env) (b : Nat) (x : Slot) : Env := ⟨fun c => if c = b then some x else E.σ c, E.ρ⟩
theorem Env.with_same (E : Env) (b : Nat) (x : Slot) : (E.with b x).σ b = some x := by simp [Env.with]
theorem Env.with_other (E : Env) {b c : Nat} (x : Slot) (h : c ≠ b) : (E.with b x).σ c = E.σ c := by simp [Env.with, h]
theorem Env.le_with {E : Env} {b : Nat} (x : Slot) (h : E.σ b = none) : E.le (E.with b x) :=
  ⟨rfl, fun c y hy => by
    have : c ≠ b := by intro e; subst e; rw [h] at hy; cases hy
    rw [Env.with_other E x this]; exact hy⟩

theorem ORel.mono {E E' : Env} (h : E.le E') {o : AO} {x : Slot} {w w' : World} (hw : w'.heap[x.blk]? = w.heap[x.blk]?) (hr : ORel E o x w) : ORel E' o x w' := by
  cases o with
  | cells t n sh fam co pl ro =>
    obtain ⟨c, el, fz, h1, h2, h3, h4, h5, h6⟩ := hr
    exact ⟨c, el, fz, by rw [hw]; exact h1, h2, h3, h4, h5, fun i v hi => let ⟨g1, y, g2, g3⟩ := h6 i v hi; ⟨g1, y, g2, VR.mono h v y g3⟩⟩
  | map es clock =>
    obtain ⟨h1, es', h2, h3⟩ := hr
    exact ⟨h1, es', by rw [hw]; exact h2, ERel.mono h es _ h3⟩
theorem ORel.lt {E : Env} {o : AO} {x : Slot} {w : World} (hr : ORel E o x w) : x.blk < w.heap.size := by
  have : ∃ y, w.heap[x.blk]? = some y := by
    cases o with
    | cells => obtain ⟨c, el, fz, h1, _⟩ := hr; exact ⟨_, h1⟩
    | map => obtain ⟨_, es', h2, _⟩ := hr; exact ⟨_, h2⟩
  obtain ⟨y, hy⟩ := this
  exact (Array.getElem?_eq_some_iff.1 hy).1

/-- a new block, of which nobody else knows. -/
theorem HRel.mkNew {E : Env} {h : AH} {w : World} (hr : HRel E h w) (o : AO) (ob : Obj) (room : Nat) (hsh : ∀ t n fam co pl ro, o ≠ .cells t n true fam co pl ro)
    (ho : ∀ w' : World, w'.heap[w.heap.size]? = some ob → ORel (E.with h.nx ⟨w.heap.size, 0, room⟩) o ⟨w.heap.size, 0, room⟩ w') :
    HRel (E.with h.nx ⟨w.heap.size, 0, room⟩) (h.mk' o) (w.alloc ob) ∧ Ext E h w (E.with h.nx ⟨w.heap.size, 0, room⟩) (h.mk' o) (w.alloc ob) := by
  have hfr : E.σ h.nx = none := hr.fresh _ (Nat.le_refl _)
  have hle := Env.le_with ⟨w.heap.size, 0, room⟩ hfr
  have hold : ∀ k, k < w.heap.size → (w.alloc ob).heap[k]? = w.heap[k]? := by
    intro k hk
    simp only [World.alloc, Array.getElem?_push]
    rw [if_neg (by omega)]
  have hnew : (w.alloc ob).heap[w.heap.size]? = some ob := by show (w.heap.push ob)[w.heap.size]? = some ob; simp
  have hget : ∀ b, (h.mk' o).t.get b = if b = h.nx then some o else h.t.get b := by
    intro b
    cases h with
    | mk t f nx => exact Tr.get_set t nx b o
  have hf : (h.mk' o).f = h.f := by cases h; rfl
  have hnx : (h.mk' o).nx = h.nx + 1 := by cases h; rfl
  have hno : h.t.get h.nx = none := by
    cases hg : h.t.get h.nx with
    | none => rfl
    | some o' =>
      obtain ⟨x, hx, _⟩ := hr.obj _ _ hg
      rw [hfr] at hx; cases hx
  refine ⟨⟨?_, ?_, ?_, ?_, ?_, ?_⟩, ⟨hle, rfl, rfl, rfl, by show w.heap.size ≤ (w.heap.push ob).size; simp, by rw [hnx]; omega, fun k hk _ => hold k hk, ?_, ?_, fun b hb => Env.with_other _ _ (by omega)⟩⟩
  · intro b o' hb
    rw [hget] at hb
    by_cases e : b = h.nx
    · rw [if_pos e] at hb
      obtain rfl : o = o' := Option.some.inj hb
      subst e
      exact ⟨_, Env.with_same _ _ _, ho _ hnew⟩
    · rw [if_neg e] at hb
      obtain ⟨x, hx, hxr⟩ := hr.obj b o' hb
      exact ⟨x, hle.σ _ _ hx, hxr.mono hle (hold _ hxr.lt)⟩
  · intro b b' o1 o2 x x' hne h1 h2 hx hx' hblk
    rw [hget] at h1 h2
    by_cases e : b = h.nx
    · by_cases e' : b' = h.nx
      · exact absurd (e.trans e'.symm) hne
      · rw [if_neg e'] at h2
        rw [Env.with_other _ _ e'] at hx'
        obtain ⟨y, hy, hyr⟩ := hr.obj b' o2 h2
        rw [hx'] at hy
        obtain rfl : x' = y := Option.some.inj hy
        rw [e, Env.with_same] at hx
        obtain rfl := Option.some.inj hx
        have := hyr.lt
        simp only at hblk
        omega
    · rw [if_neg e] at h1
      rw [Env.with_other _ _ e] at hx
      by_cases e' : b' = h.nx
      · obtain ⟨y, hy, hyr⟩ := hr.obj b o1 h1
        rw [hx] at hy
        obtain rfl : x = y := Option.some.inj hy
        rw [e', Env.with_same] at hx'
        obtain rfl := Option.some.inj hx'
        have := hyr.lt
        simp only at hblk
        omega
      · rw [if_neg e'] at h2
        rw [Env.with_other _ _ e'] at hx'
        exact hr.sep b b' o1 o2 x x' hne h1 h2 hx hx' hblk
  · intro b t n fam co pl ro hb
    rw [hget] at hb
    rw [hf]
    by_cases e : b = h.nx
    · rw [if_pos e] at hb
      exact absurd (Option.some.inj hb) (hsh t n fam co pl ro)
    · rw [if_neg e] at hb
      obtain ⟨g1, g2⟩ := hr.shl b t n fam co pl ro hb
      exact ⟨by rw [hnx]; omega, g2⟩
  · intro b hb
    rw [hnx] at hb
    rw [Env.with_other _ _ (by omega)]
    exact hr.fresh b (by omega)
  · intro g hg
    have := hr.base
    rw [Env.with_other _ _ (by omega)]
    exact hr.glob g hg
  · rw [hnx]; have := hr.base; omega
  · intro b o' x hb hx
    rw [hget] at hb
    by_cases e : b = h.nx
    · rw [e, Env.with_same] at hx
      obtain rfl := Option.some.inj hx
      exact .inl (Nat.le_refl _)
    · rw [if_neg e] at hb
      rw [Env.with_other _ _ e] at hx
      exact .inr ⟨b, o', x, hb, id, hx, rfl⟩
  · intro b hb x hx
    rw [hnx]
    by_cases e : b = h.nx
    · omega
    · rw [Env.with_other _ _ e, hr.fresh b hb] at hx; cases hx

/-- a new row of cells. -/
theorem HRel.newRow {E : Env} {h : AH} {w : World} (hr : HRel E h w) (el : TypeId) (l : List AV) (vs more : List Value) (pl : Bool) (hv : VRs E l vs) (fz : Nat × Nat)
    (hfz : ∀ i, i < vs.length + more.length → ¬ (fz.1 ≤ i ∧ i < fz.2)) (hpl : pl = true → fz.2 = 0) :
    HRel (E.with h.nx ⟨w.heap.size, 0, vs.length + more.length⟩) (h.new l pl) (w.alloc (.cells (vs ++ more).toArray el fz)) ∧
      Ext E h w (E.with h.nx ⟨w.heap.size, 0, vs.length + more.length⟩) (h.new l pl) (w.alloc (.cells (vs ++ more).toArray el fz)) := by
  have hfr : E.σ h.nx = none := hr.fresh _ (Nat.le_refl _)
  have hle := Env.le_with (⟨w.heap.size, 0, vs.length + more.length⟩ : Slot) hfr
  refine hr.mkNew _ _ _ (fun _ _ _ _ _ _ h => by cases h) fun w' hw' => ?_
  refine ⟨_, el, fz, hw', by simp, by rw [← hv.length]; simp, fun _ i hi => by simpa using hfz i hi, hpl, fun i v hi => ?_⟩
  rw [Tr.get_ofList] at hi
  obtain ⟨y, hy, hyr⟩ := hv.get i v hi
  have hlt : i < vs.length := by
    rcases Nat.lt_or_ge i vs.length with h1 | h1
    · exact h1
    · rw [List.getElem?_eq_none h1] at hy; cases hy
  refine ⟨by rw [← hv.length]; exact hlt, y, ?_, VR.mono hle v y hyr⟩
  simp only [Nat.zero_add, List.getElem?_toArray]
  rw [List.getElem?_append_left hlt]; exact hy

theorem HRel.newCells {E : Env} {h : AH} {w : World} (hr : HRel E h w) (el : TypeId) (l : List AV) (cs : Array Value) (hv : VRs E l cs.toList) :
    HRel (E.with h.nx ⟨w.heap.size, 0, cs.size⟩) (h.new l true) (w.alloc (.cells cs el)) ∧ Ext E h w (E.with h.nx ⟨w.heap.size, 0, cs.size⟩) (h.new l true) (w.alloc (.cells cs el)) := by
  have := hr.newRow el l cs.toList [] true hv (0, 0) (fun i _ => by simp) (fun _ => rfl)
  simpa using this

/- writes -/
theorem kill_spec (b lo hi : Nat) : ∀ (ms : List Nat) (t t' : Tr AO) (ms' : List Nat), kill b lo hi ms t = (t', ms') →
    (∀ k o, t'.get k = some o → t.get k = some o) ∧ t'.get b = t.get b ∧
    (∀ k, k ∈ ms → k ≠ b → ∀ ct n sh fam co pl ro, t'.get k = some (.cells ct n sh fam co pl ro) → hi ≤ co ∨ co + n ≤ lo) ∧
    (∀ k, k ∈ ms → (k = b ∨ ∃ ct n sh fam co pl ro, t'.get k = some (.cells ct n sh fam co pl ro)) → k ∈ ms') ∧ (∀ k, k ∈ ms' → k ∈ ms) := by
  intro ms
  induction ms with
  | nil =>
    intro t t' ms' h
    simp only [kill, Prod.mk.injEq] at h
    obtain ⟨rfl, rfl⟩ := h
    exact ⟨fun _ _ h => h, rfl, fun k hk => by simp at hk, fun k hk => by simp at hk, fun k hk => hk⟩
  | cons m ms ih =>
    intro t t' ms' h
    simp only [kill] at h
    cases hk : kill b lo hi ms t with
    | mk t1 ms1 =>
      obtain ⟨a1, a2, a3, a4, a5⟩ := ih t t1 ms1 hk
      rw [hk] at h
      simp only at h
      by_cases e : m = b
      · subst e
        rw [show Nat.beq m m = true from Nat.beq_refl m] at h
        simp only [cond_true, Prod.mk.injEq] at h
        obtain ⟨rfl, rfl⟩ := h
        refine ⟨a1, a2, fun k hm hne => ?_, fun k hm hc => ?_, fun k hm => ?_⟩
        · rcases List.mem_cons.1 hm with rfl | hm
          · exact absurd rfl hne
          · exact a3 k hm hne
        · rcases List.mem_cons.1 hm with rfl | hm
          · exact List.mem_cons_self ..
          · exact List.mem_cons_of_mem _ (a4 k hm hc)
        · rcases List.mem_cons.1 hm with rfl | hm
          · exact List.mem_cons_self ..
          · exact List.mem_cons_of_mem _ (a5 k hm)
      · have hbf : Nat.beq m b = false := by
          cases hh : Nat.beq m b with
          | false => rfl
          | true => exact absurd (Nat.eq_of_beq_eq_true hh) e
        rw [hbf] at h
        simp only [cond_false] at h
        have dead : ∀ (t2 : Tr AO), (∀ k, t2.get k = if k = m then none else t1.get k) →
            (∀ k o, t2.get k = some o → t.get k = some o) ∧ t2.get b = t.get b ∧
            (∀ k, k ∈ m :: ms → k ≠ b → ∀ ct n sh fam co pl ro, t2.get k = some (.cells ct n sh fam co pl ro) → hi ≤ co ∨ co + n ≤ lo) ∧
            (∀ k, k ∈ m :: ms → (k = b ∨ ∃ ct n sh fam co pl ro, t2.get k = some (.cells ct n sh fam co pl ro)) → k ∈ ms1) ∧ (∀ k, k ∈ ms1 → k ∈ m :: ms) := by
          intro t2 ht2
          refine ⟨fun k o ho => ?_, ?_, fun k hm hne ct n sh fam co pl ro hc => ?_, fun k hm hc => ?_, fun k hm => List.mem_cons_of_mem _ (a5 k hm)⟩
          · rw [ht2] at ho
            split at ho
            · cases ho
            · exact a1 k o ho
          · rw [ht2, if_neg (fun h => e h.symm)]; exact a2
          · rw [ht2] at hc
            split at hc
            · cases hc
            · rename_i hkm
              rcases List.mem_cons.1 hm with h9 | hm
              · exact absurd h9 hkm
              · exact a3 k hm hne ct n sh fam co pl ro hc
          · rcases List.mem_cons.1 hm with h9 | hm
            · subst h9
              rcases hc with h8 | ⟨ct, n, sh, fam, co, pl, ro, hc⟩
              · exact absurd h8 e
              · rw [ht2, if_pos rfl] at hc; cases hc
            · refine a4 k hm ?_
              rcases hc with h8 | ⟨ct, n, sh, fam, co, pl, ro, hc⟩
              · exact .inl h8
              · rw [ht2] at hc
                split at hc
                · cases hc
                · exact .inr ⟨ct, n, sh, fam, co, pl, ro, hc⟩
        cases hg : t1.get m with
        | none =>
          simp only [hg, Prod.mk.injEq] at h
          obtain ⟨rfl, rfl⟩ := h
          exact dead t1 fun k => by split <;> simp_all
        | some o =>
          simp only [hg] at h
          cases o with
          | map es clock =>
            simp only [Prod.mk.injEq] at h
            obtain ⟨rfl, rfl⟩ := h
            refine ⟨a1, a2, fun k hm hne ct n sh fam co pl ro hc => ?_, fun k hm hc => ?_, fun k hm => List.mem_cons_of_mem _ (a5 k hm)⟩
            · rcases List.mem_cons.1 hm with h9 | hm
              · subst h9; rw [hg] at hc; cases hc
              · exact a3 k hm hne ct n sh fam co pl ro hc
            · rcases List.mem_cons.1 hm with h9 | hm
              · subst h9
                rcases hc with h8 | ⟨ct, n, sh, fam, co, pl, ro, hc⟩
                · exact absurd h8 e
                · rw [hg] at hc; cases hc
              · exact a4 k hm hc
          | cells ct n sh fam co pl ro =>
            simp only at h
            cases hcond : (Nat.ble hi co || Nat.ble (Nat.add co n) lo) with
            | false =>
              rw [hcond] at h
              simp only [cond_false, Prod.mk.injEq] at h
              obtain ⟨rfl, rfl⟩ := h
              exact dead _ fun k => Tr.get_del t1 m k
            | true =>
              rw [hcond] at h
              simp only [cond_true, Prod.mk.injEq] at h
              obtain ⟨rfl, rfl⟩ := h
              have hc' : hi ≤ co ∨ co + n ≤ lo := by
                rw [Bool.or_eq_true] at hcond
                rcases hcond with h1 | h1
                · exact .inl (Nat.le_of_ble_eq_true h1)
                · exact .inr (Nat.le_of_ble_eq_true h1)
              refine ⟨a1, a2, fun k hm hne ct' n' sh' fam' co' pl' ro' hc => ?_, fun k hm hc => ?_, fun k hm => ?_⟩
              · rcases List.mem_cons.1 hm with h9 | hm
                · subst h9
                  rw [hg] at hc
                  cases hc
                  exact hc'
                · exact a3 k hm hne ct' n' sh' fam' co' pl' ro' hc
              · rcases List.mem_cons.1 hm with rfl | hm
                · exact List.mem_cons_self ..
                · exact List.mem_cons_of_mem _ (a4 k hm hc)
              · rcases List.mem_cons.1 hm with rfl | hm
                · exact List.mem_cons_self ..
                · exact List.mem_cons_of_mem _ (a5 k hm)

/-- a write of a stretch of cells, in the model's memory. -/
theorem run_storeCells (P : Program) : ∀ (vs : List Value) (w : World) (b o i : Nat) (c : Array Value) (el : TypeId) (fz : Nat × Nat), w.heap[b]? = some (.cells c el fz) → o + i + vs.length ≤ c.size →
    (∀ j, j < vs.length → ¬ (fz.1 ≤ o + i + j ∧ o + i + j < fz.2)) → (∀ v ∈ vs, v.oneCell' = true) →
    ∃ w' c', (storeCells ⟨b, o, none⟩ vs i).run P w = .ok () w' ∧ w'.heap[b]? = some (.cells c' el fz) ∧ c'.size = c.size ∧
      (∀ j, c'[j]? = if o + i ≤ j ∧ j < o + i + vs.length then vs[j - (o + i)]? else c[j]?) ∧ (∀ k, k ≠ b → w'.heap[k]? = w.heap[k]?) ∧
      w'.heap.size = w.heap.size ∧ w'.os = w.os ∧ w'.tape = w.tape ∧ w'.output = w.output
  | [], w, b, o, i, c, el, fz, hb, _, _, _ => by
    refine ⟨w, c, rfl, hb, rfl, fun j => ?_, fun _ _ => rfl, rfl, rfl, rfl, rfl⟩
    rw [if_neg]
    simp only [List.length_nil]
    omega
  | v :: vs, w, b, o, i, c, el, fz, hb, hs, hf, ho => by
    simp only [List.length_cons] at hs hf
    have haddr : (⟨b, o, none⟩ : Addr).add i = ⟨b, o + i, none⟩ := by
      unfold Addr.add
      split
      · rename_i h; subst h; rfl
      · rfl
    have hcell : w.cell? ⟨b, o + i, none⟩ = some c[o + i] := by
      simp [World.cell?, hb, Array.getElem?_eq_getElem (show o + i < c.size by omega)]
    have hfz : w.frozen? ⟨b, o + i, none⟩ = false := by
      have := hf 0 (by omega)
      simp only [Nat.add_zero] at this
      simp only [World.frozen?, hb]
      rw [Bool.and_eq_false_iff]
      by_cases h1 : fz.1 ≤ o + i
      · right; simp; omega
      · left; simpa using h1
    have hset : (w.setCell ⟨b, o + i, none⟩ v).heap[b]? = some (.cells (c.setIfInBounds (o + i) v) el fz) := by
      simp [World.setCell, Array.getElem?_modify, hb]
    have hother : ∀ k, k ≠ b → (w.setCell ⟨b, o + i, none⟩ v).heap[k]? = w.heap[k]? := by
      intro k hk
      simp only [World.setCell, Array.getElem?_modify]
      rw [if_neg (fun h => hk h.symm)]
    obtain ⟨w', c', h1, h2, h3, h4, h5, h6, h7, h8, h9⟩ := run_storeCells P vs (w.setCell ⟨b, o + i, none⟩ v) b o (i + 1) (c.setIfInBounds (o + i) v) el fz hset (by simp; omega)
      (fun j hj => by have := hf (j + 1) (by omega); rw [show o + (i + 1) + j = o + i + (j + 1) by omega]; exact this) (fun u hu => ho u (List.mem_cons_of_mem _ hu))
    refine ⟨w', c', ?_, h2, by simpa using h3, fun j => ?_, fun k hk => (h5 k hk).trans (hother k hk), by simpa using h6, h7, h8, h9⟩
    · simp only [storeCells, Sem.run_bind, haddr, run_store P w _ v .plain (ho v (List.mem_cons_self ..)), hcell, hfz, Bool.false_eq_true, if_false, Result.andThen_ok]
      exact h1
    · rw [h4 j]
      simp only [List.length_cons]
      by_cases e1 : o + (i + 1) ≤ j ∧ j < o + (i + 1) + vs.length
      · rw [if_pos e1, if_pos (by omega)]
        rw [show j - (o + i) = (j - (o + (i + 1))) + 1 by omega, List.getElem?_cons_succ]
      · rw [if_neg e1]
        by_cases e2 : j = o + i
        · subst e2
          rw [if_pos (by omega)]
          simp only [Nat.sub_self, List.getElem?_cons_zero]
          rw [Array.getElem?_setIfInBounds_self_of_lt (by omega)]
        · rw [if_neg (by omega), Array.getElem?_setIfInBounds_ne (fun h => e2 h.symm)]

/-- what a write comes to, in both memories. -/
theorem HRel.wrs {E : Env} {h h' : AH} {w : World} (P : Program) (hr : HRel E h w) {b o : Nat} {l : List AV} (hw : h.wrs b o l = some h') {vs : List Value} (hv : VRs E l vs) (x : Slot) (hx : l ≠ [] → E.σ b = some x) :
    ∃ w', (storeCells (x.at o) vs 0).run P w = .ok () w' ∧ HRel E h' w' ∧ Ext E h w E h' w' := by
  cases l with
  | nil =>
    simp only [AH.wrs, Option.some.injEq] at hw
    subst hw
    obtain rfl := hv.nil_inv
    exact ⟨w, rfl, hr, .refl hr⟩
  | cons v l =>
    have hxx := hx (by simp)
    clear hx
    have hx : E.σ b = some x := hxx
    clear hxx
    generalize hl : v :: l = L at *
    have hw' : (match h.t.get b with
      | some (.cells t n sh fam co pl ro) =>
        bif !ro && (Nat.ble (Nat.add o L.length) n && ones L) then
          bif sh then some ((h.kills fam b (Nat.add co o) (Nat.add (Nat.add co o) L.length)).over b (.cells (wrsIn t o L) n sh fam co pl ro))
          else some (h.over b (.cells (wrsIn t o L) n sh fam co pl ro))
        else none
      | _ => none) = some h' := by subst hl; exact hw
    clear hw hl
    cases hg : h.t.get b with
    | none => simp [hg] at hw'
    | some ob =>
      simp only [hg] at hw'
      cases ob with
      | map => simp at hw'
      | cells t n sh fam co pl ro =>
        simp only at hw'
        cases hc : (!ro && (Nat.ble (Nat.add o L.length) n && ones L)) with
        | false => rw [hc] at hw'; simp at hw'
        | true =>
          rw [hc] at hw'
          simp only [cond_true] at hw'
          simp only [Bool.and_eq_true, Bool.not_eq_true'] at hc
          obtain ⟨hro, hble, hones⟩ := hc
          subst hro
          have hlen : o + L.length ≤ n := Nat.le_of_ble_eq_true hble
          obtain ⟨x', hx', ho⟩ := hr.obj b _ hg
          rw [hx] at hx'
          obtain rfl : x = x' := Option.some.inj hx'
          obtain ⟨c, el, fz, h1, h2, h3, h4, h5, h6⟩ := ho
          have hvl := hv.length
          obtain ⟨w', c', s1, s2, s3, s4, s5, s6, s7, s8, s9⟩ := run_storeCells P vs w x.blk (x.off + o) 0 c el fz h1 (by omega)
            (fun j hj => by have := h4 rfl (o + j) (by omega); rw [show x.off + o + 0 + j = x.off + (o + j) by omega]; exact this) (oneCells hv hones)
          -- memory behind it
          have hget : ∃ h1 : AH, h' = h1.over b (.cells (wrsIn t o L) n sh fam co pl false) ∧ (∀ k o', h1.t.get k = some o' → h.t.get k = some o') ∧ h1.t.get b = h.t.get b ∧ h1.nx = h.nx ∧
              (∀ k o' y, k ≠ b → h1.t.get k = some o' → E.σ k = some y → y.blk = x.blk →
                ∃ t' n' co' pl', o' = .cells t' n' true fam co' pl' false ∧ sh = true ∧ x.off + co' = y.off + co ∧ (co + o + L.length ≤ co' ∨ co' + n' ≤ co + o)) ∧
              (∀ k t' n' fam' co' pl' ro', h1.t.get k = some (.cells t' n' true fam' co' pl' ro') → fam' < h.nx ∧ ∃ ms, h1.f.get fam' = some ms ∧ k ∈ ms) := by
            cases sh with
            | false =>
              simp only [cond_false, Option.some.injEq] at hw'
              refine ⟨h, hw'.symm, fun _ _ h => h, rfl, rfl, fun k o' y hk hgk hy hblk => ?_, hr.shl⟩
              obtain ⟨t1, n1, fam1, co1, pl1, t2, n2, co2, pl2, e1, _⟩ := hr.sep b k _ _ x y (fun e => hk e.symm) hg hgk hx hy hblk.symm
              cases e1
            | true =>
              simp only [cond_true, Option.some.injEq] at hw'
              refine ⟨_, hw'.symm, ?_⟩
              obtain ⟨_, ms, hfg, hbm⟩ := hr.shl b t n fam co pl false hg
              cases h with
              | mk th f nx =>
                simp only at hfg
                simp only [AH.kills, hfg]
                cases hk2 : kill b (Nat.add co o) (Nat.add (Nat.add co o) L.length) ms th with
                | mk t1 ms1 =>
                  obtain ⟨a1, a2, a3, a4, a5⟩ := kill_spec _ _ _ _ _ _ _ hk2
                  simp only
                  refine ⟨a1, a2, by first | trivial | rfl, fun k o' y hk hgk hy hblk => ?_, fun k t' n' fam' co' pl' ro' hk => ?_⟩
                  · obtain ⟨t1', n1, fam1, co1, pl1, t2, n2, co2, pl2, e1, e2, e3⟩ := hr.sep b k _ _ x y (fun e => hk e.symm) hg (a1 k o' hgk) hx hy hblk.symm
                    cases e1
                    subst e2
                    obtain ⟨_, ms', e4, e5⟩ := hr.shl k _ _ _ _ _ _ (a1 k _ hgk)
                    simp only at e4
                    rw [hfg] at e4
                    obtain rfl : ms = ms' := Option.some.inj e4
                    exact ⟨t2, n2, co2, pl2, rfl, by first | trivial | rfl, e3, a3 k e5 hk _ _ _ _ _ _ _ hgk⟩
                  · obtain ⟨e0, ms', e4, e5⟩ := hr.shl k _ _ _ _ _ _ (a1 k _ hk)
                    simp only at e4
                    by_cases ef : fam' = fam
                    · subst ef
                      rw [hfg] at e4
                      obtain rfl : ms = ms' := Option.some.inj e4
                      exact ⟨e0, ms1, Tr.get_set_same _ _ _, a4 k e5 (.inr ⟨_, _, _, _, _, _, _, hk⟩)⟩
                    · exact ⟨e0, ms', by rw [Tr.get_set_other _ _ ef]; exact e4, e5⟩
          obtain ⟨h1', rfl, q1, q1b, q2, q3, q4⟩ := hget
          have hov : ∀ k, (h1'.over b (.cells (wrsIn t o L) n sh fam co pl false)).t.get k = if k = b then some (.cells (wrsIn t o L) n sh fam co pl false) else h1'.t.get k := by
            intro k; cases h1'; exact Tr.get_set _ _ _ _
          have hovf : (h1'.over b (.cells (wrsIn t o L) n sh fam co pl false)).f = h1'.f := by cases h1'; rfl
          have hovn : (h1'.over b (.cells (wrsIn t o L) n sh fam co pl false)).nx = h.nx := by rw [← q2]; cases h1'; rfl
          have hcrel : CRel E (wrsIn t o L) n x c' := by
            intro i v hi
            rw [get_wrsIn] at hi
            by_cases e : o ≤ i ∧ i < o + L.length
            · rw [if_pos e] at hi
              obtain ⟨y, hy, hyr⟩ := hv.get _ _ hi
              refine ⟨by omega, y, ?_, hyr⟩
              rw [s4, if_pos (by omega)]
              rw [show x.off + i - (x.off + o + 0) = i - o by omega]; exact hy
            · rw [if_neg e] at hi
              obtain ⟨g1, y, g2, g3⟩ := h6 i v hi
              refine ⟨g1, y, ?_, g3⟩
              rw [s4, if_neg (by omega)]; exact g2
          refine ⟨w', s1, ⟨?_, ?_, ?_, ?_, hr.glob, by rw [hovn]; exact hr.base⟩, ⟨.refl E, s7, s8, s9, by rw [s6]; exact Nat.le_refl _, by rw [hovn]; exact Nat.le_refl _, ?_, ?_, ?_, fun _ _ => rfl⟩⟩
          · intro k o' hk
            rw [hov] at hk
            by_cases e : k = b
            · rw [if_pos e] at hk
              obtain rfl := Option.some.inj hk
              subst e
              exact ⟨x, hx, c', el, fz, s2, by rw [s3]; exact h2, h3, h4, h5, hcrel⟩
            · rw [if_neg e] at hk
              obtain ⟨y, hy, hyr⟩ := hr.obj k o' (q1 k o' hk)
              refine ⟨y, hy, ?_⟩
              by_cases eb : y.blk = x.blk
              · obtain ⟨t', n', co', pl', rfl, _, e3, e4⟩ := q3 k o' y e hk hy eb
                obtain ⟨cc, el', fz', g1, g2, g3, g4, g5, g6⟩ := hyr
                rw [eb, h1] at g1
                cases g1
                refine ⟨c', el, fz, by rw [eb]; exact s2, by rw [s3]; exact g2, g3, g4, g5, fun i v hi => ?_⟩
                obtain ⟨f1, u, f2, f3⟩ := g6 i v hi
                refine ⟨f1, u, ?_, f3⟩
                rw [s4, if_neg (by omega)]; exact f2
              · exact hyr.mono (.refl E) (s5 _ eb)
          · intro k k' o1 o2 y y' hne g1 g2 hy hy' hblk
            have old : ∀ z oz, (h1'.over b (.cells (wrsIn t o L) n sh fam co pl false)).t.get z = some oz → ∃ oz', h.t.get z = some oz' ∧
                (oz' = oz ∨ (oz' = .cells t n sh fam co pl false ∧ oz = .cells (wrsIn t o L) n sh fam co pl false)) := by
              intro z oz hz
              rw [hov] at hz
              by_cases e : z = b
              · rw [if_pos e] at hz
                subst e
                exact ⟨_, hg, .inr ⟨rfl, (Option.some.inj hz).symm⟩⟩
              · rw [if_neg e] at hz
                exact ⟨oz, q1 z oz hz, .inl rfl⟩
            obtain ⟨o1', a1, a2⟩ := old k o1 g1
            obtain ⟨o2', b1, b2⟩ := old k' o2 g2
            obtain ⟨t1', n1, fam1, co1, pl1, t2, n2, co2, pl2, e1, e2, e3⟩ := hr.sep k k' _ _ y y' hne a1 b1 hy hy' hblk
            subst e1 e2
            have c1 : ∃ t3, o1 = .cells t3 n1 true fam1 co1 pl1 false := by
              rcases a2 with h9 | ⟨h9, h8⟩
              · exact ⟨_, h9.symm⟩
              · cases h9; exact ⟨_, h8⟩
            have c2 : ∃ t3, o2 = .cells t3 n2 true fam1 co2 pl2 false := by
              rcases b2 with h9 | ⟨h9, h8⟩
              · exact ⟨_, h9.symm⟩
              · cases h9; exact ⟨_, h8⟩
            obtain ⟨t3, rfl⟩ := c1
            obtain ⟨t4, rfl⟩ := c2
            exact ⟨t3, n1, fam1, co1, pl1, t4, n2, co2, pl2, rfl, rfl, e3⟩
          · intro k t' n' fam' co' pl' ro' hk
            rw [hov] at hk
            rw [hovf, hovn]
            by_cases e : k = b
            · rw [if_pos e] at hk
              have hk' := Option.some.inj hk
              cases hk'
              subst e
              exact q4 k t n fam co pl false (by rw [q1b]; exact hg)
            · rw [if_neg e] at hk
              exact q4 k _ _ _ _ _ _ hk
          · intro k hk
            rw [hovn] at hk
            exact hr.fresh k hk
          · intro k hk hn
            exact s5 k fun e => hn b _ x hg rfl hx e.symm
          · intro k o' y hk hy
            rw [hov] at hk
            by_cases e : k = b
            · subst e
              rw [hx] at hy
              obtain rfl : x = y := Option.some.inj hy
              exact .inr ⟨k, _, x, hg, fun _ => rfl, hx, rfl⟩
            · rw [if_neg e] at hk
              exact .inr ⟨k, o', y, q1 _ _ hk, id, hy, rfl⟩
          · intro k hk y hy
            rw [hr.fresh k hk] at hy; cases hy

end Go.Am
