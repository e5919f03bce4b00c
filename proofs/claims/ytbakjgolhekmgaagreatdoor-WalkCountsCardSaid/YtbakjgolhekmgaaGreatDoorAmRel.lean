/- What an abstract value, and abstract memory, says of the model's: the relation, and that it outlives reads, new blocks and writes. -/
import Derived.Test.YtbakjgolhekmgaaGreatDoorAmTr
import Derived.Laws.Sem
import Derived.Laws.World
namespace Go.Am

structure Slot where
  blk : Nat
  off : Nat
  room : Nat
structure Env where
  σ : Nat → Option Slot
  ρ : Nat → Int
def Slot.at (x : Slot) (o : Nat) : Addr := ⟨x.blk, x.off + o, none⟩

mutual
def VR (E : Env) : AV → Value → Prop
  | .bot, _ => True
  | .bool b, v => v = .bool b
  | .int k a, v => v = .int k (a.den E.ρ)
  | .str s n, v => ∃ bs : ByteArray, v = .string bs ∧ enc bs.data.toList = s ∧ bs.data.toList.length = n
  | .nilptr, v => v = .pointer none
  | .ptr b o, v => ∃ x, E.σ b = some x ∧ v = .pointer (some (x.at o))
  | .nilslice, v => v = .slice none 0 0
  | .slice b o len cap z ex, v => ∃ a c, v = .slice (some a) len c ∧ cap ≤ c ∧ (ex = true → c = cap) ∧ len ≤ cap ∧ a.spot = none ∧ (c ≠ 0 → ∃ x, E.σ b = some x ∧ a = x.at o ∧ o + c * z ≤ x.room)
  | .nilmap, v => v = .map none
  | .map b, v => ∃ x, E.σ b = some x ∧ v = .map (some x.blk)
  | .func fn xs ys, v => ∃ a b, v = .func fn a b ∧ VRs E xs a.toList ∧ VRs E ys b.toList
  | .nilfunc, v => v = .nilFunc
  | .iface t x, v => ∃ y, v = .iface t y ∧ VR E x y
  | .nilface, v => v = .nilIface
  | .agg xs, v => ∃ a, v = .agg a ∧ VRs E xs a.toList
  | .tup xs, v => ∃ a, v = .tuple a ∧ VRs E xs a.toList
def VRs (E : Env) : List AV → List Value → Prop
  | [], vs => vs = []
  | x :: xs, vs => ∃ y ys, vs = y :: ys ∧ VR E x y ∧ VRs E xs ys
end

/-- more is known of names. -/
structure Env.le (E E' : Env) : Prop where
  ρ : E'.ρ = E.ρ
  σ : ∀ b x, E.σ b = some x → E'.σ b = some x
theorem Env.le.refl (E : Env) : E.le E := ⟨rfl, fun _ _ h => h⟩
theorem Env.le.trans {A B C : Env} (h : A.le B) (k : B.le C) : A.le C := ⟨k.ρ.trans h.ρ, fun b x hx => k.σ b x (h.σ b x hx)⟩

mutual
theorem VR.mono {E E' : Env} (h : E.le E') : ∀ (a : AV) (v : Value), VR E a v → VR E' a v
  | .bot, _, _ => trivial
  | .bool _, _, hv => hv
  | .int k a, v, hv => by
    have : v = .int k (a.den E.ρ) := hv
    show v = .int k (a.den E'.ρ)
    rw [h.ρ]; exact this
  | .str _ _, _, hv => hv
  | .nilptr, _, hv => hv
  | .ptr _ _, _, ⟨x, hx, hv⟩ => ⟨x, h.σ _ _ hx, hv⟩
  | .nilslice, _, hv => hv
  | .slice _ _ _ _ _ _, _, ⟨a, c, h1, h2, h3, h4, h5, h6⟩ => ⟨a, c, h1, h2, h3, h4, h5, fun hc => let ⟨x, hx, r⟩ := h6 hc; ⟨x, h.σ _ _ hx, r⟩⟩
  | .nilmap, _, hv => hv
  | .map _, _, ⟨x, hx, hv⟩ => ⟨x, h.σ _ _ hx, hv⟩
  | .func _ xs ys, _, ⟨a, b, hv, h1, h2⟩ => ⟨a, b, hv, VRs.mono h xs _ h1, VRs.mono h ys _ h2⟩
  | .nilfunc, _, hv => hv
  | .iface _ x, _, ⟨y, hv, h1⟩ => ⟨y, hv, VR.mono h x _ h1⟩
  | .nilface, _, hv => hv
  | .agg xs, _, ⟨a, hv, h1⟩ => ⟨a, hv, VRs.mono h xs _ h1⟩
  | .tup xs, _, ⟨a, hv, h1⟩ => ⟨a, hv, VRs.mono h xs _ h1⟩
theorem VRs.mono {E E' : Env} (h : E.le E') : ∀ (a : List AV) (v : List Value), VRs E a v → VRs E' a v
  | [], _, hv => hv
  | x :: xs, _, ⟨y, ys, hv, h1, h2⟩ => ⟨y, ys, hv, VR.mono h x y h1, VRs.mono h xs ys h2⟩
end

section
variable {E : Env}
theorem VRs.nil : VRs E [] [] := rfl
theorem VRs.cons {x : AV} {xs : List AV} {y : Value} {ys : List Value} (h : VR E x y) (hs : VRs E xs ys) : VRs E (x :: xs) (y :: ys) := ⟨y, ys, rfl, h, hs⟩
theorem VRs.nil_inv {vs : List Value} (h : VRs E [] vs) : vs = [] := h
theorem VRs.cons_inv {x : AV} {xs : List AV} {vs : List Value} (h : VRs E (x :: xs) vs) : ∃ y ys, vs = y :: ys ∧ VR E x y ∧ VRs E xs ys := h
theorem VRs.length : ∀ {xs : List AV} {vs : List Value}, VRs E xs vs → vs.length = xs.length
  | [], _, h => by rw [VRs.nil_inv h]; rfl
  | _ :: _, _, h => by
    obtain ⟨y, ys, rfl, _, h2⟩ := VRs.cons_inv h
    simp [VRs.length h2]
theorem VRs.append : ∀ {xs xs' : List AV} {vs vs' : List Value}, VRs E xs vs → VRs E xs' vs' → VRs E (xs ++ xs') (vs ++ vs')
  | [], _, _, _, h, h' => by rw [VRs.nil_inv h]; exact h'
  | _ :: _, _, _, _, h, h' => by
    obtain ⟨y, ys, rfl, h1, h2⟩ := VRs.cons_inv h
    exact VRs.cons h1 (VRs.append h2 h')
theorem VRs.get : ∀ {xs : List AV} {vs : List Value}, VRs E xs vs → ∀ (i : Nat) (a : AV), xs[i]? = some a → ∃ v, vs[i]? = some v ∧ VR E a v
  | [], _, _, i, a, hi => by simp at hi
  | x :: xs, _, h, i, a, hi => by
    obtain ⟨y, ys, rfl, h1, h2⟩ := VRs.cons_inv h
    cases i with
    | zero =>
      simp only [List.getElem?_cons_zero, Option.some.injEq] at hi
      subst hi
      exact ⟨y, rfl, h1⟩
    | succ i =>
      simp only [List.getElem?_cons_succ] at hi ⊢
      exact VRs.get h2 i a hi
theorem VRs.mk : ∀ {xs : List AV} {vs : List Value}, vs.length = xs.length → (∀ (i : Nat) (a : AV), xs[i]? = some a → ∃ v, vs[i]? = some v ∧ VR E a v) → VRs E xs vs
  | [], vs, h, _ => by
    have : vs = [] := List.length_eq_zero_iff.1 h
    exact this
  | x :: xs, vs, h, hg => by
    cases vs with
    | nil => simp at h
    | cons y ys =>
      obtain ⟨v, hv, hr⟩ := hg 0 x rfl
      simp only [List.getElem?_cons_zero, Option.some.injEq] at hv
      subst hv
      exact VRs.cons hr (VRs.mk (by simpa using h) fun i a hi => hg (i + 1) a (by simpa using hi))
theorem VRs.take {xs : List AV} {vs : List Value} (h : VRs E xs vs) (n : Nat) : VRs E (xs.take n) (vs.take n) := by
  refine VRs.mk (by simp [h.length]) fun i a hi => ?_
  rw [List.getElem?_take] at hi ⊢
  split at hi
  · rename_i hlt; rw [if_pos hlt]; exact h.get i a hi
  · cases hi
theorem VRs.drop {xs : List AV} {vs : List Value} (h : VRs E xs vs) (n : Nat) : VRs E (xs.drop n) (vs.drop n) := by
  refine VRs.mk (by simp [h.length]) fun i a hi => ?_
  rw [List.getElem?_drop] at hi ⊢
  exact h.get _ a hi
end

theorem nth_eq : ∀ (l : List AV) (i : Nat), nth l i = l[i]?
  | [], i => by simp [nth]
  | v :: l, 0 => rfl
  | v :: l, i + 1 => by rw [List.getElem?_cons_succ]; exact nth_eq l i

theorem VR.one {E : Env} {a : AV} {y : Value} (h1 : a.one = true) (h : VR E a y) : y.oneCell' = true := by
  cases a <;> simp only [AV.one, Bool.false_eq_true] at h1
  case bool b => obtain rfl : y = _ := h; rfl
  case int k a => obtain rfl : y = _ := h; rfl
  case str s n => obtain ⟨bs, rfl, _⟩ := h; rfl
  case nilptr => obtain rfl : y = _ := h; rfl
  case ptr b o => obtain ⟨x, _, rfl⟩ := h; rfl
  case nilslice => obtain rfl : y = _ := h; rfl
  case slice => obtain ⟨a, c, rfl, _⟩ := h; rfl
  case nilmap => obtain rfl : y = _ := h; rfl
  case map => obtain ⟨x, _, rfl⟩ := h; rfl
  case func => obtain ⟨a, c, rfl, _⟩ := h; rfl
  case nilfunc => obtain rfl : y = _ := h; rfl
  case iface => obtain ⟨a, rfl, _⟩ := h; rfl
  case nilface => obtain rfl : y = _ := h; rfl
theorem cells_of_one {y : Value} (h : y.oneCell' = true) : y.cells = #[y] := by cases y <;> first | rfl | (simp [Value.oneCell'] at h)
/-- the cells of a value: but of one that is not known. -/
theorem VR.cells {E : Env} {a : AV} {y : Value} (h : VR E a y) (hb : a.one = true ∨ ∃ cs, a = .agg cs) : VRs E a.cells y.cells.toList := by
  rcases hb with hb | ⟨cs, rfl⟩
  · have h1 := VR.one hb h
    rw [cells_of_one h1]
    cases a <;> first | exact VRs.cons h VRs.nil | (simp [AV.one] at hb)
  · obtain ⟨a, rfl, h2⟩ := h
    exact h2
theorem ones_all : ∀ {l : List AV}, ones l = true → ∀ a ∈ l, a.one = true
  | [], _, _, h => by cases h
  | v :: l, h, a, ha => by
    simp only [ones, Bool.and_eq_true] at h
    rcases List.mem_cons.1 ha with rfl | h2
    · exact h.1
    · exact ones_all h.2 a h2
/-- where all cells are such of one cell each, the value is known. -/
theorem VR.cells_ones {E : Env} {a : AV} {y : Value} (h : VR E a y) (ho : ones a.cells = true) : VRs E a.cells y.cells.toList := by
  refine h.cells ?_
  cases a <;> first | exact .inl rfl | exact .inr ⟨_, rfl⟩ | (simp [AV.cells, ones, AV.one] at ho)
theorem oneCells {E : Env} : ∀ {l : List AV} {vs : List Value}, VRs E l vs → ones l = true → ∀ v ∈ vs, v.oneCell' = true
  | [], _, h, _, v, hv => by rw [VRs.nil_inv h] at hv; cases hv
  | _ :: _, _, h, ho, v, hv => by
    obtain ⟨y, ys, rfl, h1, h2⟩ := VRs.cons_inv h
    simp only [ones, Bool.and_eq_true] at ho
    rcases List.mem_cons.1 hv with rfl | hv
    · exact VR.one ho.1 h1
    · exact oneCells h2 ho.2 v hv

/- memory -/
def AO.ro : AO → Bool
  | .cells _ _ _ _ _ _ ro => ro
  | .map _ _ => false
def ERel (E : Env) : List (AV × AV × Nat) → List MapEntry → Prop
  | [], es => es = []
  | (k, v, n) :: l, es => ∃ e es', es = e :: es' ∧ VR E k e.key ∧ VR E v e.val ∧ e.born = n ∧ ERel E l es'
theorem ERel.mono {E E' : Env} (h : E.le E') : ∀ (l : List (AV × AV × Nat)) (es : List MapEntry), ERel E l es → ERel E' l es
  | [], _, he => he
  | (_, _, _) :: l, _, ⟨e, es', he, h1, h2, h3, h4⟩ => ⟨e, es', he, VR.mono h _ _ h1, VR.mono h _ _ h2, h3, ERel.mono h l es' h4⟩
/-- cells as they are known. -/
def CRel (E : Env) (t : Tr AV) (n : Nat) (x : Slot) (c : Array Value) : Prop := ∀ i v, t.get i = some v → i < n ∧ ∃ y, c[x.off + i]? = some y ∧ VR E v y
def ORel (E : Env) (o : AO) (x : Slot) (w : World) : Prop :=
  match o with
  | .cells t n _ _ _ pl ro => ∃ c el fz, w.heap[x.blk]? = some (.cells c el fz) ∧ x.off + x.room ≤ c.size ∧ n ≤ x.room ∧
      (ro = false → ∀ i, i < x.room → ¬ (fz.1 ≤ x.off + i ∧ x.off + i < fz.2)) ∧ (pl = true → fz.2 = 0) ∧ CRel E t n x c
  | .map es clock => x.off = 0 ∧ ∃ es', w.heap[x.blk]? = some (.map es' clock) ∧ ERel E es es'.toList
def Kin (o o' : AO) (x x' : Slot) : Prop :=
  ∃ t n fam co pl t' n' co' pl', o = .cells t n true fam co pl false ∧ o' = .cells t' n' true fam co' pl' false ∧ x.off + co' = x'.off + co
structure HRel (E : Env) (h : AH) (w : World) : Prop where
  obj : ∀ b o, h.t.get b = some o → ∃ x, E.σ b = some x ∧ ORel E o x w
  sep : ∀ b b' o o' x x', b ≠ b' → h.t.get b = some o → h.t.get b' = some o' → E.σ b = some x → E.σ b' = some x' → x.blk = x'.blk → Kin o o' x x'
  shl : ∀ b t n fam co pl ro, h.t.get b = some (.cells t n true fam co pl ro) → fam < h.nx ∧ ∃ ms, h.f.get fam = some ms ∧ b ∈ ms
  fresh : ∀ b, h.nx ≤ b → E.σ b = none
  glob : ∀ g, g < 4096 → ∃ r, E.σ g = some ⟨g, 0, r⟩
  base : 4096 ≤ h.nx

/-- from a state to a later one: nothing but what is named was written. -/
structure Ext (E : Env) (h : AH) (w : World) (E' : Env) (h' : AH) (w' : World) : Prop where
  le : E.le E'
  os : w'.os = w.os
  tape : w'.tape = w.tape
  output : w'.output = w.output
  size : w.heap.size ≤ w'.heap.size
  nx : h.nx ≤ h'.nx
  keep : ∀ k, k < w.heap.size → (∀ b o x, h.t.get b = some o → o.ro = false → E.σ b = some x → x.blk ≠ k) → w'.heap[k]? = w.heap[k]?
  org : ∀ b o x, h'.t.get b = some o → E'.σ b = some x → w.heap.size ≤ x.blk ∨ ∃ b0 o0 x0, h.t.get b0 = some o0 ∧ (o.ro = false → o0.ro = false) ∧ E.σ b0 = some x0 ∧ x0.blk = x.blk
  new : ∀ b, h.nx ≤ b → ∀ x, E'.σ b = some x → b < h'.nx
  low : ∀ b, b < h.nx → E'.σ b = E.σ b
theorem Ext.refl {E : Env} {h : AH} {w : World} (hr : HRel E h w) : Ext E h w E h w :=
  ⟨.refl E, rfl, rfl, rfl, Nat.le_refl _, Nat.le_refl _, fun _ _ _ => rfl, fun b o x h1 h3 => .inr ⟨b, o, x, h1, id, h3, rfl⟩, fun b hb x hx => (by rw [hr.fresh b hb] at hx; cases hx), fun _ _ => rfl⟩
theorem Ext.trans {E E' E'' : Env} {h h' h'' : AH} {w w' w'' : World} (a : Ext E h w E' h' w') (b : Ext E' h' w' E'' h'' w'') : Ext E h w E'' h'' w'' where
  le := a.le.trans b.le
  os := b.os.trans a.os
  tape := b.tape.trans a.tape
  output := b.output.trans a.output
  size := Nat.le_trans a.size b.size
  nx := Nat.le_trans a.nx b.nx
  keep := fun k hk hn => by
    rw [b.keep k (Nat.lt_of_lt_of_le hk a.size), a.keep k hk hn]
    intro c o x h1 h2 h3
    rcases a.org c o x h1 h3 with h4 | ⟨b0, o0, x0, g1, g2, g3, g4⟩
    · omega
    · rw [← g4]; exact hn b0 o0 x0 g1 (g2 h2) g3
  org := fun c o x h1 h3 => by
    rcases b.org c o x h1 h3 with h4 | ⟨b0, o0, x0, g1, g2, g3, g4⟩
    · exact .inl (Nat.le_trans a.size h4)
    · rcases a.org b0 o0 x0 g1 g3 with h5 | ⟨b1, o1, x1, k1, k2, k3, k4⟩
      · exact .inl (by rw [← g4]; exact h5)
      · exact .inr ⟨b1, o1, x1, k1, fun h => k2 (g2 h), k3, k4.trans g4⟩
  new := fun c hc x hx => by
    rcases Nat.lt_or_ge c h'.nx with h1 | h1
    · refine Nat.lt_of_lt_of_le h1 b.nx
    · exact b.new c h1 x hx
  low := fun c hc => (b.low c (Nat.lt_of_lt_of_le hc a.nx)).trans (a.low c hc)

theorem HRel.drew {E : Env} {h : AH} {w : World} (hr : HRel E h w) : HRel E h w.drew := ⟨hr.obj, hr.sep, hr.shl, hr.fresh, hr.glob, hr.base⟩
theorem Ext.drew {E : Env} {h : AH} {w : World} (hr : HRel E h w) : Ext E h w E h w.drew :=
  ⟨.refl E, rfl, rfl, rfl, Nat.le_refl _, Nat.le_refl _, fun _ _ _ => rfl, fun b o x h1 h3 => .inr ⟨b, o, x, h1, id, h3, rfl⟩, fun b hb x hx => (by rw [hr.fresh b hb] at hx; cases hx), fun _ _ => rfl⟩

/- reads -/
theorem cell_of {E : Env} {t : Tr AV} {n : Nat} {sh : Bool} {fam co : Nat} {pl ro : Bool} {x : Slot} {w : World} (h : ORel E (.cells t n sh fam co pl ro) x w) {i : Nat} {v : AV} (hi : t.get i = some v) :
    ∃ y, w.cell? (x.at i) = some y ∧ VR E v y := by
  obtain ⟨c, el, fz, h1, _, _, _, _, h2⟩ := h
  obtain ⟨_, y, hy, hr⟩ := h2 i v hi
  refine ⟨y, ?_, hr⟩
  simp [World.cell?, Slot.at, h1, hy]
theorem HRel.rd {E : Env} {h : AH} {w : World} (hr : HRel E h w) {b o : Nat} {v : AV} (hv : h.rd b o = some v) : ∃ x y, E.σ b = some x ∧ w.cell? (x.at o) = some y ∧ VR E v y := by
  unfold AH.rd at hv
  cases h with
  | mk t f nx =>
    simp only at hv
    cases hg : t.get b with
    | none => simp [hg] at hv
    | some ob =>
      simp only [hg] at hv
      cases ob with
      | map => simp at hv
      | cells ct n sh fam co pl ro =>
        obtain ⟨x, hx, ho⟩ := hr.obj b _ hg
        obtain ⟨y, h1, h2⟩ := cell_of ho hv
        exact ⟨x, y, hx, h1, h2⟩
theorem HRel.rds {E : Env} {h : AH} {w : World} (hr : HRel E h w) {b o k : Nat} {l : List AV} (hv : h.rds b o k = some l) :
    l.length = k ∧ ∀ i a, l[i]? = some a → ∃ x y, E.σ b = some x ∧ w.cell? (x.at (o + i)) = some y ∧ VR E a y := by
  cases k with
  | zero =>
    simp only [AH.rds, Option.some.injEq] at hv
    subst hv
    exact ⟨rfl, fun i a hi => by simp at hi⟩
  | succ k =>
    cases h with
    | mk t f nx =>
      simp only [AH.rds] at hv
      cases hg : t.get b with
      | none => simp [hg] at hv
      | some ob =>
        simp only [hg] at hv
        cases ob with
        | map => simp at hv
        | cells ct n sh fam co pl ro =>
          obtain ⟨h1, h2⟩ := rdsIn_spec _ _ _ _ hv
          refine ⟨h1, fun i a hi => ?_⟩
          have hlt : i < k + 1 := by
            rcases Nat.lt_or_ge i (k + 1) with h3 | h3
            · exact h3
            · rw [List.getElem?_eq_none (by omega)] at hi; cases hi
          have := h2 i hlt
          rw [hi] at this
          obtain ⟨x, hx, ho⟩ := hr.obj b _ hg
          obtain ⟨y, h4, h5⟩ := cell_of ho this
          exact ⟨x, y, hx, h4, h5⟩

/-- loading a stretch of cells. -/
theorem run_loadCellsFrom (P : Program) (w : World) (a : Addr) : ∀ (k i : Nat) (acc : Array Value) (vs : List Value), vs.length = k → (∀ j v, vs[j]? = some v → w.cell? (a.add (i + j)) = some v) →
    (loadCellsFrom a i k acc).run P w = .ok (acc ++ vs.toArray) w
  | 0, i, acc, vs, hl, _ => by
    obtain rfl : vs = [] := List.length_eq_zero_iff.1 hl
    simp [loadCellsFrom]
  | k + 1, i, acc, vs, hl, hc => by
    cases vs with
    | nil => simp at hl
    | cons v vs =>
      have h0 := hc 0 v rfl
      simp only [Nat.add_zero] at h0
      simp only [loadCellsFrom, Sem.run_bind, run_load, h0, Result.andThen_ok]
      rw [run_loadCellsFrom P w a k (i + 1) (acc.push v) vs (by simpa using hl) (fun j u hj => by
        have := hc (j + 1) u (by simpa using hj)
        rw [show i + 1 + j = i + (j + 1) by omega]; exact this)]
      congr 1
      apply Array.ext'
      simp
theorem run_loadCells (P : Program) (w : World) (a : Addr) (k : Nat) (vs : List Value) (hl : vs.length = k) (hc : ∀ j v, vs[j]? = some v → w.cell? (a.add j) = some v) :
    (loadCells a k).run P w = .ok vs.toArray w := by
  have := run_loadCellsFrom P w a k 0 #[] vs hl (fun j v hj => by rw [Nat.zero_add]; exact hc j v hj)
  simpa [loadCells] using this
theorem Slot.at_add (x : Slot) (o i : Nat) : (x.at o).add i = x.at (o + i) := by
  unfold Addr.add Slot.at
  split
  · rename_i h; subst h; rfl
  · rw [Nat.add_assoc]

/-- the model's values of cells that are known. -/
theorem HRel.vals {E : Env} {h : AH} {w : World} (hr : HRel E h w) {b o k : Nat} {l : List AV} (hv : h.rds b o k = some l) {x : Slot} (hx : E.σ b = some x) :
    ∃ vs : List Value, vs.length = k ∧ VRs E l vs ∧ ∀ j v, vs[j]? = some v → w.cell? ((x.at o).add j) = some v := by
  obtain ⟨hl, hg⟩ := hr.rds hv
  have key : ∀ m (l' : List AV), (∀ i a, l'[i]? = some a → l[m + i]? = some a) → ∃ vs : List Value, vs.length = l'.length ∧ VRs E l' vs ∧ ∀ j v, vs[j]? = some v → w.cell? ((x.at o).add (m + j)) = some v := by
    intro m l'
    induction l' generalizing m with
    | nil => exact fun _ => ⟨[], rfl, rfl, fun j v hj => by simp at hj⟩
    | cons a l' ih =>
      intro hh
      obtain ⟨vs, h1, h2, h3⟩ := ih (m + 1) fun i a hi => by rw [show m + 1 + i = m + (i + 1) by omega]; exact hh (i + 1) a (by simpa using hi)
      obtain ⟨x', y, hx', hy, hr'⟩ := hg m a (by have := hh 0 a rfl; simpa using this)
      rw [hx] at hx'
      obtain rfl : x = x' := Option.some.inj hx'
      refine ⟨y :: vs, by simp [h1], VRs.cons hr' h2, fun j v hj => ?_⟩
      cases j with
      | zero =>
        simp only [List.getElem?_cons_zero, Option.some.injEq] at hj
        subst hj
        rw [Nat.add_zero, Slot.at_add]; exact hy
      | succ j =>
        rw [show m + (j + 1) = m + 1 + j by omega]
        exact h3 j v (by simpa using hj)
  obtain ⟨vs, h1, h2, h3⟩ := key 0 l (fun i a hi => by rw [Nat.zero_add]; exact hi)
  exact ⟨vs, by omega, h2, fun j v hj => by have := h3 j v hj; rwa [Nat.zero_add] at this⟩

end Go.Am
