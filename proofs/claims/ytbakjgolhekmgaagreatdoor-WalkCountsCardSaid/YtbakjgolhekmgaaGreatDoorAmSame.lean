/- Are two states the same? By evaluation, but for what is to be done. -/
import Derived.Test.YtbakjgolhekmgaaGreatDoorAmCall
namespace Go.Am

def bB (a b : Bool) : Bool := bif a then b else !b
def kN (k : IntKind) : Nat := match k with
  | .i8 => 0 | .i16 => 1 | .i32 => 2 | .i64 => 3 | .u8 => 4 | .u16 => 5 | .u32 => 6 | .u64 => 7
def kB (k k' : IntKind) : Bool := Nat.beq (kN k) (kN k')
def SX.eqB : SX → SX → Bool
  | .var i, .var j => Nat.beq i j
  | .lit n, .lit m => ieq n m
  | .op2 o k a b, .op2 o' k' a' b' => decide (o = o') && (kB k k' && (SX.eqB a a' && SX.eqB b b'))
  | .op1 o k a, .op1 o' k' a' => decide (o = o') && (kB k k' && SX.eqB a a')
  | .conv k a, .conv k' a' => kB k k' && SX.eqB a a'
  | .mn a b, .mn a' b' => SX.eqB a a' && SX.eqB b b'
  | .mx a b, .mx a' b' => SX.eqB a a' && SX.eqB b b'
  | _, _ => false
def AI.eqB (a b : AI) : Bool := match a, b with
  | .c n, .c m => ieq n m
  | .s e, .s f => SX.eqB e f
  | _, _ => false
def fnB (a b : Fn) : Bool := match a, b with
  | .func f, .func g => Nat.beq f g
  | _, _ => false
mutual
def AV.eqB : AV → AV → Bool
  | .bot, .bot => true
  | .bool a, .bool b => bB a b
  | .int k a, .int k' b => kB k k' && AI.eqB a b
  | .str s n, .str s' n' => Nat.beq s s' && Nat.beq n n'
  | .nilptr, .nilptr => true
  | .ptr b o, .ptr b' o' => Nat.beq b b' && Nat.beq o o'
  | .nilslice, .nilslice => true
  | .slice b o l c z e, .slice b' o' l' c' z' e' => Nat.beq b b' && (Nat.beq o o' && (Nat.beq l l' && (Nat.beq c c' && (Nat.beq z z' && bB e e'))))
  | .nilmap, .nilmap => true
  | .map b, .map b' => Nat.beq b b'
  | .func fn a b, .func fn' a' b' => fnB fn fn' && (AV.eqsB a a' && AV.eqsB b b')
  | .nilfunc, .nilfunc => true
  | .iface t v, .iface t' v' => Nat.beq t t' && AV.eqB v v'
  | .nilface, .nilface => true
  | .agg a, .agg b => AV.eqsB a b
  | .tup a, .tup b => AV.eqsB a b
  | _, _ => false
def AV.eqsB : List AV → List AV → Bool
  | [], [] => true
  | a :: l, b :: m => AV.eqB a b && AV.eqsB l m
  | _, _ => false
end
def Tr.eqB {α : Type} (g : α → α → Bool) : Tr α → Tr α → Bool
  | .leaf, .leaf => true
  | .node v l r, .node v' l' r' => (match v, v' with
    | none, none => true
    | some a, some b => g a b
    | _, _ => false) && (Tr.eqB g l l' && Tr.eqB g r r')
  | _, _ => false
def esB : List (AV × AV × Nat) → List (AV × AV × Nat) → Bool
  | [], [] => true
  | (k, v, n) :: l, (k', v', n') :: l' => (AV.eqB k k' && (AV.eqB v v' && Nat.beq n n')) && esB l l'
  | _, _ => false
def AO.eqB (a b : AO) : Bool := match a, b with
  | .cells t n sh fam co pl ro, .cells t' n' sh' fam' co' pl' ro' => Tr.eqB AV.eqB t t' && (Nat.beq n n' && (bB sh sh' && (Nat.beq fam fam' && (Nat.beq co co' && (bB pl pl' && bB ro ro')))))
  | .map es c, .map es' c' => esB es es' && Nat.beq c c'
  | _, _ => false
def natsB : List Nat → List Nat → Bool
  | [], [] => true
  | a :: l, b :: m => Nat.beq a b && natsB l m
  | _, _ => false
def AH.eqB (a b : AH) : Bool := match a, b with
  | ⟨t, f, nx⟩, ⟨t', f', nx'⟩ => Tr.eqB AO.eqB t t' && (Tr.eqB natsB f f' && Nat.beq nx nx')
def dsB : List (Nat × List AV) → List (Nat × List AV) → Bool
  | [], [] => true
  | (g, l) :: d, (g', l') :: d' => (Nat.beq g g' && AV.eqsB l l') && dsB d d'
  | _, _ => false
def psB : List (AV × Bool) → List (AV × Bool) → Bool
  | [], [] => true
  | (v, b) :: d, (v', b') :: d' => (AV.eqB v v' && bB b b') && psB d d'
  | _, _ => false
def AMode.eqB (a b : AMode) : Bool := match a, b with
  | .run, .run => true
  | .returning, .returning => true
  | .panicking c, .panicking c' => psB c c'
  | _, _ => false
/-- but for what is to be done. -/
def AF.eqB (a b : AF) : Bool := match a, b with
  | ⟨fn, nt, tm, _, df, mode, d⟩, ⟨fn', nt', tm', _, df', mode', d'⟩ => Nat.beq fn fn' && (Nat.beq nt nt' && (Tr.eqB AV.eqB tm tm' && (dsB df df' && (AMode.eqB mode mode' && bB d d'))))
def fsB : List AF → List AF → Bool
  | [], [] => true
  | a :: l, b :: m => AF.eqB a b && fsB l m
  | _, _ => false
def St.eqB (a b : St) : Bool := match a, b with
  | ⟨fr, cs, h⟩, ⟨fr', cs', h'⟩ => AF.eqB fr fr' && (fsB cs cs' && AH.eqB h h')
def AEnd.eqB (a b : AEnd) : Bool := match a, b with
  | .ret v, .ret v' => AV.eqB v v'
  | .pan c, .pan c' => psB c c'
  | _, _ => false
def tds : List AF → List (List AIt)
  | [] => []
  | ⟨_, _, _, todo, _, _, _⟩ :: l => todo :: tds l
/-- what is to be done, frame by frame. -/
def St.todos (s : St) : List (List AIt) := match s with
  | ⟨fr, cs, _⟩ => tds (fr :: cs)

theorem bB_eq {a b : Bool} (h : bB a b = true) : a = b := by cases a <;> cases b <;> first | rfl | cases h
theorem kB_eq {k k' : IntKind} (h : kB k k' = true) : k = k' := by cases k <;> cases k' <;> first | rfl | (simp [kB, kN] at h)
theorem ieqB_eq {a b : Int} (h : ieq a b = true) : a = b := by
  cases a <;> cases b <;> simp only [ieq, reduceCtorEq] at h
  · rw [Nat.eq_of_beq_eq_true h]
  · rw [Nat.eq_of_beq_eq_true h]
theorem sx_eq : ∀ {a b : SX}, SX.eqB a b = true → a = b
  | .var i, b, h => by
    cases b <;> simp only [SX.eqB, reduceCtorEq] at h
    rw [Nat.eq_of_beq_eq_true h]
  | .lit n, b, h => by
    cases b <;> simp only [SX.eqB, reduceCtorEq] at h
    rw [ieqB_eq h]
  | .op2 o k x y, b, h => by
    cases b <;> simp only [SX.eqB, reduceCtorEq, Bool.and_eq_true, decide_eq_true_eq] at h
    rw [h.1, kB_eq h.2.1, sx_eq h.2.2.1, sx_eq h.2.2.2]
  | .op1 o k x, b, h => by
    cases b <;> simp only [SX.eqB, reduceCtorEq, Bool.and_eq_true, decide_eq_true_eq] at h
    rw [h.1, kB_eq h.2.1, sx_eq h.2.2]
  | .conv k x, b, h => by
    cases b <;> simp only [SX.eqB, reduceCtorEq, Bool.and_eq_true] at h
    rw [kB_eq h.1, sx_eq h.2]
  | .mn x y, b, h => by
    cases b <;> simp only [SX.eqB, reduceCtorEq, Bool.and_eq_true] at h
    rw [sx_eq h.1, sx_eq h.2]
  | .mx x y, b, h => by
    cases b <;> simp only [SX.eqB, reduceCtorEq, Bool.and_eq_true] at h
    rw [sx_eq h.1, sx_eq h.2]
theorem ai_eq {a b : AI} (h : AI.eqB a b = true) : a = b := by
  cases a <;> cases b <;> simp only [AI.eqB, reduceCtorEq] at h
  · rw [ieqB_eq h]
  · rw [sx_eq h]
theorem fnB_eq {a b : Fn} (h : fnB a b = true) : a = b := by
  unfold fnB at h
  split at h
  · rw [Nat.eq_of_beq_eq_true h]
  · cases h
mutual
theorem eqB_eq : ∀ (a b : AV), AV.eqB a b = true → a = b
  | .bot, b, h => by cases b <;> simp only [AV.eqB, reduceCtorEq] at h; rfl
  | .bool x, b, h => by
    cases b <;> simp only [AV.eqB, reduceCtorEq] at h
    rw [bB_eq h]
  | .int k x, b, h => by
    cases b <;> simp only [AV.eqB, reduceCtorEq, Bool.and_eq_true] at h
    rw [kB_eq h.1, ai_eq h.2]
  | .str s n, b, h => by
    cases b <;> simp only [AV.eqB, reduceCtorEq, Bool.and_eq_true] at h
    rw [Nat.eq_of_beq_eq_true h.1, Nat.eq_of_beq_eq_true h.2]
  | .nilptr, b, h => by cases b <;> simp only [AV.eqB, reduceCtorEq] at h; rfl
  | .ptr x y, b, h => by
    cases b <;> simp only [AV.eqB, reduceCtorEq, Bool.and_eq_true] at h
    rw [Nat.eq_of_beq_eq_true h.1, Nat.eq_of_beq_eq_true h.2]
  | .nilslice, b, h => by cases b <;> simp only [AV.eqB, reduceCtorEq] at h; rfl
  | .slice b o l c z e, b', h => by
    cases b' <;> simp only [AV.eqB, reduceCtorEq, Bool.and_eq_true] at h
    obtain ⟨h1, h2, h3, h4, h5, h6⟩ := h
    rw [Nat.eq_of_beq_eq_true h1, Nat.eq_of_beq_eq_true h2, Nat.eq_of_beq_eq_true h3, Nat.eq_of_beq_eq_true h4, Nat.eq_of_beq_eq_true h5, bB_eq h6]
  | .nilmap, b, h => by cases b <;> simp only [AV.eqB, reduceCtorEq] at h; rfl
  | .map x, b, h => by
    cases b <;> simp only [AV.eqB, reduceCtorEq] at h
    rw [Nat.eq_of_beq_eq_true h]
  | .func fn a c, b, h => by
    cases b <;> simp only [AV.eqB, reduceCtorEq, Bool.and_eq_true] at h
    rw [fnB_eq h.1, eqsB_eq _ _ h.2.1, eqsB_eq _ _ h.2.2]
  | .nilfunc, b, h => by cases b <;> simp only [AV.eqB, reduceCtorEq] at h; rfl
  | .iface t v, b, h => by
    cases b <;> simp only [AV.eqB, reduceCtorEq, Bool.and_eq_true] at h
    rw [Nat.eq_of_beq_eq_true h.1, eqB_eq _ _ h.2]
  | .nilface, b, h => by cases b <;> simp only [AV.eqB, reduceCtorEq] at h; rfl
  | .agg a, b, h => by
    cases b <;> simp only [AV.eqB, reduceCtorEq] at h
    rw [eqsB_eq _ _ h]
  | .tup a, b, h => by
    cases b <;> simp only [AV.eqB, reduceCtorEq] at h
    rw [eqsB_eq _ _ h]
theorem eqsB_eq : ∀ (a b : List AV), AV.eqsB a b = true → a = b
  | [], b, h => by cases b <;> simp only [AV.eqsB, reduceCtorEq] at h; rfl
  | x :: l, b, h => by
    cases b <;> simp only [AV.eqsB, reduceCtorEq, Bool.and_eq_true] at h
    rw [eqB_eq _ _ h.1, eqsB_eq _ _ h.2]
end
theorem Tr.eqB_eq {α : Type} {g : α → α → Bool} (hg : ∀ a b, g a b = true → a = b) : ∀ {a b : Tr α}, Tr.eqB g a b = true → a = b
  | .leaf, b, h => by cases b <;> simp only [Tr.eqB, reduceCtorEq] at h; rfl
  | .node v l r, b, h => by
    cases b with
    | leaf => simp [Tr.eqB] at h
    | node v' l' r' =>
      simp only [Tr.eqB, Bool.and_eq_true] at h
      rw [Tr.eqB_eq hg h.2.1, Tr.eqB_eq hg h.2.2]
      have h1 := h.1
      cases v <;> cases v' <;> simp only [reduceCtorEq] at h1
      · rfl
      · rw [hg _ _ h1]
theorem esB_eq : ∀ {a b : List (AV × AV × Nat)}, esB a b = true → a = b
  | [], b, h => by cases b <;> simp only [esB, reduceCtorEq] at h; rfl
  | (k, v, n) :: l, b, h => by
    cases b <;> simp only [esB, reduceCtorEq, Bool.and_eq_true] at h
    rw [eqB_eq _ _ h.1.1, eqB_eq _ _ h.1.2.1, Nat.eq_of_beq_eq_true h.1.2.2, esB_eq h.2]
theorem ao_eq (a b : AO) (h : AO.eqB a b = true) : a = b := by
  cases a <;> cases b <;> simp only [AO.eqB, reduceCtorEq, Bool.and_eq_true] at h
  · obtain ⟨h1, h2, h3, h4, h5, h6, h7⟩ := h
    rw [Tr.eqB_eq eqB_eq h1, Nat.eq_of_beq_eq_true h2, bB_eq h3, Nat.eq_of_beq_eq_true h4, Nat.eq_of_beq_eq_true h5, bB_eq h6, bB_eq h7]
  · rw [esB_eq h.1, Nat.eq_of_beq_eq_true h.2]
theorem nats_eq : ∀ (a b : List Nat), natsB a b = true → a = b
  | [], b, h => by cases b <;> simp only [natsB, reduceCtorEq] at h; rfl
  | x :: l, b, h => by
    cases b <;> simp only [natsB, reduceCtorEq, Bool.and_eq_true] at h
    rw [Nat.eq_of_beq_eq_true h.1, nats_eq _ _ h.2]
theorem ah_eq {a b : AH} (h : AH.eqB a b = true) : a = b := by
  obtain ⟨t, f, nx⟩ := a
  obtain ⟨t', f', nx'⟩ := b
  simp only [AH.eqB, Bool.and_eq_true] at h
  rw [Tr.eqB_eq ao_eq h.1, Tr.eqB_eq nats_eq h.2.1, Nat.eq_of_beq_eq_true h.2.2]
theorem ds_eq : ∀ {a b : List (Nat × List AV)}, dsB a b = true → a = b
  | [], b, h => by cases b <;> simp only [dsB, reduceCtorEq] at h; rfl
  | (g, l) :: d, b, h => by
    cases b <;> simp only [dsB, reduceCtorEq, Bool.and_eq_true] at h
    rw [Nat.eq_of_beq_eq_true h.1.1, eqsB_eq _ _ h.1.2, ds_eq h.2]
theorem ps_eq : ∀ {a b : List (AV × Bool)}, psB a b = true → a = b
  | [], b, h => by cases b <;> simp only [psB, reduceCtorEq] at h; rfl
  | (g, l) :: d, b, h => by
    cases b <;> simp only [psB, reduceCtorEq, Bool.and_eq_true] at h
    rw [eqB_eq _ _ h.1.1, bB_eq h.1.2, ps_eq h.2]
theorem mode_eq {a b : AMode} (h : AMode.eqB a b = true) : a = b := by
  cases a <;> cases b <;> simp only [AMode.eqB, reduceCtorEq] at h
  · rfl
  · rfl
  · rw [ps_eq h]
theorem af_eq {a b : AF} (h : AF.eqB a b = true) (ht : a.todo = b.todo) : a = b := by
  obtain ⟨fn, nt, tm, todo, df, mode, d⟩ := a
  obtain ⟨fn', nt', tm', todo', df', mode', d'⟩ := b
  simp only [AF.eqB, Bool.and_eq_true] at h
  obtain ⟨h1, h2, h3, h4, h5, h6⟩ := h
  simp only at ht
  rw [Nat.eq_of_beq_eq_true h1, Nat.eq_of_beq_eq_true h2, Tr.eqB_eq eqB_eq h3, ds_eq h4, mode_eq h5, bB_eq h6, ht]
theorem fs_eq : ∀ {a b : List AF}, fsB a b = true → tds a = tds b → a = b
  | [], b, h, _ => by cases b <;> simp only [fsB, reduceCtorEq] at h; rfl
  | x :: l, b, h, ht => by
    cases b with
    | nil => simp [fsB] at h
    | cons y m =>
      simp only [fsB, Bool.and_eq_true] at h
      obtain ⟨fn, nt, tm, todo, df, mode, d⟩ := x
      obtain ⟨fn', nt', tm', todo', df', mode', d'⟩ := y
      simp only [tds, List.cons.injEq] at ht
      rw [af_eq h.1 ht.1, fs_eq h.2 ht.2]
theorem st_eq {a b : St} (h : St.eqB a b = true) (ht : a.todos = b.todos) : a = b := by
  obtain ⟨fr, cs, hh⟩ := a
  obtain ⟨fr', cs', hh'⟩ := b
  simp only [St.eqB, Bool.and_eq_true] at h
  have : fr :: cs = fr' :: cs' := fs_eq (by simp only [fsB, Bool.and_eq_true]; exact ⟨h.1, h.2.1⟩) ht
  simp only [List.cons.injEq] at this
  rw [this.1, this.2, ah_eq h.2.2]
theorem aend_eq {a b : AEnd} (h : AEnd.eqB a b = true) : a = b := by
  cases a <;> cases b <;> simp only [AEnd.eqB, reduceCtorEq] at h
  · rw [eqB_eq _ _ h]
  · rw [ps_eq h]

/-- a stretch, and is it come to such a state? what is to be done then. -/
noncomputable def stepsT (P : Program) (hyp : Hyp) (sm : Nat → List AV → AH → Option (AEnd × AH)) (fuel n : Nat) (ks : List Nat) (kss : List (List Nat)) (olds l ms gs : List Nat) (n0 : Nat) (s s' : St) : Option (List (List AIt)) :=
  match steps P hyp sm fuel n s with
  | some s1 => bif St.eqB ((s1.keepS ks kss).renR olds l ms gs n0) s' then some ((s1.keepS ks kss).renR olds l ms gs n0).todos else none
  | none => none
theorem stepsT_spec {P : Program} {hyp : Hyp} {sm : Nat → List AV → AH → Option (AEnd × AH)} {fuel n : Nat} {ks : List Nat} {kss : List (List Nat)} {olds l ms gs : List Nat} {n0 : Nat} {s s' : St} {T : List (List AIt)}
    (h : stepsT P hyp sm fuel n ks kss olds l ms gs n0 s s' = some T) (ht : s'.todos = T) : stepsR P hyp sm fuel n ks kss olds l ms gs n0 s = some s' := by
  unfold stepsT at h
  unfold stepsR
  cases hx : steps P hyp sm fuel n s with
  | none => rw [hx] at h; cases h
  | some s1 =>
    rw [hx] at h
    simp only at h ⊢
    cases he : St.eqB ((s1.keepS ks kss).renR olds l ms gs n0) s' with
    | false => rw [he] at h; cases h
    | true =>
      rw [he] at h
      simp only [cond_true, Option.some.injEq] at h
      rw [st_eq he (h.trans ht.symm)]
/-- a run, and is it come to such an end? -/
noncomputable def runB (P : Program) (hyp : Hyp) (sm : Nat → List AV → AH → Option (AEnd × AH)) (n : Nat) (olds l ms gs : List Nat) (n0 : Nat) (g : Nat → SX) (s : St) (r0 : AEnd) (h1 : AH) : Bool :=
  match run P hyp sm n s with
  | some (r, h) => AEnd.eqB ((r.ren (Ren.of olds (l ++ ms) n0)).sub g) r0 && AH.eqB ((heapR olds l ms gs n0 h).sub g) h1
  | none => false
theorem runB_spec {P : Program} {hyp : Hyp} {sm : Nat → List AV → AH → Option (AEnd × AH)} {n : Nat} {olds l ms gs : List Nat} {n0 : Nat} {g : Nat → SX} {s : St} {r0 : AEnd} {h1 : AH}
    (h : runB P hyp sm n olds l ms gs n0 g s r0 h1 = true) : runR P hyp sm n olds l ms gs n0 g s = some (r0, h1) := by
  unfold runB at h
  unfold runR
  cases hx : run P hyp sm n s with
  | none => rw [hx] at h; cases h
  | some p =>
    obtain ⟨r, hh⟩ := p
    rw [hx] at h
    simp only [Bool.and_eq_true] at h ⊢
    rw [aend_eq h.1, ah_eq h.2]
end Go.Am
