/- Laws of the abstract machine's trees and texts. -/
import Derived.Test.YtbakjgolhekmgaaGreatDoorAmDef
namespace Go.Am

theorem beq0 {n : Nat} (h : ¬ n = 0) : Nat.beq n 0 = false := by
  cases n with
  | zero => exact absurd rfl h
  | succ n => rfl

namespace Tr
variable {α : Type}
@[simp] theorem get_leaf (n : Nat) : (Tr.leaf : Tr α).get n = none := rfl
theorem get_node (v : Option α) (l r : Tr α) (n : Nat) : (Tr.node v l r).get n = if n = 0 then v else if n % 2 = 0 then r.get (n / 2 - 1) else l.get (n / 2) := by
  show cond (Nat.beq n 0) v (cond (Nat.beq (n % 2) 0) (r.get (n / 2 - 1)) (l.get (n / 2))) = _
  by_cases h : n = 0
  · subst h; rfl
  · have h1 : Nat.beq n 0 = false := beq0 h
    rw [h1, if_neg h]
    by_cases h2 : n % 2 = 0
    · rw [if_pos h2, h2]; rfl
    · have h3 : Nat.beq (n % 2) 0 = false := beq0 h2
      rw [if_neg h2, h3]; rfl
theorem setF_zero (x : Option α) (t : Tr α) (n : Nat) : setF x 0 t n = t := rfl
theorem setF_leaf (x : Option α) (f n : Nat) : setF x (f + 1) .leaf n = if n = 0 then .node x .leaf .leaf else if n % 2 = 0 then .node none .leaf (setF x f .leaf (n / 2 - 1)) else .node none (setF x f .leaf (n / 2)) .leaf := by
  show cond (Nat.beq n 0) _ (cond (Nat.beq (n % 2) 0) _ _) = _
  by_cases h : n = 0
  · subst h; rfl
  · have h1 : Nat.beq n 0 = false := beq0 h
    rw [h1, if_neg h]
    by_cases h2 : n % 2 = 0
    · rw [if_pos h2, h2]; rfl
    · have h3 : Nat.beq (n % 2) 0 = false := beq0 h2
      rw [if_neg h2, h3]; rfl
theorem setF_node (x : Option α) (f : Nat) (v : Option α) (l r : Tr α) (n : Nat) : setF x (f + 1) (.node v l r) n = if n = 0 then .node x l r else if n % 2 = 0 then .node v l (setF x f r (n / 2 - 1)) else .node v (setF x f l (n / 2)) r := by
  show cond (Nat.beq n 0) _ (cond (Nat.beq (n % 2) 0) _ _) = _
  by_cases h : n = 0
  · subst h; rfl
  · have h1 : Nat.beq n 0 = false := beq0 h
    rw [h1, if_neg h]
    by_cases h2 : n % 2 = 0
    · rw [if_pos h2, h2]; rfl
    · have h3 : Nat.beq (n % 2) 0 = false := beq0 h2
      rw [if_neg h2, h3]; rfl
theorem get_setF (x : Option α) : ∀ (f : Nat) (t : Tr α) (n m : Nat), n < f → (setF x f t n).get m = if m = n then x else t.get m := by
  intro f
  induction f with
  | zero => intro t n m h; omega
  | succ f ih =>
    intro t n m h
    cases t with
    | leaf =>
      rw [setF_leaf]
      by_cases hn : n = 0
      · rw [if_pos hn, get_node]
        by_cases hm : m = 0
        · simp [hm, hn]
        · have : m ≠ n := by omega
          simp [hm, this]
      · rw [if_neg hn]
        by_cases h2 : n % 2 = 0
        · rw [if_pos h2, get_node]
          by_cases hm : m = 0
          · have : m ≠ n := by omega
            simp [hm]; omega
          · rw [if_neg hm]
            by_cases h3 : m % 2 = 0
            · rw [if_pos h3, ih _ _ _ (by omega)]
              by_cases e : m = n
              · subst e; simp
              · have : m / 2 - 1 ≠ n / 2 - 1 := by omega
                simp [e, this]
            · rw [if_neg h3]
              have : m ≠ n := by intro e; subst e; exact h3 h2
              simp [this]
        · rw [if_neg h2, get_node]
          by_cases hm : m = 0
          · have : m ≠ n := by omega
            simp [hm]; omega
          · rw [if_neg hm]
            by_cases h3 : m % 2 = 0
            · rw [if_pos h3]
              have : m ≠ n := by intro e; subst e; exact h2 h3
              simp [this]
            · rw [if_neg h3, ih _ _ _ (by omega)]
              by_cases e : m = n
              · subst e; simp
              · have : m / 2 ≠ n / 2 := by omega
                simp [e, this]
    | node v l r =>
      rw [setF_node]
      by_cases hn : n = 0
      · rw [if_pos hn, get_node, get_node]
        by_cases hm : m = 0
        · simp [hm, hn]
        · have : m ≠ n := by omega
          simp [hm, this]
      · rw [if_neg hn]
        by_cases h2 : n % 2 = 0
        · rw [if_pos h2, get_node, get_node]
          by_cases hm : m = 0
          · have : m ≠ n := by omega
            simp [hm]; omega
          · rw [if_neg hm, if_neg hm]
            by_cases h3 : m % 2 = 0
            · rw [if_pos h3, if_pos h3, ih _ _ _ (by omega)]
              by_cases e : m = n
              · subst e; simp
              · have : m / 2 - 1 ≠ n / 2 - 1 := by omega
                simp [e, this]
            · rw [if_neg h3, if_neg h3]
              have : m ≠ n := by intro e; subst e; exact h3 h2
              simp [this]
        · rw [if_neg h2, get_node, get_node]
          by_cases hm : m = 0
          · have : m ≠ n := by omega
            simp [hm]; omega
          · rw [if_neg hm, if_neg hm]
            by_cases h3 : m % 2 = 0
            · rw [if_pos h3, if_pos h3]
              have : m ≠ n := by intro e; subst e; exact h2 h3
              simp [this]
            · rw [if_neg h3, if_neg h3, ih _ _ _ (by omega)]
              by_cases e : m = n
              · subst e; simp
              · have : m / 2 ≠ n / 2 := by omega
                simp [e, this]
theorem get_put (t : Tr α) (n m : Nat) (x : Option α) : (t.put n x).get m = if m = n then x else t.get m := get_setF x _ t n m (Nat.lt_succ_self n)
theorem get_set (t : Tr α) (n m : Nat) (x : α) : (t.set n x).get m = if m = n then some x else t.get m := get_put t n m (some x)
theorem get_del (t : Tr α) (n m : Nat) : (t.del n).get m = if m = n then none else t.get m := get_put t n m none
theorem get_set_same (t : Tr α) (n : Nat) (x : α) : (t.set n x).get n = some x := by rw [get_set, if_pos rfl]
theorem get_set_other (t : Tr α) {n m : Nat} (x : α) (h : m ≠ n) : (t.set n x).get m = t.get m := by rw [get_set, if_neg h]

theorem pathF_zero (f : Nat) : pathF f 0 = [] := by cases f <;> rfl
theorem pathF_succ (f n : Nat) : pathF (f + 1) n = if n = 0 then [] else if n % 2 = 0 then false :: pathF f (n / 2 - 1) else true :: pathF f (n / 2) := by
  show cond (Nat.beq n 0) _ (cond (Nat.beq (n % 2) 0) _ _) = _
  by_cases h : n = 0
  · subst h; rfl
  · have h1 : Nat.beq n 0 = false := beq0 h
    rw [h1, if_neg h]
    by_cases h2 : n % 2 = 0
    · rw [if_pos h2, h2]; rfl
    · have h3 : Nat.beq (n % 2) 0 = false := beq0 h2
      rw [if_neg h2, h3]; rfl
theorem getP_pathF : ∀ (t : Tr α) (f n : Nat), n < f → t.getP (pathF f n) = t.get n := by
  intro t
  induction t with
  | leaf => intro f n _; rfl
  | node v l r ihl ihr =>
    intro f n h
    obtain ⟨f, rfl⟩ : ∃ g, f = g + 1 := ⟨f - 1, by omega⟩
    rw [pathF_succ, get_node]
    by_cases hn : n = 0
    · rw [if_pos hn, if_pos hn]; rfl
    · rw [if_neg hn, if_neg hn]
      by_cases h2 : n % 2 = 0
      · rw [if_pos h2, if_pos h2]
        show r.getP _ = _
        exact ihr f _ (by omega)
      · rw [if_neg h2, if_neg h2]
        show l.getP _ = _
        exact ihl f _ (by omega)
theorem getP_pathOf (t : Tr α) (n : Nat) : t.getP (pathOf n) = t.get n := getP_pathF t _ n (Nat.lt_succ_self n)
theorem setP_nil_leaf (x : Option α) : setP x [] (.leaf : Tr α) = .node x .leaf .leaf := rfl
theorem setP_pathF (x : Option α) : ∀ (f n : Nat) (t : Tr α), n < f → setP x (pathF f n) t = setF x f t n := by
  intro f
  induction f with
  | zero => intro n t h; omega
  | succ f ih =>
    intro n t h
    rw [pathF_succ]
    by_cases hn : n = 0
    · rw [if_pos hn]
      cases t with
      | leaf => rw [setF_leaf, if_pos hn]; rfl
      | node v l r => rw [setF_node, if_pos hn]; rfl
    · rw [if_neg hn]
      by_cases h2 : n % 2 = 0
      · rw [if_pos h2]
        cases t with
        | leaf => rw [setF_leaf, if_neg hn, if_pos h2, ← ih _ _ (by omega)]; rfl
        | node v l r => rw [setF_node, if_neg hn, if_pos h2, ← ih _ _ (by omega)]; rfl
      · rw [if_neg h2]
        cases t with
        | leaf => rw [setF_leaf, if_neg hn, if_neg h2, ← ih _ _ (by omega)]; rfl
        | node v l r => rw [setF_node, if_neg hn, if_neg h2, ← ih _ _ (by omega)]; rfl
theorem setP_pathOf (t : Tr α) (n : Nat) (x : Option α) : setP x (pathOf n) t = t.put n x := setP_pathF x _ n t (Nat.lt_succ_self n)
theorem get_setP (t : Tr α) (n m : Nat) (x : α) : (setP (some x) (pathOf n) t).get m = if m = n then some x else t.get m := by
  rw [setP_pathOf, get_put]

theorem get_ofListAt : ∀ (l : List α) (t : Tr α) (i m : Nat), (ofListAt t i l).get m = if i ≤ m ∧ m < i + l.length then l[m - i]? else t.get m := by
  intro l
  induction l with
  | nil => intro t i m; simp [ofListAt]; omega
  | cons x l ih =>
    intro t i m
    show (ofListAt (t.set i x) (i + 1) l).get m = _
    rw [ih, get_set]
    simp only [List.length_cons]
    by_cases h1 : i + 1 ≤ m ∧ m < i + 1 + l.length
    · rw [if_pos h1, if_pos (by omega)]
      have : m - i = (m - (i + 1)) + 1 := by omega
      rw [this, List.getElem?_cons_succ]
    · rw [if_neg h1]
      by_cases h2 : m = i
      · subst h2; simp
      · rw [if_neg h2, if_neg (by omega)]
theorem get_ofList (l : List α) (m : Nat) : (ofList l).get m = l[m]? := by
  unfold ofList
  rw [get_ofListAt]
  by_cases h : m < l.length
  · rw [if_pos (by omega)]; simp
  · rw [if_neg (by omega), List.getElem?_eq_none (by omega)]; rfl
end Tr

theorem get_wrsIn : ∀ (l : List AV) (t : Tr AV) (i m : Nat), (wrsIn t i l).get m = if i ≤ m ∧ m < i + l.length then l[m - i]? else t.get m := by
  intro l
  induction l with
  | nil => intro t i m; simp [wrsIn]; omega
  | cons x l ih =>
    intro t i m
    show (wrsIn (t.set i x) (i + 1) l).get m = _
    rw [ih, Tr.get_set]
    simp only [List.length_cons]
    by_cases h1 : i + 1 ≤ m ∧ m < i + 1 + l.length
    · rw [if_pos h1, if_pos (by omega)]
      have : m - i = (m - (i + 1)) + 1 := by omega
      rw [this, List.getElem?_cons_succ]
    · rw [if_neg h1]
      by_cases h2 : m = i
      · subst h2; simp
      · rw [if_neg h2, if_neg (by omega)]
theorem rdsIn_spec : ∀ (k : Nat) (t : Tr AV) (o : Nat) (l : List AV), rdsIn t o k = some l → l.length = k ∧ ∀ i, i < k → t.get (o + i) = l[i]? := by
  intro k
  induction k with
  | zero => intro t o l h; simp [rdsIn] at h; subst h; exact ⟨rfl, fun i hi => absurd hi (by omega)⟩
  | succ k ih =>
    intro t o l h
    simp only [rdsIn] at h
    cases hv : t.get o with
    | none => simp [hv] at h
    | some v =>
      simp only [hv] at h
      cases hr : rdsIn t (Nat.succ o) k with
      | none => simp [hr] at h
      | some m =>
        simp only [hr, Option.some.injEq] at h
        subst h
        obtain ⟨h1, h2⟩ := ih t _ m hr
        refine ⟨by simp [h1], fun i hi => ?_⟩
        cases i with
        | zero => simpa using hv
        | succ i =>
          have := h2 i (by omega)
          rw [List.getElem?_cons_succ, ← this]
          congr 1
          omega

/- texts -/
theorem enc_lt : ∀ l : List UInt8, enc l < 256 ^ l.length
  | [] => by simp [enc]
  | b :: l => by
    have := enc_lt l
    have hb := b.toNat_lt
    simp only [enc, List.length_cons, Nat.pow_succ]
    omega
theorem enc_inj : ∀ l m : List UInt8, l.length = m.length → enc l = enc m → l = m
  | [], [], _, _ => rfl
  | [], _ :: _, h, _ => by simp at h
  | _ :: _, [], h, _ => by simp at h
  | a :: l, b :: m, h, e => by
    simp only [enc] at e
    have ha := a.toNat_lt
    have hb := b.toNat_lt
    have e1 : a.toNat = b.toNat := by omega
    have e2 : enc l = enc m := by omega
    have := enc_inj l m (by simpa using h) e2
    rw [this, UInt8.toNat_inj.1 e1]
theorem enc_drop : ∀ (k : Nat) (l : List UInt8), enc (l.drop k) = enc l / 256 ^ k
  | 0, l => by simp
  | k + 1, [] => by simp [enc]
  | k + 1, b :: l => by
    have hb := b.toNat_lt
    rw [List.drop_succ_cons, enc_drop k l]
    simp only [enc]
    rw [Nat.pow_succ, Nat.mul_comm (256 ^ k) 256, ← Nat.div_div_eq_div_mul]
    congr 1
    omega
theorem enc_take : ∀ (k : Nat) (l : List UInt8), enc (l.take k) = enc l % 256 ^ k
  | 0, l => by simp [enc, Nat.mod_one]
  | k + 1, [] => by simp [enc]
  | k + 1, b :: l => by
    have hb := b.toNat_lt
    rw [List.take_succ_cons]
    simp only [enc]
    rw [enc_take k l, Nat.pow_succ, Nat.mul_comm (256 ^ k) 256, Nat.mod_mul]
    have h1 : (b.toNat + 256 * enc l) % 256 = b.toNat := by omega
    have h2 : (b.toNat + 256 * enc l) / 256 = enc l := by omega
    rw [h1, h2]
theorem pow256 (k : Nat) : (256 : Nat) ^ k = 2 ^ (8 * k) := by rw [Nat.pow_mul]
theorem chr_enc (l : List UInt8) (i : Nat) (b : UInt8) (h : l[i]? = some b) : chr (enc l) i = b.toNat := by
  have hb := b.toNat_lt
  show (enc l >>> (8 * i)) % 256 = _
  rw [Nat.shiftRight_eq_div_pow, ← pow256, ← enc_drop]
  have hi : i < l.length := by
    rcases Nat.lt_or_ge i l.length with h1 | h1
    · exact h1
    · rw [List.getElem?_eq_none h1] at h; cases h
  have : l.drop i = b :: l.drop (i + 1) := by
    rw [List.getElem?_eq_getElem hi] at h
    rw [List.drop_eq_getElem_cons hi]
    congr 1
    exact Option.some.inj h
  rw [this]
  simp only [enc]
  omega
theorem cut_enc (l : List UInt8) (a b : Nat) : cut (enc l) a b = enc ((l.drop a).take (b - a)) := by
  show (enc l >>> (8 * a)) % 2 ^ (8 * (b - a)) = _
  rw [Nat.shiftRight_eq_div_pow, ← pow256, ← pow256, enc_take, enc_drop]
theorem enc_append : ∀ (l m : List UInt8), enc (l ++ m) = enc l + 256 ^ l.length * enc m
  | [], m => by simp [enc]
  | b :: l, m => by
    simp only [List.cons_append, enc, enc_append l m, List.length_cons, Nat.pow_succ]
    rw [Nat.mul_add, ← Nat.mul_assoc, Nat.mul_comm 256 (256 ^ l.length), Nat.add_assoc]
theorem glue_enc (l m : List UInt8) : glue (enc l) l.length (enc m) = enc (l ++ m) := by
  show enc l + enc m <<< (8 * l.length) = _
  rw [Nat.shiftLeft_eq, ← pow256, enc_append, Nat.mul_comm (enc m)]

end Go.Am
