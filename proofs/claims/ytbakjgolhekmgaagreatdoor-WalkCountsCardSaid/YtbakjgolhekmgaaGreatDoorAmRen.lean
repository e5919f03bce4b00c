/- States with names replaced and what is not named left out. -/
import Derived.Test.YtbakjgolhekmgaaGreatDoorAmSub
namespace Go.Am
noncomputable section

/-- names by names: there, and back; the first name that is free. -/
structure Ren where
  to : Tr Nat
  back : Tr Nat
  nx : Nat
def Ren.at (r : Ren) (b : Nat) : Option Nat :=
  bif Nat.blt b 4096 then some b else
  match r.to.get b with
  | some n => match r.back.get n with
    | some b' => bif Nat.beq b b' && (Nat.ble 4096 n && Nat.blt n r.nx) then some n else none
    | none => none
  | none => none
mutual
def AV.ren (r : Ren) : AV → Option AV
  | .func fn a b => match AV.rens r a with
    | some a' => match AV.rens r b with
      | some b' => some (.func fn a' b')
      | none => none
    | none => none
  | .iface t v => match AV.ren r v with
    | some v' => some (.iface t v')
    | none => none
  | .agg cs => match AV.rens r cs with
    | some l => some (.agg l)
    | none => none
  | .tup cs => match AV.rens r cs with
    | some l => some (.tup l)
    | none => none
  | .ptr b o => match r.at b with
    | some n => some (.ptr n o)
    | none => none
  | .slice b o l c z e => match r.at b with
    | some n => some (.slice n o l c z e)
    | none => none
  | .map b => match r.at b with
    | some n => some (.map n)
    | none => none
  | .int k a => some (.int k a)
  | .bot => some .bot
  | .bool b => some (.bool b)
  | .str s n => some (.str s n)
  | .nilptr => some .nilptr
  | .nilslice => some .nilslice
  | .nilmap => some .nilmap
  | .nilfunc => some .nilfunc
  | .nilface => some .nilface
def AV.rens (r : Ren) : List AV → Option (List AV)
  | [] => some []
  | a :: l => match AV.ren r a with
    | some a' => match AV.rens r l with
      | some l' => some (a' :: l')
      | none => none
    | none => none
end
def Env.ren (E : Env) (r : Ren) : Env := ⟨fun n => if n < 4096 then E.σ n else match r.back.get n with
  | some b => if r.at b = some n then E.σ b else none
  | none => none, E.ρ⟩
section
variable {E : Env} {r : Ren}
theorem Ren.at_spec {b n : Nat} (h : r.at b = some n) : (E.ren r).σ n = E.σ b := by
  have h0 := h
  unfold Ren.at at h
  cases hb : Nat.blt b 4096 with
  | true =>
    rw [hb] at h
    cases h
    have : b < 4096 := Nat.le_of_ble_eq_true hb
    simp [Env.ren, this]
  | false =>
    rw [hb] at h
    simp only [cond_false] at h
    split at h
    · rename_i m hm
      split at h
      · rename_i b' hb'
        cases hc : (Nat.beq b b' && (Nat.ble 4096 m && Nat.blt m r.nx)) with
        | false => rw [hc] at h; cases h
        | true =>
          rw [hc] at h
          simp only [cond_true, Option.some.injEq] at h
          subst h
          simp only [Bool.and_eq_true] at hc
          obtain rfl := Nat.eq_of_beq_eq_true hc.1
          have h2 : ¬ (m < 4096) := Nat.not_lt.2 (Nat.le_of_ble_eq_true hc.2.1)
          simp only [Env.ren, h2, if_false, hb', h0, if_true]
      · cases h
    · cases h
theorem Ren.at_lt {b n : Nat} (h : r.at b = some n) (hn : 4096 ≤ r.nx) : n < r.nx := by
  unfold Ren.at at h
  cases hb : Nat.blt b 4096 with
  | true =>
    rw [hb] at h
    cases h
    have : b < 4096 := Nat.le_of_ble_eq_true hb
    omega
  | false =>
    rw [hb] at h
    simp only [cond_false] at h
    split at h
    · rename_i m hm
      split at h
      · rename_i b' hb'
        cases hc : (Nat.beq b b' && (Nat.ble 4096 m && Nat.blt m r.nx)) with
        | false => rw [hc] at h; cases h
        | true =>
          rw [hc] at h
          cases h
          simp only [Bool.and_eq_true] at hc
          exact Nat.le_of_ble_eq_true hc.2.2
      · cases h
    · cases h
/-- one to one. -/
theorem Ren.at_inj {b b' n : Nat} (h : r.at b = some n) (h' : r.at b' = some n) : b = b' := by
  have key : ∀ {b}, r.at b = some n → (b < 4096 ∧ b = n) ∨ (4096 ≤ n ∧ r.back.get n = some b) := by
    intro b h
    unfold Ren.at at h
    cases hb : Nat.blt b 4096 with
    | true => rw [hb] at h; cases h; exact .inl ⟨Nat.le_of_ble_eq_true hb, rfl⟩
    | false =>
      rw [hb] at h
      simp only [cond_false] at h
      split at h
      · rename_i m hm
        split at h
        · rename_i b' hb'
          cases hc : (Nat.beq b b' && (Nat.ble 4096 m && Nat.blt m r.nx)) with
          | false => rw [hc] at h; cases h
          | true =>
            rw [hc] at h
            cases h
            simp only [Bool.and_eq_true] at hc
            obtain rfl := Nat.eq_of_beq_eq_true hc.1
            exact .inr ⟨Nat.le_of_ble_eq_true hc.2.1, hb'⟩
        · cases h
      · cases h
  rcases key h with ⟨h1, h2⟩ | ⟨h1, h2⟩ <;> rcases key h' with ⟨h3, h4⟩ | ⟨h3, h4⟩
  · omega
  · omega
  · omega
  · rw [h2] at h4; exact Option.some.inj h4
mutual
theorem VR.ren : ∀ (a a' : AV) (y : Value), AV.ren r a = some a' → VR E a y → VR (E.ren r) a' y
  | .func fn a b, a', y, h, ⟨x, z, h1, h2, h3⟩ => by
    simp only [AV.ren] at h
    cases ha : AV.rens r a with
    | none => rw [ha] at h; cases h
    | some l =>
      rw [ha] at h
      simp only at h
      cases hb : AV.rens r b with
      | none => rw [hb] at h; cases h
      | some m =>
        rw [hb] at h
        cases h
        exact ⟨x, z, h1, VRs.ren a l _ ha h2, VRs.ren b m _ hb h3⟩
  | .iface t v, a', y, h, ⟨x, h1, h2⟩ => by
    simp only [AV.ren] at h
    cases hv : AV.ren r v with
    | none => rw [hv] at h; cases h
    | some v' => rw [hv] at h; cases h; exact ⟨x, h1, VR.ren v v' _ hv h2⟩
  | .agg cs, a', y, h, ⟨x, h1, h2⟩ => by
    simp only [AV.ren] at h
    cases hv : AV.rens r cs with
    | none => rw [hv] at h; cases h
    | some l => rw [hv] at h; cases h; exact ⟨x, h1, VRs.ren cs l _ hv h2⟩
  | .tup cs, a', y, h, ⟨x, h1, h2⟩ => by
    simp only [AV.ren] at h
    cases hv : AV.rens r cs with
    | none => rw [hv] at h; cases h
    | some l => rw [hv] at h; cases h; exact ⟨x, h1, VRs.ren cs l _ hv h2⟩
  | .ptr b o, a', y, h, ⟨x, h1, h2⟩ => by
    simp only [AV.ren] at h
    cases hb : r.at b with
    | none => rw [hb] at h; cases h
    | some n => rw [hb] at h; cases h; exact ⟨x, (Ren.at_spec hb).trans h1, h2⟩
  | .slice b o l c z e, a', y, h, ⟨ad, c', h1, h2, h3, h4, h5, h6⟩ => by
    simp only [AV.ren] at h
    cases hb : r.at b with
    | none => rw [hb] at h; cases h
    | some n =>
      rw [hb] at h
      cases h
      exact ⟨ad, c', h1, h2, h3, h4, h5, fun hc => let ⟨x, hx, q⟩ := h6 hc; ⟨x, (Ren.at_spec hb).trans hx, q⟩⟩
  | .map b, a', y, h, ⟨x, h1, h2⟩ => by
    simp only [AV.ren] at h
    cases hb : r.at b with
    | none => rw [hb] at h; cases h
    | some n => rw [hb] at h; cases h; exact ⟨x, (Ren.at_spec hb).trans h1, h2⟩
  | .int k a, a', y, h, hv => by cases h; exact hv
  | .bot, a', y, h, hv => by cases h; exact hv
  | .bool b, a', y, h, hv => by cases h; exact hv
  | .str s n, a', y, h, hv => by cases h; exact hv
  | .nilptr, a', y, h, hv => by cases h; exact hv
  | .nilslice, a', y, h, hv => by cases h; exact hv
  | .nilmap, a', y, h, hv => by cases h; exact hv
  | .nilfunc, a', y, h, hv => by cases h; exact hv
  | .nilface, a', y, h, hv => by cases h; exact hv
theorem VRs.ren : ∀ (a a' : List AV) (y : List Value), AV.rens r a = some a' → VRs E a y → VRs (E.ren r) a' y
  | [], a', y, h, hv => by cases h; exact hv
  | a :: l, a', y, h, ⟨x, xs, h1, h2, h3⟩ => by
    simp only [AV.rens] at h
    cases ha : AV.ren r a with
    | none => rw [ha] at h; cases h
    | some b =>
      rw [ha] at h
      simp only at h
      cases hl : AV.rens r l with
      | none => rw [hl] at h; cases h
      | some m =>
        rw [hl] at h
        cases h
        exact ⟨x, xs, h1, VR.ren a b _ ha h2, VRs.ren l m _ hl h3⟩
end
end
/- memory; what cannot be renamed is forgotten -/
def AV.renB (r : Ren) (a : AV) : AV := match AV.ren r a with
  | some b => b
  | none => .bot
def trRen (r : Ren) : Tr AV → Tr AV
  | .leaf => .leaf
  | .node v l t => .node (match v with | some x => AV.ren r x | none => none) (trRen r l) (trRen r t)
def esRen (r : Ren) : List (AV × AV × Nat) → List (AV × AV × Nat)
  | [] => []
  | (k, v, n) :: l => (k.renB r, v.renB r, n) :: esRen r l
def AO.ren (r : Ren) (o : AO) : Option AO := match o with
  | .cells t n sh fam co pl ro => bif sh then (match r.at fam with
      | some fam' => some (.cells (trRen r t) n true fam' co pl ro)
      | none => none) else some (.cells (trRen r t) n false 0 0 pl ro)
  | .map es clock => some (.map (esRen r es) clock)
def AH.add (h : AH) (n : Nat) (o : AO) : AH := match h with
  | ⟨t, f, nx⟩ => match o with
    | .cells _ _ sh fam _ _ _ => ⟨t.set n o, bif sh then f.set fam (n :: (match f.get fam with | some ms => ms | none => [])) else f, nx⟩
    | .map _ _ => ⟨t.set n o, f, nx⟩
def heapRen (r : Ren) (h : AH) : List Nat → AH
  | [] => ⟨.leaf, .leaf, r.nx⟩
  | b :: l => match h.t.get b with
    | none => heapRen r h l
    | some o => match r.at b with
      | none => heapRen r h l
      | some n => match o.ren r with
        | none => heapRen r h l
        | some o' => (heapRen r h l).add n o'
section
variable {E : Env} {r : Ren}
theorem renB_rel {a : AV} {y : Value} (h : VR E a y) : VR (E.ren r) (a.renB r) y := by
  unfold AV.renB
  cases hr : AV.ren r a with
  | none => trivial
  | some b => exact VR.ren a b y hr h
theorem get_trRen : ∀ (t : Tr AV) (n : Nat), (trRen r t).get n = (t.get n).bind (AV.ren r)
  | .leaf, n => by simp [trRen]
  | .node v l t, n => by
    simp only [trRen, Tr.get_node, get_trRen l, get_trRen t]
    split
    · cases v <;> rfl
    · split <;> rfl
theorem TRel.ren {tm : Tr AV} {vs : Array Value} (h : TRel E tm vs) : TRel (E.ren r) (trRen r tm) vs := by
  intro t v hv
  rw [get_trRen] at hv
  cases hg : tm.get t with
  | none => rw [hg] at hv; cases hv
  | some a => rw [hg] at hv; exact VR.ren a v _ hv (h t a hg)
theorem ERel.ren : ∀ {es : List (AV × AV × Nat)} {ms : List MapEntry}, ERel E es ms → ERel (E.ren r) (esRen r es) ms
  | [], _, h => h
  | (_, _, _) :: _, _, ⟨e, es', h1, h2, h3, h4, h5⟩ => ⟨e, es', h1, renB_rel h2, renB_rel h3, h4, ERel.ren h5⟩
theorem ORel.ren {o o' : AO} {x : Slot} {w : World} (ho : o.ren r = some o') (h : ORel E o x w) : ORel (E.ren r) o' x w := by
  cases o with
  | map es clock =>
    cases ho
    obtain ⟨h1, es', h2, h3⟩ := h
    exact ⟨h1, es', h2, ERel.ren h3⟩
  | cells t n sh fam co pl ro =>
    obtain ⟨c, el, fz, h1, h2, h3, h4, h5, h6⟩ := h
    have hc : CRel (E.ren r) (trRen r t) n x c := by
      intro i v hi
      rw [get_trRen] at hi
      cases hg : t.get i with
      | none => rw [hg] at hi; cases hi
      | some a =>
        rw [hg] at hi
        obtain ⟨g1, y, g2, g3⟩ := h6 i a hg
        exact ⟨g1, y, g2, VR.ren a v _ hi g3⟩
    simp only [AO.ren] at ho
    cases sh with
    | false => cases ho; exact ⟨c, el, fz, h1, h2, h3, h4, h5, hc⟩
    | true =>
      simp only [cond_true] at ho
      split at ho
      · cases ho; exact ⟨c, el, fz, h1, h2, h3, h4, h5, hc⟩
      · cases ho
theorem get_add (h : AH) (n : Nat) (o : AO) (k : Nat) : (h.add n o).t.get k = if k = n then some o else h.t.get k := by
  obtain ⟨t, f, nx⟩ := h
  cases o <;> exact Tr.get_set _ _ _ _
theorem heapRen_get (h : AH) : ∀ (l : List Nat) (n : Nat) (o' : AO), (heapRen r h l).t.get n = some o' → ∃ b o, h.t.get b = some o ∧ r.at b = some n ∧ o.ren r = some o'
  | [], n, o', hg => by simp [heapRen] at hg
  | b :: l, n, o', hg => by
    simp only [heapRen] at hg
    split at hg
    · exact heapRen_get h l n o' hg
    · rename_i o ho
      split at hg
      · exact heapRen_get h l n o' hg
      · rename_i m hm
        split at hg
        · exact heapRen_get h l n o' hg
        · rename_i o2 ho2
          rw [get_add] at hg
          by_cases e : n = m
          · rw [if_pos e] at hg
            cases hg
            exact ⟨b, o, ho, by rw [e]; exact hm, ho2⟩
          · rw [if_neg e] at hg
            exact heapRen_get h l n o' hg
theorem add_f_nx (h : AH) (n : Nat) (o : AO) : (h.add n o).nx = h.nx := by obtain ⟨t, f, nx⟩ := h; cases o <;> rfl
theorem heapRen_nx (h : AH) : ∀ (l : List Nat), (heapRen r h l).nx = r.nx
  | [] => rfl
  | b :: l => by
    simp only [heapRen]
    split
    · exact heapRen_nx h l
    · split
      · exact heapRen_nx h l
      · split
        · exact heapRen_nx h l
        · rw [add_f_nx]; exact heapRen_nx h l
theorem add_sh (h : AH) (m : Nat) (o : AO) (ih : ∀ n t k fam co pl ro, h.t.get n = some (.cells t k true fam co pl ro) → ∃ ms, h.f.get fam = some ms ∧ n ∈ ms) :
    ∀ n t k fam co pl ro, (h.add m o).t.get n = some (.cells t k true fam co pl ro) → ∃ ms, (h.add m o).f.get fam = some ms ∧ n ∈ ms := by
  intro n t k fam co pl ro hg
  rw [get_add] at hg
  obtain ⟨ht, hf, hn⟩ := h
  cases o with
  | map es clock =>
    by_cases e : n = m
    · rw [if_pos e] at hg; cases hg
    · rw [if_neg e] at hg; exact ih n t k fam co pl ro hg
  | cells t' k' sh fam' co' pl' ro' =>
    cases sh with
    | false =>
      by_cases e : n = m
      · rw [if_pos e] at hg; cases hg
      · rw [if_neg e] at hg; exact ih n t k fam co pl ro hg
    | true =>
      show ∃ ms, (hf.set fam' (m :: (match hf.get fam' with | some ms => ms | none => []))).get fam = some ms ∧ n ∈ ms
      rw [Tr.get_set]
      by_cases e : n = m
      · rw [if_pos e] at hg
        cases hg
        rw [if_pos rfl]
        exact ⟨_, rfl, by rw [e]; exact List.mem_cons_self ..⟩
      · rw [if_neg e] at hg
        obtain ⟨ms, h1, h2⟩ := ih n t k fam co pl ro hg
        by_cases e2 : fam = fam'
        · rw [if_pos e2, ← e2]
          have h1 : hf.get fam = some ms := h1
          rw [h1]
          exact ⟨_, rfl, List.mem_cons_of_mem _ h2⟩
        · rw [if_neg e2]; exact ⟨ms, h1, h2⟩
theorem heapRen_sh (h : AH) : ∀ (l : List Nat) (n : Nat) (t : Tr AV) (k fam co : Nat) (pl ro : Bool), (heapRen r h l).t.get n = some (.cells t k true fam co pl ro) → ∃ ms, (heapRen r h l).f.get fam = some ms ∧ n ∈ ms
  | [], n, _, _, _, _, _, _, hg => by simp [heapRen] at hg
  | b :: l, n, t, k, fam, co, pl, ro, hg => by
    have ih := heapRen_sh h l
    simp only [heapRen] at hg ⊢
    cases ho : h.t.get b with
    | none => simp only [ho] at hg ⊢; exact ih n t k fam co pl ro hg
    | some o =>
      simp only [ho] at hg ⊢
      cases hm : r.at b with
      | none => simp only [hm] at hg ⊢; exact ih n t k fam co pl ro hg
      | some m =>
        simp only [hm] at hg ⊢
        cases h2 : o.ren r with
        | none => simp only [h2] at hg ⊢; exact ih n t k fam co pl ro hg
        | some o2 =>
          simp only [h2] at hg ⊢
          exact add_sh _ m o2 ih n t k fam co pl ro hg
theorem ren_sh {o : AO} {t : Tr AV} {k fam co : Nat} {pl ro : Bool} (h : o.ren r = some (.cells t k true fam co pl ro)) : ∃ t0 f0, o = .cells t0 k true f0 co pl ro ∧ r.at f0 = some fam := by
  cases o with
  | map => cases h
  | cells a1 a2 sh a4 a5 a6 a7 =>
    simp only [AO.ren] at h
    cases sh with
    | false => cases h
    | true =>
      simp only [cond_true] at h
      split at h
      · rename_i f' hf; cases h; exact ⟨_, _, rfl, hf⟩
      · cases h
theorem HRel.ren (hnx : 4096 ≤ r.nx) {h : AH} {w : World} (hr : HRel E h w) (l : List Nat) : HRel (E.ren r) (heapRen r h l) w where
  obj := fun n o' hg => by
    obtain ⟨b, o, h1, h2, h3⟩ := heapRen_get h l n o' hg
    obtain ⟨x, hx, hxo⟩ := hr.obj b o h1
    exact ⟨x, (Ren.at_spec h2).trans hx, hxo.ren h3⟩
  sep := fun n n' o o' x x' hne hg hg' hx hx' hblk => by
    obtain ⟨b, o1, h1, h2, h3⟩ := heapRen_get h l n o hg
    obtain ⟨b', o2, k1, k2, k3⟩ := heapRen_get h l n' o' hg'
    rw [Ren.at_spec h2] at hx
    rw [Ren.at_spec k2] at hx'
    have hb : b ≠ b' := by
      intro e
      subst e
      rw [h2] at k2
      exact hne (Option.some.inj k2)
    obtain ⟨t, m, fam, co, pl, t', m', co', pl', e1, e2, e3⟩ := hr.sep b b' o1 o2 x x' hb h1 k1 hx hx' hblk
    subst e1 e2
    simp only [AO.ren, cond_true] at h3 k3
    cases hf : r.at fam with
    | none => rw [hf] at h3; cases h3
    | some fam' =>
      rw [hf] at h3 k3
      cases h3
      cases k3
      exact ⟨_, _, _, _, _, _, _, _, _, rfl, rfl, e3⟩
  shl := fun n t k fam co pl ro hg => by
    obtain ⟨b, o, h1, h2, h3⟩ := heapRen_get h l n _ hg
    obtain ⟨t0, f0, _, e2⟩ := ren_sh h3
    exact ⟨by rw [heapRen_nx]; exact Ren.at_lt e2 hnx, heapRen_sh h l n t k fam co pl ro hg⟩
  fresh := fun n hn => by
    rw [heapRen_nx] at hn
    have h4 : ¬ n < 4096 := by omega
    simp only [Env.ren, h4, if_false]
    split
    · rename_i b hb
      split
      · rename_i hat
        have := Ren.at_lt hat hnx
        omega
      · rfl
    · rfl
  glob := fun g hg => by
    obtain ⟨x, hx⟩ := hr.glob g hg
    exact ⟨x, by simp only [Env.ren, hg, if_true]; exact hx⟩
  base := by rw [heapRen_nx]; exact hnx
end
/- frames and states -/
def vsRen (r : Ren) : List AV → List AV
  | [] => []
  | a :: l => a.renB r :: vsRen r l
def dsRen (r : Ren) : List (Nat × List AV) → List (Nat × List AV)
  | [] => []
  | (g, l) :: d => (g, vsRen r l) :: dsRen r d
def psRen (r : Ren) : List (AV × Bool) → List (AV × Bool)
  | [] => []
  | (v, b) :: d => (v.renB r, b) :: psRen r d
def AMode.ren (r : Ren) : AMode → AMode
  | .run => .run
  | .returning => .returning
  | .panicking c => .panicking (psRen r c)
def AF.ren (r : Ren) (c : AF) : AF := match c with
  | ⟨fn, nt, tm, todo, df, mode, d⟩ => ⟨fn, nt, trRen r tm, todo, dsRen r df, mode.ren r, d⟩
def fsRen (r : Ren) : List AF → List AF
  | [] => []
  | c :: l => c.ren r :: fsRen r l
def St.ren (r : Ren) (l : List Nat) (s : St) : St := match s with
  | ⟨fr, cs, h⟩ => ⟨fr.ren r, fsRen r cs, heapRen r h l⟩
section
variable {E : Env} {r : Ren} {P : Program}
theorem VRs.renB : ∀ {a : List AV} {y : List Value}, VRs E a y → VRs (E.ren r) (vsRen r a) y
  | [], _, h => h
  | _ :: _, _, ⟨x, xs, h1, h2, h3⟩ => ⟨x, xs, h1, renB_rel h2, VRs.renB h3⟩
theorem DsRel.ren : ∀ {d : List (Nat × List AV)} {ds : List Deferred}, DsRel P E d ds → DsRel P (E.ren r) (dsRen r d) ds
  | [], _, h => h
  | (_, _) :: _, _, ⟨y, ys, h1, ⟨fn, cap, zs, h2, h3, h4⟩, h5⟩ => ⟨y, ys, h1, ⟨fn, cap, zs, h2, VRs.renB h3, h4⟩, DsRel.ren h5⟩
theorem PsRel.ren : ∀ {c : List (AV × Bool)} {ps : List PanicEntry}, PsRel E c ps → PsRel (E.ren r) (psRen r c) ps
  | [], _, h => h
  | (_, _) :: _, _, ⟨y, ys, h1, h2, h3, h4, h5⟩ => ⟨y, ys, h1, renB_rel h2, h3, h4, PsRel.ren h5⟩
theorem MRel.ren {m : AMode} {fm : FrameMode} (h : MRel E m fm) : MRel (E.ren r) (m.ren r) fm := by
  cases m with
  | run => exact h
  | returning => exact h
  | panicking c => obtain ⟨c', h1, h2⟩ := h; exact ⟨c', h1, h2.ren⟩
theorem FRel.ren {c : AF} {fr : Frame} (h : FRel P E c fr) : FRel P (E.ren r) (c.ren r) fr := by
  obtain ⟨fn, nt, tm, todo, df, mode, d⟩ := c
  refine ⟨h.fn, h.is, TRel.ren h.tm, h.size, fun hm => h.todo ?_, DsRel.ren h.defers, MRel.ren h.mode, h.kind, h.round⟩
  have hm : mode.ren r = .run := hm
  cases mode with
  | run => rfl
  | returning => cases hm
  | panicking => cases hm
theorem FsRel.ren : ∀ {cs : List AF} {fs : List Frame}, FsRel P E cs fs → FsRel P (E.ren r) (fsRen r cs) fs
  | [], _, h => h
  | _ :: _, _, ⟨y, ys, h1, h2, h3⟩ => ⟨y, ys, h1, h2.ren, FsRel.ren h3⟩
theorem SRel.ren (hnx : 4096 ≤ r.nx) (l : List Nat) {s : St} {fr : Frame} {fs : List Frame} {w : World} (h : SRel P E s fr fs w) : SRel P (E.ren r) (s.ren r l) fr fs w := by
  obtain ⟨fr0, cs, hh⟩ := s
  exact ⟨HRel.ren hnx h.hr l, FRel.ren h.fr, FsRel.ren h.cs⟩
end
end
end Go.Am
