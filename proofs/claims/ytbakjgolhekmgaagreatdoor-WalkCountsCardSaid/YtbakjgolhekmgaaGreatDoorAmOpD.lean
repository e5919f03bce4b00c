/- Operations, one by one (third part): comparisons for equality. -/
import Derived.Test.YtbakjgolhekmgaaGreatDoorAmOpC
import Derived.Laws.StructEq
namespace Go.Am

section
variable {P : Program} {E : Env} {h : AH} {w : World} {hyp : Hyp}

theorem run_sameAddr_one (x : Slot) (o o' : Nat) : (sameAddr (x.at o) (x.at o')).run P w = .ok (Nat.beq o o') w := by
  simp only [sameAddr, Slot.at, beq_self_eq_true, if_true, Sem.run_pure]
  congr 1
  rw [Bool.eq_iff_iff, Nat.beq_eq, beq_iff_eq]
  constructor
  · intro h; simp only [Addr.mk.injEq] at h; omega
  · intro h; rw [h]
theorem plain_facts {t : Tr AV} {n : Nat} {sh : Bool} {fam co : Nat} {ro : Bool} {x : Slot} (ho : ORel E (.cells t n sh fam co true ro) x w) : ∃ el k, w.shape? x.blk = some (el, k) ∧ ∀ a : Addr, a.block = x.blk → w.frozen? a = false := by
  obtain ⟨c, el, fz, h1, _, _, _, h2, _⟩ := ho
  refine ⟨el, c.size, by simp [World.shape?, h1], fun a ha => ?_⟩
  have := h2 rfl
  obtain ⟨lo, hi⟩ := fz
  simp only at this
  subst this
  simp [World.frozen?, ha, h1]
theorem run_sameAddr_two {x x' : Slot} (hne : x.blk ≠ x'.blk) {o o' : Nat} {t : Tr AV} {n : Nat} {sh : Bool} {fam co : Nat} {ro : Bool} (ho : ORel E (.cells t n sh fam co true ro) x w) {t' : Tr AV} {n' : Nat} {sh' : Bool} {fam' co' : Nat} {ro' : Bool} (ho' : ORel E (.cells t' n' sh' fam' co' true ro') x' w) :
    (sameAddr (x.at o) (x'.at o')).run P w = .ok false w := by
  obtain ⟨el, k, s1, f1⟩ := plain_facts ho
  obtain ⟨el', k', s2, f2⟩ := plain_facts ho'
  have b1 : (x.at o).block = x.blk := rfl
  have b2 : (x'.at o').block = x'.blk := rfl
  have g1 : w.frozen? (x.at o) = false := f1 _ rfl
  have g2 : w.frozen? (x'.at o') = false := f2 _ rfl
  have g3 : w.frozen? { block := x.blk, off := k } = false := f1 _ rfl
  have g4 : w.frozen? { block := x'.blk, off := k' } = false := f2 _ rfl
  simp [sameAddr, noView, viewAt, mayBeOne, stringish, b1, b2, s1, s2, g1, g2, g3, g4]
  exact fun h => absurd h hne

theorem eqFs_spec {eq : Nat → AV → AV → Option Bool} {d : Nat} (he : ∀ t x y r u u', eq t x y = some r → VR E x u → VR E y u' → (Op.equalIn d t u u').run P w = .ok r w) :
    ∀ (fs : List Field) (xs ys : List AV) (a b : Array Value) (r : Bool), VRs E xs a.toList → VRs E ys b.toList → eqIn.eqFs P hyp h eq fs xs ys = some r → (Op.eqFields d a b fs).run P w = .ok r w
  | [], xs, ys, a, b, r, _, _, hr => by
    simp only [eqIn.eqFs, Option.some.injEq] at hr
    subst hr
    rfl
  | f :: fs, xs, ys, a, b, r, hx, hy, hr => by
    simp only [eqIn.eqFs] at hr
    by_cases hn : f.name = "_"
    · rw [if_pos hn] at hr
      simp only [Op.eqFields]
      rw [if_neg (by simp [hn])]
      exact eqFs_spec he fs xs ys a b r hx hy hr
    · rw [if_neg hn] at hr
      simp only [Op.eqFields]
      rw [if_pos hn]
      cases hg : aggIn P f.type with
      | none => rw [hg] at hr; cases hr
      | some n =>
        rw [hg] at hr
        simp only at hr
        cases hp : partOf n xs f.offset with
        | none => rw [hp] at hr; cases hr
        | some x =>
          cases hq : partOf n ys f.offset with
          | none => rw [hp, hq] at hr; cases hr
          | some y =>
            rw [hp, hq] at hr
            simp only at hr
            obtain ⟨u, hu, hur⟩ := part_spec hg hx hp
            obtain ⟨u', hu', hur'⟩ := part_spec hg hy hq
            cases hb : eq f.type x y with
            | none => rw [hb] at hr; cases hr
            | some c =>
              rw [hb] at hr
              have := he _ _ _ _ _ _ hb hur hur'
              cases c with
              | false =>
                simp only [Option.some.injEq] at hr
                subst hr
                simp [hu, hu', this]
              | true =>
                simp only at hr
                simp only [Sem.run_bind, hu, Result.andThen_ok, hu', this, Bool.not_true, Bool.false_eq_true, if_false]
                exact eqFs_spec he fs xs ys a b r hx hy hr

set_option maxHeartbeats 4000000 in
theorem eqIn_spec (hh : HypOk hyp E.ρ) (hr : HRel E h w) : ∀ (d d' : Nat), d ≤ d' → ∀ t x y r u u', eqIn P hyp h d t x y = some r → VR E x u → VR E y u' → (Op.equalIn d' t u u').run P w = .ok r w
  | 0, _, _, t, x, y, r, u, u', he, _, _ => by simp [eqIn] at he
  | d + 1, d', hd, t, x, y, r, u, u', he, hx, hy => by
    obtain ⟨d', rfl⟩ : ∃ e, d' = e + 1 := ⟨d' - 1, by omega⟩
    simp only [eqIn] at he
    cases hu : P.underlying t with
    | none => rw [hu] at he; cases he
    | some td =>
      rw [hu] at he
      simp only at he
      split at he
      · -- bool
        obtain rfl : u = _ := hx
        obtain rfl : u' = _ := hy
        cases he
        simp [Op.equalIn, run_underlying hu]
      · -- int
        rename_i k a k' b
        obtain rfl : u = _ := hx
        obtain rfl : u' = _ := hy
        by_cases hk : k = k'
        · subst hk
          rw [if_pos rfl] at he
          have sym : hyp.find .eql a.sx b.sx = some r → r = (a.den E.ρ == b.den E.ρ) := by
            intro hf
            have := hh _ _ _ _ hf
            rw [AI.sx_den, AI.sx_den] at this
            simp only [icmp, Option.some.injEq, ieq_eq] at this
            exact this.symm
          have : r = (a.den E.ρ == b.den E.ρ) := by
            cases a with
            | c a => cases b with
              | c b => cases he; exact ieq_eq a b
              | s e => exact sym he
            | s e => exact sym he
          subst this
          simp [Op.equalIn, run_underlying hu]
        · rw [if_neg hk] at he; cases he
      · -- string
        obtain ⟨bs, rfl, rfl, rfl⟩ := hx
        obtain ⟨bs', rfl, rfl, rfl⟩ := hy
        cases he
        have : (bs == bs') = (Nat.beq bs.data.toList.length bs'.data.toList.length && Nat.beq (enc bs.data.toList) (enc bs'.data.toList)) := by
          rw [beq_toListBytes, ByteArray.toList_eq, ByteArray.toList_eq, Bool.eq_iff_iff, beq_iff_eq, Bool.and_eq_true, Nat.beq_eq, Nat.beq_eq]
          constructor
          · intro h; rw [h]; exact ⟨rfl, rfl⟩
          · intro ⟨h1, h2⟩; exact enc_inj _ _ h1 h2
        simp [Op.equalIn, run_underlying hu, this]
      · obtain rfl : u = _ := hx
        obtain rfl : u' = _ := hy
        cases he
        simp [Op.equalIn, run_underlying hu]
      · obtain rfl : u = _ := hx
        obtain ⟨s, _, rfl⟩ := hy
        cases he
        simp [Op.equalIn, run_underlying hu]
      · obtain ⟨s, _, rfl⟩ := hx
        obtain rfl : u' = _ := hy
        cases he
        simp [Op.equalIn, run_underlying hu]
      · -- two pointers
        rename_i e b o b' o'
        obtain ⟨s, hs, rfl⟩ := hx
        obtain ⟨s', hs', rfl⟩ := hy
        cases hz : sizeIn P e with
        | none => rw [hz] at he; cases he
        | some z =>
          rw [hz] at he
          simp only at he
          cases hz0 : Nat.beq z 0 with
          | true => rw [hz0] at he; cases he
          | false =>
            rw [hz0] at he
            simp only [cond_false] at he
            have hz1 : z ≠ 0 := by intro e; subst e; cases hz0
            have key : (Op.equalIn (d' + 1) t (.pointer (some (s.at o))) (.pointer (some (s'.at o')))).run P w = (sameAddr (s.at o) (s'.at o')).run P w := by
              simp [Op.equalIn, run_underlying hu, run_sizeOf hz, hz1]
            rw [key]
            cases hbb : Nat.beq b b' with
            | true =>
              rw [hbb] at he
              obtain rfl := Nat.eq_of_beq_eq_true hbb
              rw [hs] at hs'
              obtain rfl := Option.some.inj hs'
              simp only [cond_true] at he
              have : r = Nat.beq o o' := by
                split at he
                · cases he; rfl
                · cases he
              rw [this]
              exact run_sameAddr_one s o o'
            | false =>
              rw [hbb] at he
              simp only [cond_false] at he
              have hbne : b ≠ b' := by intro e; subst e; rw [Nat.beq_refl] at hbb; cases hbb
              split at he
              · rename_i ct n sh fam co pl ro ct' n' sh' fam' co' pl' ro' hg hg'
                cases hc : ((!(sh && sh') || !(Nat.beq fam fam')) && (pl && (pl' && (Nat.blt o n && Nat.blt o' n')))) with
                | false => rw [hc] at he; cases he
                | true =>
                  rw [hc] at he
                  cases he
                  simp only [Bool.and_eq_true] at hc
                  obtain ⟨c1, c2, c3, _⟩ := hc
                  subst c2 c3
                  obtain ⟨y, hy, hyo⟩ := hr.obj b _ hg
                  obtain ⟨y', hy', hyo'⟩ := hr.obj b' _ hg'
                  rw [hs] at hy
                  obtain rfl := Option.some.inj hy
                  rw [hs'] at hy'
                  obtain rfl := Option.some.inj hy'
                  refine run_sameAddr_two (fun e => ?_) hyo hyo'
                  obtain ⟨_, _, _, _, _, _, _, _, _, e1, e2, _⟩ := hr.sep b b' _ _ s s' hbne hg hg' hs hs' e
                  cases e1
                  cases e2
                  rw [Nat.beq_refl] at c1
                  simp at c1
              · cases he
      · obtain rfl : u = _ := hx
        obtain rfl : u' = _ := hy
        cases he
        simp [Op.equalIn, run_underlying hu]
      · obtain rfl : u = _ := hx
        obtain ⟨s, rfl, _⟩ := hy
        cases he
        simp [Op.equalIn, run_underlying hu]
      · obtain ⟨s, rfl, _⟩ := hx
        obtain rfl : u' = _ := hy
        cases he
        simp [Op.equalIn, run_underlying hu]
      · -- two interface values
        rename_i tx vx ty vy
        obtain ⟨a, rfl, ha⟩ := hx
        obtain ⟨b, rfl, hb⟩ := hy
        cases hbb : Nat.beq tx ty with
        | false =>
          rw [hbb] at he
          cases he
          have hne : tx ≠ ty := by intro e; subst e; rw [Nat.beq_refl] at hbb; cases hbb
          simp [Op.equalIn, run_underlying hu, hne]
        | true =>
          rw [hbb] at he
          obtain rfl := Nat.eq_of_beq_eq_true hbb
          simp only [Bool.not_true, cond_false] at he
          cases hi : P.info? tx with
          | none => rw [hi] at he; cases he
          | some i =>
            rw [hi] at he
            simp only at he
            cases hc : i.comparable with
            | false => rw [hc] at he; cases he
            | true =>
              rw [hc] at he
              simp only [cond_true] at he
              have ih := eqIn_spec hh hr d d' (by omega) tx vx vy r a b he ha hb
              simp only [Op.equalIn, Sem.run_bind, run_underlying hu, Result.andThen_ok, ne_eq, not_true_eq_false, if_false, run_typeInfo hi, hc, Bool.not_true, Bool.false_eq_true, ih]
      · -- structs
        rename_i fs xs ys
        obtain ⟨a, rfl, ha⟩ := hx
        obtain ⟨b, rfl, hb⟩ := hy
        cases hst : P.stoodInHeld t with
        | true => rw [hst] at he; cases he
        | false =>
          rw [hst] at he
          simp only [cond_false] at he
          have hf : P.fieldsOf t = fs := by simp [Program.fieldsOf, hu]
          rw [run_equalIn_struct w d' t a b (by rw [hf]; exact hu) hst, hf]
          exact eqFs_spec (fun t x y r u u' he hx hy => eqIn_spec hh hr d d' (by omega) t x y r u u' he hx hy) fs.toList xs ys a b r ha hb he
      · obtain rfl : u = _ := hx
        obtain rfl : u' = _ := hy
        cases he
        simp [Op.equalIn, run_underlying hu]
      · obtain rfl : u = _ := hx
        obtain ⟨b, c, rfl, _⟩ := hy
        cases he
        simp [Op.equalIn, run_underlying hu]
      · obtain ⟨b, c, rfl, _⟩ := hx
        obtain rfl : u' = _ := hy
        cases he
        simp [Op.equalIn, run_underlying hu]
      · obtain rfl : u = _ := hx
        obtain rfl : u' = _ := hy
        cases he
        simp [Op.equalIn, run_underlying hu]
      · obtain rfl : u = _ := hx
        obtain ⟨b, _, rfl⟩ := hy
        cases he
        simp [Op.equalIn, run_underlying hu]
      · obtain ⟨b, _, rfl⟩ := hx
        obtain rfl : u' = _ := hy
        cases he
        simp [Op.equalIn, run_underlying hu]
      · obtain rfl : u = _ := hx
        obtain rfl : u' = _ := hy
        cases he
        simp [Op.equalIn, run_underlying hu]
      · obtain rfl : u = _ := hx
        obtain ⟨b, c, rfl, _⟩ := hy
        cases he
        simp [Op.equalIn, run_underlying hu]
      · obtain ⟨b, c, rfl, _⟩ := hx
        obtain rfl : u' = _ := hy
        cases he
        simp [Op.equalIn, run_underlying hu]
      · cases he
end
end Go.Am
