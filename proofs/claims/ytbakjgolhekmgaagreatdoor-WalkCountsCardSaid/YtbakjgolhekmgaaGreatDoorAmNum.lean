/- Numbers: expressions' values; comparisons; states whose numbers are given by others. -/
import Derived.Test.YtbakjgolhekmgaaGreatDoorAmLit
import Derived.Laws.BitsLemmas
namespace Go.Am

theorem den_var (i : Nat) (ρ : Nat → Int) : (SX.var i).den ρ = ρ i := rfl
theorem den_lit (n : Nat) (ρ : Nat → Int) : (SX.lit (.ofNat n)).den ρ = (n : Int) := rfl
theorem den_neg (n : Nat) (ρ : Nat → Int) : (SX.lit (.negSucc n)).den ρ = -((n : Int) + 1) := by
  show Int.negSucc n = _
  omega
theorem den_add (a b : SX) (ρ : Nat → Int) : (SX.op2 .add .i64 a b).den ρ = (a.den ρ + b.den ρ + 9223372036854775808) % 18446744073709551616 - 9223372036854775808 := by
  show (some (wr .i64 (Int.add (a.den ρ) (b.den ρ)))).getD 0 = _
  rw [Option.getD_some, wr_eq, IntKind.wrap_i64]
  rfl
theorem den_sub (a b : SX) (ρ : Nat → Int) : (SX.op2 .sub .i64 a b).den ρ = (a.den ρ - b.den ρ + 9223372036854775808) % 18446744073709551616 - 9223372036854775808 := by
  show (some (wr .i64 (Int.sub (a.den ρ) (b.den ρ)))).getD 0 = _
  rw [Option.getD_some, wr_eq, IntKind.wrap_i64]
  rfl
theorem den_mul (n : Nat) (b : SX) (ρ : Nat → Int) : (SX.op2 .mul .i64 (.lit (.ofNat n)) b).den ρ = ((n : Int) * b.den ρ + 9223372036854775808) % 18446744073709551616 - 9223372036854775808 := by
  show (some (wr .i64 (Int.mul (Int.ofNat n) (b.den ρ)))).getD 0 = _
  rw [Option.getD_some, wr_eq, IntKind.wrap_i64]
  rfl
theorem den_conv (a : SX) (ρ : Nat → Int) : (SX.conv .i64 a).den ρ = (a.den ρ + 9223372036854775808) % 18446744073709551616 - 9223372036854775808 := by
  show IntKind.i64.wrap (a.den ρ) = _
  rw [IntKind.wrap_i64]
theorem den_mn (a b : SX) (ρ : Nat → Int) : (SX.mn a b).den ρ = if b.den ρ < a.den ρ then b.den ρ else a.den ρ := rfl
theorem den_mx (a b : SX) (ρ : Nat → Int) : (SX.mx a b).den ρ = if b.den ρ > a.den ρ then b.den ρ else a.den ρ := rfl

theorem icmp_eql (x y : Int) : icmp .eql x y = some (decide (x = y)) := by
  show some (ieq x y) = _
  rw [ieq_eq]
  by_cases h : x = y
  · simp [h]
  · simp [h]
theorem icmp_neq (x y : Int) : icmp .neq x y = some (decide (x ≠ y)) := by
  show some (!(ieq x y)) = _
  rw [ieq_eq]
  by_cases h : x = y
  · simp [h]
  · simp [h]
theorem icmp_lss (x y : Int) : icmp .lss x y = some (decide (x < y)) := by
  show some (!(ile y x)) = _
  rw [ile_eq]
  by_cases h : y ≤ x
  · simp [h]
  · simp [h]; omega
theorem icmp_leq (x y : Int) : icmp .leq x y = some (decide (x ≤ y)) := by
  show some (ile x y) = _
  rw [ile_eq]
theorem icmp_gtr (x y : Int) : icmp .gtr x y = some (decide (y < x)) := by
  show some (!(ile x y)) = _
  rw [ile_eq]
  by_cases h : x ≤ y
  · simp [h]
  · simp [h]; omega
theorem icmp_geq (x y : Int) : icmp .geq x y = some (decide (y ≤ x)) := by
  show some (ile y x) = _
  rw [ile_eq]
theorem cmp_t {p : Prop} [Decidable p] (h : p) : some (decide p) = some true := by rw [decide_eq_true h]
theorem cmp_f {p : Prop} [Decidable p] (h : ¬ p) : some (decide p) = some false := by rw [decide_eq_false h]

/-- a number within bounds. -/
def Within (lo hi : Int) (ρ : Nat → Int) : Prop := lo ≤ ρ 0 ∧ ρ 0 ≤ hi
abbrev HC (lo hi : Int) : Hyp := [(.geq, .var 0, .lit lo, true), (.leq, .var 0, .lit hi, true)]
theorem HC.within {lo hi : Int} {l : Hyp} {ρ : Nat → Int} (h : HypOk (HC lo hi ++ l) ρ) : Within lo hi ρ := by
  have h1 := h .geq (.var 0) (.lit lo) true (by show (if _ then _ else _) = _; rw [if_pos ⟨rfl, rfl, rfl⟩])
  have h2 := h .leq (.var 0) (.lit hi) true (by
    show (if _ then _ else (if _ then _ else _)) = _
    rw [if_neg (by rintro ⟨e, _⟩; cases e), if_pos ⟨rfl, rfl, rfl⟩])
  rw [icmp_geq] at h1
  rw [icmp_leq] at h2
  simp only [Option.some.injEq, decide_eq_true_eq] at h1 h2
  exact ⟨h1, h2⟩
theorem HypT.append {ρ : Nat → Int} : ∀ {a b : Hyp}, HypT ρ a → HypT ρ b → HypT ρ (a ++ b)
  | [], _, _, h => h
  | _ :: _, _, ⟨h1, h2⟩, h => ⟨h1, HypT.append h2 h⟩
theorem Within.hyp {lo hi : Int} {ρ : Nat → Int} (h : Within lo hi ρ) : HypT ρ (HC lo hi) := by
  refine ⟨?_, ?_, trivial⟩
  · rw [icmp_geq]; exact cmp_t h.1
  · rw [icmp_leq]; exact cmp_t h.2

section
variable {P : Program} {E : Env} {f : Nat → SX}
theorem TRel.unsub {tm : Tr AV} {vs : Array Value} (h : TRel (E.sub f) tm vs) : TRel E (tm.map (AV.sub f)) vs := by
  intro t v hv
  rw [Tr.get_map] at hv
  cases hg : tm.get t with
  | none => rw [hg] at hv; cases hv
  | some a => rw [hg] at hv; cases hv; exact VR.unsub a _ (h t a hg)
theorem DsRel.unsub : ∀ {d : List (Nat × List AV)} {ds : List Deferred}, DsRel P (E.sub f) d ds → DsRel P E (dsSub f d) ds
  | [], _, h => h
  | (_, _) :: _, _, ⟨y, ys, h1, ⟨fn, cap, zs, h2, h3, h4⟩, h5⟩ => ⟨y, ys, h1, ⟨fn, cap, zs, h2, VRs.unsub _ _ h3, h4⟩, DsRel.unsub h5⟩
theorem MRel.unsub {m : AMode} {fm : FrameMode} (h : MRel (E.sub f) m fm) : MRel E (m.sub f) fm := by
  cases m with
  | run => exact h
  | returning => exact h
  | panicking c => obtain ⟨c', h1, h2⟩ := h; exact ⟨c', h1, PsRel.unsub h2⟩
theorem FRel.unsub {c : AF} {fr : Frame} (h : FRel P (E.sub f) c fr) : FRel P E (c.sub f) fr :=
  ⟨h.fn, h.is, TRel.unsub h.tm, h.size, fun hm => h.todo (mode_sub_run.1 hm), DsRel.unsub h.defers, MRel.unsub h.mode, h.kind, h.round⟩
theorem FsRel.unsub : ∀ {cs : List AF} {fs : List Frame}, FsRel P (E.sub f) cs fs → FsRel P E (fsSub f cs) fs
  | [], _, h => h
  | _ :: _, _, ⟨y, ys, h1, h2, h3⟩ => ⟨y, ys, h1, FRel.unsub h2, FsRel.unsub h3⟩
theorem SRel.unsub {s : St} {fr : Frame} {fs : List Frame} {w : World} (h : SRel P (E.sub f) s fr fs w) : SRel P E (s.sub f) fr fs w :=
  ⟨HRel.unsub h.hr, FRel.unsub h.fr, FsRel.unsub h.cs⟩
variable {E0 : Env} {h0 h1 : AH} {w0 : World} {f0 : Nat} {r0 : AEnd} {φ : (Nat → Int) → Prop}
theorem Good.unsub (f : Nat → SX) {S : St} (hφ : ∀ ρ, φ ρ → ρ = fun k => (f k).den E0.ρ) (g : Good P E0 h0 w0 f0 r0 h1 (fun ρ => ρ = E0.ρ) (S.sub f)) : Good P E0 h0 w0 f0 r0 h1 φ S := by
  intro E fr fs w hp hs hm hb base
  have hE : E = Env.sub ⟨E.σ, E0.ρ⟩ f := by
    show (⟨E.σ, E.ρ⟩ : Env) = _
    rw [hφ _ hp]; rfl
  rw [hE] at hs
  exact g ⟨E.σ, E0.ρ⟩ fr fs w rfl hs.unsub (hm.unsub (f := f) E0.ρ) (by rw [bot_sub]; exact hb) base
end
end Go.Am
