/- printed by WCgen.lean -/
import Derived.Test.YtbakjgolhekmgaaGreatDoorWZ
import Derived.Test.YtbakjgolhekmgaaGreatDoorWNum
namespace Go.Am.WC
open Go.Proofs
set_option maxRecDepth 1000000
set_option maxHeartbeats 0
def zInv (E0 : Env) (ρ : Nat → Int) : Prop := (∀ k, k ≠ 1 → ρ k = E0.ρ k) ∧ 2 ≤ ρ 1 ∧ ρ 1 ≤ 2000
theorem z_good (E0 : Env) (w0 : World) : Good Tryz.prog E0 (heapOf zrows 4160) w0 33 zxR (heapOf zxrows 4160) (fun ρ => ρ = E0.ρ) zy := by
  refine Good.steps (hyp := []) hmix (sm0_sound []) (fun _ _ => trivial) (by decide) (Nat.le_refl _) zc (Good.sub _ (ψ := zInv E0) ?_ ?_)
  · rintro _ rfl
    refine ⟨fun k hk => ?_, (by show (2 : Int) ≤ 2; omega), (by show (2 : Int) ≤ 2000; omega)⟩
    match k, hk with
    | 0, _ => rfl
    | k + 2, _ => rfl
  · refine Good.loop (fun ρ => (2000 - ρ 1).toNat) fun m ih => Good.split (fun ρ => ρ 1 + 1 ≤ 2000) ?_ ?_
    · refine Good.steps hmix (sm0_sound _) ?_ (by decide) (Nat.le_refl _) zt (Good.sub _ ?_ ih)
      · rintro ρ ⟨⟨⟨h0, h1, h2⟩, hm⟩, hc⟩
        exact ⟨(gtr_adds_f 1 (by omega) (by omega)), trivial⟩
      · rintro ρ ⟨⟨⟨h0, h1, h2⟩, hm⟩, hc⟩
        have hd : SX.den ρ (.op2 .add .i64 (.var 1) (.lit (.ofNat 1))) = ρ 1 + 1 := den_adds (by omega) 1 (by omega)
        refine ⟨⟨fun k hk => ?_, ?_, ?_⟩, ?_⟩
        · match k, hk with
          | 0, _ => exact h0 0 (by decide)
          | k + 2, _ => exact h0 (k + 2) (by omega)
        · show 2 ≤ SX.den ρ (.op2 .add .i64 (.var 1) (.lit (.ofNat 1)))
          omega
        · show SX.den ρ (.op2 .add .i64 (.var 1) (.lit (.ofNat 1))) ≤ 2000
          omega
        · show (2000 - SX.den ρ (.op2 .add .i64 (.var 1) (.lit (.ofNat 1)))).toNat < m
          omega
    · refine Good.unsub (V [(.var 0), (.lit (.ofNat 2000))]) ?_ (Good.fin hmix (sm0_sound []) (fun _ _ => trivial) (by decide) (Nat.le_refl _) (g := V []) (by rintro _ rfl; rfl) zxfin)
      rintro ρ ⟨⟨⟨h0, h1, h2⟩, hm⟩, hc⟩
      funext k
      match k with
      | 0 => exact h0 0 (by decide)
      | 1 =>
        show ρ 1 = (2000 : Int)
        omega
      | k + 2 => exact h0 (k + 2) (by omega)
theorem z_sound (hyp : Hyp) : CSound Tryz.prog hyp zxsm := call_sound zhen (by kernel_rfl) (by kernel_rfl) (fun E0 w0 _ => z_good E0 w0)
end Go.Am.WC
