/- Numbers of WalkCounts. -/
import Derived.Test.YtbakjgolhekmgaaGreatDoorAmNum
import Derived.Test.YtbakjgolhekmgaaGreatDoorWBase
namespace Go.Am.WC
theorem den_T (ρ : Nat → Int) : (SX.mn (.mx (.var 0) (.lit (.ofNat 0))) (.lit (.ofNat 5000))).den ρ = min (max (ρ 0) 0) 5000 := by
  rw [den_mn, den_mx, den_var, den_lit, den_lit]
  split <;> split <;> omega
theorem den_X0 (ρ : Nat → Int) : (SX.op2 .add .i64 (.lit (.ofNat 1)) (SX.mn (.mx (.var 0) (.lit (.ofNat 0))) (.lit (.ofNat 5000)))).den ρ = 1 + min (max (ρ 0) 0) 5000 := by
  have h : 0 ≤ min (max (ρ 0) 0) 5000 ∧ min (max (ρ 0) 0) 5000 ≤ 5000 := by omega
  simp only [den_add, den_mul, den_T, den_lit]
  generalize min (max (ρ 0) 0) 5000 = t at h
  omega
theorem den_cX0 (ρ : Nat → Int) : (SX.conv .i64 (SX.op2 .add .i64 (.lit (.ofNat 1)) (SX.mn (.mx (.var 0) (.lit (.ofNat 0))) (.lit (.ofNat 5000))))).den ρ = 1 + min (max (ρ 0) 0) 5000 := by
  have h : 0 ≤ min (max (ρ 0) 0) 5000 ∧ min (max (ρ 0) 0) 5000 ≤ 5000 := by omega
  rw [den_conv, den_X0]
  generalize min (max (ρ 0) 0) 5000 = t at h
  omega
theorem den_X1 (ρ : Nat → Int) : (SX.op2 .add .i64 (.lit (.ofNat 2)) (.op2 .mul .i64 (.lit (.ofNat 2)) (SX.mn (.mx (.var 0) (.lit (.ofNat 0))) (.lit (.ofNat 5000))))).den ρ = 2 + 2 * min (max (ρ 0) 0) 5000 := by
  have h : 0 ≤ min (max (ρ 0) 0) 5000 ∧ min (max (ρ 0) 0) 5000 ≤ 5000 := by omega
  simp only [den_add, den_mul, den_T, den_lit]
  generalize min (max (ρ 0) 0) 5000 = t at h
  omega
theorem den_cX1 (ρ : Nat → Int) : (SX.conv .i64 (SX.op2 .add .i64 (.lit (.ofNat 2)) (.op2 .mul .i64 (.lit (.ofNat 2)) (SX.mn (.mx (.var 0) (.lit (.ofNat 0))) (.lit (.ofNat 5000)))))).den ρ = 2 + 2 * min (max (ρ 0) 0) 5000 := by
  have h : 0 ≤ min (max (ρ 0) 0) 5000 ∧ min (max (ρ 0) 0) 5000 ≤ 5000 := by omega
  rw [den_conv, den_X1]
  generalize min (max (ρ 0) 0) 5000 = t at h
  omega
theorem den_X2 (ρ : Nat → Int) : (SX.op2 .add .i64 (.lit (.ofNat 1)) (.op2 .mul .i64 (.lit (.ofNat 5)) (SX.mn (.mx (.var 0) (.lit (.ofNat 0))) (.lit (.ofNat 5000))))).den ρ = 1 + 5 * min (max (ρ 0) 0) 5000 := by
  have h : 0 ≤ min (max (ρ 0) 0) 5000 ∧ min (max (ρ 0) 0) 5000 ≤ 5000 := by omega
  simp only [den_add, den_mul, den_T, den_lit]
  generalize min (max (ρ 0) 0) 5000 = t at h
  omega
theorem den_cX2 (ρ : Nat → Int) : (SX.conv .i64 (SX.op2 .add .i64 (.lit (.ofNat 1)) (.op2 .mul .i64 (.lit (.ofNat 5)) (SX.mn (.mx (.var 0) (.lit (.ofNat 0))) (.lit (.ofNat 5000)))))).den ρ = 1 + 5 * min (max (ρ 0) 0) 5000 := by
  have h : 0 ≤ min (max (ρ 0) 0) 5000 ∧ min (max (ρ 0) 0) 5000 ≤ 5000 := by omega
  rw [den_conv, den_X2]
  generalize min (max (ρ 0) 0) 5000 = t at h
  omega
theorem den_X3 (ρ : Nat → Int) : (SX.op2 .add .i64 (.lit (.ofNat 1)) (.op2 .mul .i64 (.lit (.ofNat 2)) (SX.mn (.mx (.var 0) (.lit (.ofNat 0))) (.lit (.ofNat 5000))))).den ρ = 1 + 2 * min (max (ρ 0) 0) 5000 := by
  have h : 0 ≤ min (max (ρ 0) 0) 5000 ∧ min (max (ρ 0) 0) 5000 ≤ 5000 := by omega
  simp only [den_add, den_mul, den_T, den_lit]
  generalize min (max (ρ 0) 0) 5000 = t at h
  omega
theorem den_cX3 (ρ : Nat → Int) : (SX.conv .i64 (SX.op2 .add .i64 (.lit (.ofNat 1)) (.op2 .mul .i64 (.lit (.ofNat 2)) (SX.mn (.mx (.var 0) (.lit (.ofNat 0))) (.lit (.ofNat 5000)))))).den ρ = 1 + 2 * min (max (ρ 0) 0) 5000 := by
  have h : 0 ≤ min (max (ρ 0) 0) 5000 ∧ min (max (ρ 0) 0) 5000 ≤ 5000 := by omega
  rw [den_conv, den_X3]
  generalize min (max (ρ 0) 0) 5000 = t at h
  omega
/-- one less, so often. -/
def subs : Nat → SX
  | 0 => .var 0
  | k + 1 => .op2 .sub .i64 (subs k) (.lit (.ofNat 1))
theorem den_subs {ρ : Nat → Int} (h : ρ 0 ≤ 9223372036854775807) : ∀ k : Nat, (k : Int) ≤ ρ 0 + 1 → (subs k).den ρ = ρ 0 - k
  | 0, _ => by simp [subs, den_var]
  | k + 1, hk => by
    have ih := den_subs h k (by omega)
    rw [subs, den_sub, ih, den_lit]
    omega
theorem geq_subs_t {ρ : Nat → Int} (k : Nat) (h : (k : Int) ≤ ρ 0) (h2 : ρ 0 ≤ 9223372036854775807) : icmp .geq ((subs k).den ρ) ((SX.lit (.ofNat 0)).den ρ) = some true := by
  rw [icmp_geq, den_subs h2 k (by omega), den_lit]
  exact cmp_t (by omega)
theorem geq_subs_f {ρ : Nat → Int} (k : Nat) (h : (k : Int) = ρ 0 + 1) (h2 : ρ 0 ≤ 9223372036854775807) : icmp .geq ((subs k).den ρ) ((SX.lit (.ofNat 0)).den ρ) = some false := by
  rw [icmp_geq, den_subs h2 k (by omega), den_lit]
  exact cmp_f (by omega)
/-- the steps so far, and so many more. -/
def adds : Nat → SX
  | 0 => .var 1
  | k + 1 => .op2 .add .i64 (adds k) (.lit (.ofNat 1))
theorem den_adds {ρ : Nat → Int} (h : 0 ≤ ρ 1) : ∀ k : Nat, ρ 1 + k ≤ 1000000 → (adds k).den ρ = ρ 1 + k
  | 0, _ => by simp [adds, den_var]
  | k + 1, hk => by
    have ih := den_adds h k (by omega)
    rw [adds, den_add, ih, den_lit]
    omega
theorem gtr_adds_f {ρ : Nat → Int} (k : Nat) (h : 0 ≤ ρ 1) (h2 : ρ 1 + k ≤ 2000) : icmp .gtr ((adds k).den ρ) ((SX.lit (.ofNat 2000)).den ρ) = some false := by
  rw [icmp_gtr, den_adds h k (by omega), den_lit]
  exact cmp_f (by omega)
end Go.Am.WC
