/- printed by WCgen.lean -/
import Derived.Test.YtbakjgolhekmgaaGreatDoorWQ0
import Derived.Test.YtbakjgolhekmgaaGreatDoorWQ1
import Derived.Test.YtbakjgolhekmgaaGreatDoorWQ2
import Derived.Test.YtbakjgolhekmgaaGreatDoorWQ3
import Derived.Test.YtbakjgolhekmgaaGreatDoorWQ4
import Derived.Test.YtbakjgolhekmgaaGreatDoorWZp
namespace Go.Am.WC
open Go.Proofs
set_option maxRecDepth 1000000
set_option maxHeartbeats 0
theorem L4_all (E0 : Env) (w0 : World) (hn : -9223372036854775808 ≤ E0.ρ 0 ∧ E0.ρ 0 ≤ 9223372036854775807) : Good Tryz.prog E0 h0 w0 3 (.ret (.bool true)) ⟨.leaf, .leaf, 4106⟩ (fun ρ => ρ = E0.ρ) (Lw 4) := by
  obtain ⟨h1, h2⟩ := hn
  have h : (E0.ρ 0 ≤ 0) ∨ (E0.ρ 0 = 1) ∨ (E0.ρ 0 = 2) ∨ (E0.ρ 0 = 3) ∨ (E0.ρ 0 = 4) ∨ (E0.ρ 0 = 5) ∨ (E0.ρ 0 = 6) ∨ (E0.ρ 0 = 7) ∨ (E0.ρ 0 = 8) ∨ (E0.ρ 0 = 9) ∨ (E0.ρ 0 = 10) ∨ (E0.ρ 0 = 11) ∨ (E0.ρ 0 = 12) ∨ (E0.ρ 0 = 13) ∨ (E0.ρ 0 = 14) ∨ (E0.ρ 0 = 15) ∨ (E0.ρ 0 = 16) ∨ (17 ≤ E0.ρ 0) := by omega
  rcases h with h | h | h | h | h | h | h | h | h | h | h | h | h | h | h | h | h | h
  · exact L4A_good E0 w0 ⟨by omega, by omega⟩
  · exact L4k1_good E0 w0 ⟨by omega, by omega⟩
  · exact L4k2_good E0 w0 ⟨by omega, by omega⟩
  · exact L4k3_good E0 w0 ⟨by omega, by omega⟩
  · exact L4k4_good E0 w0 ⟨by omega, by omega⟩
  · exact L4k5_good E0 w0 ⟨by omega, by omega⟩
  · exact L4k6_good E0 w0 ⟨by omega, by omega⟩
  · exact L4k7_good E0 w0 ⟨by omega, by omega⟩
  · exact L4k8_good E0 w0 ⟨by omega, by omega⟩
  · exact L4k9_good E0 w0 ⟨by omega, by omega⟩
  · exact L4k10_good E0 w0 ⟨by omega, by omega⟩
  · exact L4k11_good E0 w0 ⟨by omega, by omega⟩
  · exact L4k12_good E0 w0 ⟨by omega, by omega⟩
  · exact L4k13_good E0 w0 ⟨by omega, by omega⟩
  · exact L4k14_good E0 w0 ⟨by omega, by omega⟩
  · exact L4k15_good E0 w0 ⟨by omega, by omega⟩
  · exact L4k16_good E0 w0 ⟨by omega, by omega⟩
  · exact L4C_good E0 w0 ⟨by omega, by omega⟩
theorem L3_all (E0 : Env) (w0 : World) (hn : -9223372036854775808 ≤ E0.ρ 0 ∧ E0.ρ 0 ≤ 9223372036854775807) : Good Tryz.prog E0 h0 w0 3 (.ret (.bool true)) ⟨.leaf, .leaf, 4106⟩ (fun ρ => ρ = E0.ρ) (Lw 3) := by
  obtain ⟨h1, h2⟩ := hn
  have h : (E0.ρ 0 ≤ 0) ∨ (E0.ρ 0 = 1) ∨ (E0.ρ 0 = 2) ∨ (E0.ρ 0 = 3) ∨ (E0.ρ 0 = 4) ∨ (E0.ρ 0 = 5) ∨ (E0.ρ 0 = 6) ∨ (E0.ρ 0 = 7) ∨ (E0.ρ 0 = 8) ∨ (E0.ρ 0 = 9) ∨ (E0.ρ 0 = 10) ∨ (E0.ρ 0 = 11) ∨ (E0.ρ 0 = 12) ∨ (E0.ρ 0 = 13) ∨ (E0.ρ 0 = 14) ∨ (E0.ρ 0 = 15) ∨ (E0.ρ 0 = 16) ∨ (17 ≤ E0.ρ 0) := by omega
  rcases h with h | h | h | h | h | h | h | h | h | h | h | h | h | h | h | h | h | h
  · exact L3A_good E0 w0 ⟨by omega, by omega⟩ (L4_all E0 w0 ⟨h1, h2⟩)
  · exact L3k1_good E0 w0 ⟨by omega, by omega⟩ (L4_all E0 w0 ⟨h1, h2⟩)
  · exact L3k2_good E0 w0 ⟨by omega, by omega⟩ (L4_all E0 w0 ⟨h1, h2⟩)
  · exact L3k3_good E0 w0 ⟨by omega, by omega⟩ (L4_all E0 w0 ⟨h1, h2⟩)
  · exact L3k4_good E0 w0 ⟨by omega, by omega⟩ (L4_all E0 w0 ⟨h1, h2⟩)
  · exact L3k5_good E0 w0 ⟨by omega, by omega⟩ (L4_all E0 w0 ⟨h1, h2⟩)
  · exact L3k6_good E0 w0 ⟨by omega, by omega⟩ (L4_all E0 w0 ⟨h1, h2⟩)
  · exact L3k7_good E0 w0 ⟨by omega, by omega⟩ (L4_all E0 w0 ⟨h1, h2⟩)
  · exact L3k8_good E0 w0 ⟨by omega, by omega⟩ (L4_all E0 w0 ⟨h1, h2⟩)
  · exact L3k9_good E0 w0 ⟨by omega, by omega⟩ (L4_all E0 w0 ⟨h1, h2⟩)
  · exact L3k10_good E0 w0 ⟨by omega, by omega⟩ (L4_all E0 w0 ⟨h1, h2⟩)
  · exact L3k11_good E0 w0 ⟨by omega, by omega⟩ (L4_all E0 w0 ⟨h1, h2⟩)
  · exact L3k12_good E0 w0 ⟨by omega, by omega⟩ (L4_all E0 w0 ⟨h1, h2⟩)
  · exact L3k13_good E0 w0 ⟨by omega, by omega⟩ (L4_all E0 w0 ⟨h1, h2⟩)
  · exact L3k14_good E0 w0 ⟨by omega, by omega⟩ (L4_all E0 w0 ⟨h1, h2⟩)
  · exact L3k15_good E0 w0 ⟨by omega, by omega⟩ (L4_all E0 w0 ⟨h1, h2⟩)
  · exact L3k16_good E0 w0 ⟨by omega, by omega⟩ (L4_all E0 w0 ⟨h1, h2⟩)
  · exact L3C_good E0 w0 ⟨by omega, by omega⟩ (L4_all E0 w0 ⟨h1, h2⟩)
theorem L2_all (E0 : Env) (w0 : World) (hn : -9223372036854775808 ≤ E0.ρ 0 ∧ E0.ρ 0 ≤ 9223372036854775807) : Good Tryz.prog E0 h0 w0 3 (.ret (.bool true)) ⟨.leaf, .leaf, 4106⟩ (fun ρ => ρ = E0.ρ) (Lw 2) := by
  obtain ⟨h1, h2⟩ := hn
  have h : (E0.ρ 0 ≤ 0) ∨ (1 ≤ E0.ρ 0 ∧ E0.ρ 0 ≤ 399) ∨ (400 ≤ E0.ρ 0) := by omega
  rcases h with h | h | h
  · exact L2A_good E0 w0 ⟨by omega, by omega⟩ (L3_all E0 w0 ⟨h1, h2⟩)
  · exact L2B_good E0 w0 ⟨by omega, by omega⟩ (L3_all E0 w0 ⟨h1, h2⟩)
  · exact L2C_good E0 w0 ⟨by omega, by omega⟩ (L3_all E0 w0 ⟨h1, h2⟩)
theorem L1_all (E0 : Env) (w0 : World) (hn : -9223372036854775808 ≤ E0.ρ 0 ∧ E0.ρ 0 ≤ 9223372036854775807) : Good Tryz.prog E0 h0 w0 3 (.ret (.bool true)) ⟨.leaf, .leaf, 4106⟩ (fun ρ => ρ = E0.ρ) (Lw 1) := by
  obtain ⟨h1, h2⟩ := hn
  have h : (E0.ρ 0 ≤ 0) ∨ (1 ≤ E0.ρ 0 ∧ E0.ρ 0 ≤ 999) ∨ (1000 ≤ E0.ρ 0) := by omega
  rcases h with h | h | h
  · exact L1A_good E0 w0 ⟨by omega, by omega⟩ (L2_all E0 w0 ⟨h1, h2⟩)
  · exact L1B_good E0 w0 ⟨by omega, by omega⟩ (L2_all E0 w0 ⟨h1, h2⟩)
  · exact L1C_good E0 w0 ⟨by omega, by omega⟩ (L2_all E0 w0 ⟨h1, h2⟩)
theorem L0_all (E0 : Env) (w0 : World) (hn : -9223372036854775808 ≤ E0.ρ 0 ∧ E0.ρ 0 ≤ 9223372036854775807) : Good Tryz.prog E0 h0 w0 3 (.ret (.bool true)) ⟨.leaf, .leaf, 4106⟩ (fun ρ => ρ = E0.ρ) (Lw 0) := by
  obtain ⟨h1, h2⟩ := hn
  have h : (E0.ρ 0 ≤ 0) ∨ (1 ≤ E0.ρ 0 ∧ E0.ρ 0 ≤ 1999) ∨ (2000 ≤ E0.ρ 0) := by omega
  rcases h with h | h | h
  · exact L0A_good E0 w0 ⟨by omega, by omega⟩ (L1_all E0 w0 ⟨h1, h2⟩)
  · exact L0B_good E0 w0 ⟨by omega, by omega⟩ (L1_all E0 w0 ⟨h1, h2⟩)
  · exact L0C_good E0 w0 ⟨by omega, by omega⟩ (L1_all E0 w0 ⟨h1, h2⟩)
theorem all_good (E0 : Env) (w0 : World) (hn : -9223372036854775808 ≤ E0.ρ 0 ∧ E0.ρ 0 ≤ 9223372036854775807) : Good Tryz.prog E0 h0 w0 3 (.ret (.bool true)) ⟨.leaf, .leaf, 4106⟩ (fun ρ => ρ = E0.ρ) s0 :=
  (Good.steps (hyp := []) hmix (sm0_sound []) (fun _ _ => trivial) (by decide) (Nat.le_refl _) tc0
  (Good.steps (hyp := []) hmix (sm0_sound []) (fun _ _ => trivial) (by decide) (Nat.le_refl _) tc1
  (Good.steps (hyp := []) hmix (sm0_sound []) (fun _ _ => trivial) (by decide) (Nat.le_refl _) tc2
  (Good.steps (hyp := []) hmix (sm0_sound []) (fun _ _ => trivial) (by decide) (Nat.le_refl _) tc3
  (Good.steps (hyp := []) hmix (sm0_sound []) (fun _ _ => trivial) (by decide) (Nat.le_refl _) tc4
  (Good.steps (hyp := []) hmix (sm0_sound []) (fun _ _ => trivial) (by decide) (Nat.le_refl _) tc5
  (Good.steps (hyp := []) hmix (sm0_sound []) (fun _ _ => trivial) (by decide) (Nat.le_refl _) tc6
  (Good.steps (hyp := []) hmix (orS_sound (z_sound []) (sm0_sound [])) (fun _ _ => trivial) (by decide) (Nat.le_refl _) uc0
  (Good.steps (hyp := []) hmix (orS_sound (z_sound []) (sm0_sound [])) (fun _ _ => trivial) (by decide) (Nat.le_refl _) uc1
  (Good.steps (hyp := []) hmix (orS_sound (z_sound []) (sm0_sound [])) (fun _ _ => trivial) (by decide) (Nat.le_refl _) uc2
  (Good.steps (hyp := []) hmix (orS_sound (z_sound []) (sm0_sound [])) (fun _ _ => trivial) (by decide) (Nat.le_refl _) uc3
  (Good.steps (hyp := []) hmix (orS_sound (z_sound []) (sm0_sound [])) (fun _ _ => trivial) (by decide) (Nat.le_refl _) uc4
  (Good.steps (hyp := []) hmix (orS_sound (z_sound []) (sm0_sound [])) (fun _ _ => trivial) (by decide) (Nat.le_refl _) uc5
  (Good.steps (hyp := []) hmix (orS_sound (z_sound []) (sm0_sound [])) (fun _ _ => trivial) (by decide) (Nat.le_refl _) uc6
  (Good.steps (hyp := []) hmix (orS_sound (z_sound []) (sm0_sound [])) (fun _ _ => trivial) (by decide) (Nat.le_refl _) uc7
  (Good.steps (hyp := []) hmix (orS_sound (z_sound []) (sm0_sound [])) (fun _ _ => trivial) (by decide) (Nat.le_refl _) uc8
  (Good.steps (hyp := []) hmix (orS_sound (z_sound []) (sm0_sound [])) (fun _ _ => trivial) (by decide) (Nat.le_refl _) uc9
  (Good.steps (hyp := []) hmix (orS_sound (z_sound []) (sm0_sound [])) (fun _ _ => trivial) (by decide) (Nat.le_refl _) uc10
  (Good.steps (hyp := []) hmix (orS_sound (z_sound []) (sm0_sound [])) (fun _ _ => trivial) (by decide) (Nat.le_refl _) uc11
  (Good.steps (hyp := []) hmix (orS_sound (z_sound []) (sm0_sound [])) (fun _ _ => trivial) (by decide) (Nat.le_refl _) uc12
  (Good.steps (hyp := []) hmix (orS_sound (z_sound []) (sm0_sound [])) (fun _ _ => trivial) (by decide) (Nat.le_refl _) uc13
  (Good.steps (hyp := []) hmix (orS_sound (z_sound []) (sm0_sound [])) (fun _ _ => trivial) (by decide) (Nat.le_refl _) uc14
  (Good.steps (hyp := []) hmix (sm0_sound []) (fun _ _ => trivial) (by decide) (Nat.le_refl _) L_zero (L0_all E0 w0 hn))))))))))))))))))))))))
end Go.Am.WC
