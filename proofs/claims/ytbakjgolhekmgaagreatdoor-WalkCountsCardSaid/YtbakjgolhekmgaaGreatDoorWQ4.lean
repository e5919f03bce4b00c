/- printed by WCgen.lean -/
import Derived.Test.YtbakjgolhekmgaaGreatDoorWP4
import Derived.Test.YtbakjgolhekmgaaGreatDoorWL
namespace Go.Am.WC
open Go.Proofs
set_option maxRecDepth 1000000
set_option maxHeartbeats 0
theorem L4A : runR Tryz.prog [(.geq, (.var 0), (.lit (.negSucc 9223372036854775807)), true), (.leq, (.var 0), (.lit (.ofNat 0)), true), (.gtr, (.mn (.mx (.var 0) (.lit (.ofNat 0))) (.lit (.ofNat 5000))), (.lit (.ofNat 16)), false), (.gtr, (.op2 .add .i64 (.lit (.ofNat 1)) (.op2 .mul .i64 (.lit (.ofNat 2)) (.mn (.mx (.var 0) (.lit (.ofNat 0))) (.lit (.ofNat 5000))))), (.lit (.ofNat 2000)), false), (.eql, (.lit (.ofNat 1)), (.op2 .add .i64 (.lit (.ofNat 1)) (.op2 .mul .i64 (.lit (.ofNat 2)) (.mn (.mx (.var 0) (.lit (.ofNat 0))) (.lit (.ofNat 5000))))), true), (.eql, (.lit (.ofNat 0)), (.mn (.mx (.var 0) (.lit (.ofNat 0))) (.lit (.ofNat 5000))), true)] (orS p4Asm sm0) 1000000 [] [] [] [] 4106 (V []) (Lw 4) = some ((.ret (.bool true)), ⟨.leaf, .leaf, 4106⟩) := runB_spec (by kernel_rfl)
theorem L4A_good (E0 : Env) (w0 : World) (hc : Within (-9223372036854775808) 0 E0.ρ) : Good Tryz.prog E0 h0 w0 3 (.ret (.bool true)) ⟨.leaf, .leaf, 4106⟩ (fun ρ => ρ = E0.ρ) (Lw 4) := by
  refine Good.fin hmix (orS_sound (p4A_sound _ (fun _ h => HC.within h)) (sm0_sound _)) ?_ (by decide) (Nat.le_refl _) (g := V []) (by rintro _ rfl; rfl) L4A
  rintro _ rfl
  have hh := hc.hyp
  obtain ⟨h1, h2⟩ := hc
  exact HypT.append hh ⟨(by rw [icmp_gtr]; exact cmp_f (by simp only [den_T, den_lit] <;> omega)),
      (by rw [icmp_gtr]; exact cmp_f (by simp only [den_X3, den_lit] <;> omega)),
      (by rw [icmp_eql]; exact cmp_t (by simp only [den_lit, den_X3] <;> omega)),
      (by rw [icmp_eql]; exact cmp_t (by simp only [den_lit, den_T] <;> omega)), trivial⟩
theorem L4k1 : runR Tryz.prog [(.geq, (.var 0), (.lit (.ofNat 1)), true), (.leq, (.var 0), (.lit (.ofNat 1)), true), (.gtr, (.mn (.mx (.var 0) (.lit (.ofNat 0))) (.lit (.ofNat 5000))), (.lit (.ofNat 16)), false), (.gtr, (.op2 .add .i64 (.lit (.ofNat 1)) (.op2 .mul .i64 (.lit (.ofNat 2)) (.mn (.mx (.var 0) (.lit (.ofNat 0))) (.lit (.ofNat 5000))))), (.lit (.ofNat 2000)), false), (.eql, (.lit (.ofNat 3)), (.op2 .add .i64 (.lit (.ofNat 1)) (.op2 .mul .i64 (.lit (.ofNat 2)) (.mn (.mx (.var 0) (.lit (.ofNat 0))) (.lit (.ofNat 5000))))), true), (.eql, (.lit (.ofNat 1)), (.mn (.mx (.var 0) (.lit (.ofNat 0))) (.lit (.ofNat 5000))), true)] (orS p4k1sm sm0) 1000000 [] [] [] [] 4106 (V []) (Lw 4) = some ((.ret (.bool true)), ⟨.leaf, .leaf, 4106⟩) := runB_spec (by kernel_rfl)
theorem L4k1_good (E0 : Env) (w0 : World) (hc : Within (1) 1 E0.ρ) : Good Tryz.prog E0 h0 w0 3 (.ret (.bool true)) ⟨.leaf, .leaf, 4106⟩ (fun ρ => ρ = E0.ρ) (Lw 4) := by
  refine Good.fin hmix (orS_sound (p4k1_sound _ (fun _ h => HC.within h)) (sm0_sound _)) ?_ (by decide) (Nat.le_refl _) (g := V []) (by rintro _ rfl; rfl) L4k1
  rintro _ rfl
  have hh := hc.hyp
  obtain ⟨h1, h2⟩ := hc
  exact HypT.append hh ⟨(by rw [icmp_gtr]; exact cmp_f (by simp only [den_T, den_lit] <;> omega)),
      (by rw [icmp_gtr]; exact cmp_f (by simp only [den_X3, den_lit] <;> omega)),
      (by rw [icmp_eql]; exact cmp_t (by simp only [den_lit, den_X3] <;> omega)),
      (by rw [icmp_eql]; exact cmp_t (by simp only [den_lit, den_T] <;> omega)), trivial⟩
theorem L4k2 : runR Tryz.prog [(.geq, (.var 0), (.lit (.ofNat 2)), true), (.leq, (.var 0), (.lit (.ofNat 2)), true), (.gtr, (.mn (.mx (.var 0) (.lit (.ofNat 0))) (.lit (.ofNat 5000))), (.lit (.ofNat 16)), false), (.gtr, (.op2 .add .i64 (.lit (.ofNat 1)) (.op2 .mul .i64 (.lit (.ofNat 2)) (.mn (.mx (.var 0) (.lit (.ofNat 0))) (.lit (.ofNat 5000))))), (.lit (.ofNat 2000)), false), (.eql, (.lit (.ofNat 5)), (.op2 .add .i64 (.lit (.ofNat 1)) (.op2 .mul .i64 (.lit (.ofNat 2)) (.mn (.mx (.var 0) (.lit (.ofNat 0))) (.lit (.ofNat 5000))))), true), (.eql, (.lit (.ofNat 2)), (.mn (.mx (.var 0) (.lit (.ofNat 0))) (.lit (.ofNat 5000))), true)] (orS p4k2sm sm0) 1000000 [] [] [] [] 4106 (V []) (Lw 4) = some ((.ret (.bool true)), ⟨.leaf, .leaf, 4106⟩) := runB_spec (by kernel_rfl)
theorem L4k2_good (E0 : Env) (w0 : World) (hc : Within (2) 2 E0.ρ) : Good Tryz.prog E0 h0 w0 3 (.ret (.bool true)) ⟨.leaf, .leaf, 4106⟩ (fun ρ => ρ = E0.ρ) (Lw 4) := by
  refine Good.fin hmix (orS_sound (p4k2_sound _ (fun _ h => HC.within h)) (sm0_sound _)) ?_ (by decide) (Nat.le_refl _) (g := V []) (by rintro _ rfl; rfl) L4k2
  rintro _ rfl
  have hh := hc.hyp
  obtain ⟨h1, h2⟩ := hc
  exact HypT.append hh ⟨(by rw [icmp_gtr]; exact cmp_f (by simp only [den_T, den_lit] <;> omega)),
      (by rw [icmp_gtr]; exact cmp_f (by simp only [den_X3, den_lit] <;> omega)),
      (by rw [icmp_eql]; exact cmp_t (by simp only [den_lit, den_X3] <;> omega)),
      (by rw [icmp_eql]; exact cmp_t (by simp only [den_lit, den_T] <;> omega)), trivial⟩
theorem L4k3 : runR Tryz.prog [(.geq, (.var 0), (.lit (.ofNat 3)), true), (.leq, (.var 0), (.lit (.ofNat 3)), true), (.gtr, (.mn (.mx (.var 0) (.lit (.ofNat 0))) (.lit (.ofNat 5000))), (.lit (.ofNat 16)), false), (.gtr, (.op2 .add .i64 (.lit (.ofNat 1)) (.op2 .mul .i64 (.lit (.ofNat 2)) (.mn (.mx (.var 0) (.lit (.ofNat 0))) (.lit (.ofNat 5000))))), (.lit (.ofNat 2000)), false), (.eql, (.lit (.ofNat 7)), (.op2 .add .i64 (.lit (.ofNat 1)) (.op2 .mul .i64 (.lit (.ofNat 2)) (.mn (.mx (.var 0) (.lit (.ofNat 0))) (.lit (.ofNat 5000))))), true), (.eql, (.lit (.ofNat 3)), (.mn (.mx (.var 0) (.lit (.ofNat 0))) (.lit (.ofNat 5000))), true)] (orS p4k3sm sm0) 1000000 [] [] [] [] 4106 (V []) (Lw 4) = some ((.ret (.bool true)), ⟨.leaf, .leaf, 4106⟩) := runB_spec (by kernel_rfl)
theorem L4k3_good (E0 : Env) (w0 : World) (hc : Within (3) 3 E0.ρ) : Good Tryz.prog E0 h0 w0 3 (.ret (.bool true)) ⟨.leaf, .leaf, 4106⟩ (fun ρ => ρ = E0.ρ) (Lw 4) := by
  refine Good.fin hmix (orS_sound (p4k3_sound _ (fun _ h => HC.within h)) (sm0_sound _)) ?_ (by decide) (Nat.le_refl _) (g := V []) (by rintro _ rfl; rfl) L4k3
  rintro _ rfl
  have hh := hc.hyp
  obtain ⟨h1, h2⟩ := hc
  exact HypT.append hh ⟨(by rw [icmp_gtr]; exact cmp_f (by simp only [den_T, den_lit] <;> omega)),
      (by rw [icmp_gtr]; exact cmp_f (by simp only [den_X3, den_lit] <;> omega)),
      (by rw [icmp_eql]; exact cmp_t (by simp only [den_lit, den_X3] <;> omega)),
      (by rw [icmp_eql]; exact cmp_t (by simp only [den_lit, den_T] <;> omega)), trivial⟩
theorem L4k4 : runR Tryz.prog [(.geq, (.var 0), (.lit (.ofNat 4)), true), (.leq, (.var 0), (.lit (.ofNat 4)), true), (.gtr, (.mn (.mx (.var 0) (.lit (.ofNat 0))) (.lit (.ofNat 5000))), (.lit (.ofNat 16)), false), (.gtr, (.op2 .add .i64 (.lit (.ofNat 1)) (.op2 .mul .i64 (.lit (.ofNat 2)) (.mn (.mx (.var 0) (.lit (.ofNat 0))) (.lit (.ofNat 5000))))), (.lit (.ofNat 2000)), false), (.eql, (.lit (.ofNat 9)), (.op2 .add .i64 (.lit (.ofNat 1)) (.op2 .mul .i64 (.lit (.ofNat 2)) (.mn (.mx (.var 0) (.lit (.ofNat 0))) (.lit (.ofNat 5000))))), true), (.eql, (.lit (.ofNat 4)), (.mn (.mx (.var 0) (.lit (.ofNat 0))) (.lit (.ofNat 5000))), true)] (orS p4k4sm sm0) 1000000 [] [] [] [] 4106 (V []) (Lw 4) = some ((.ret (.bool true)), ⟨.leaf, .leaf, 4106⟩) := runB_spec (by kernel_rfl)
theorem L4k4_good (E0 : Env) (w0 : World) (hc : Within (4) 4 E0.ρ) : Good Tryz.prog E0 h0 w0 3 (.ret (.bool true)) ⟨.leaf, .leaf, 4106⟩ (fun ρ => ρ = E0.ρ) (Lw 4) := by
  refine Good.fin hmix (orS_sound (p4k4_sound _ (fun _ h => HC.within h)) (sm0_sound _)) ?_ (by decide) (Nat.le_refl _) (g := V []) (by rintro _ rfl; rfl) L4k4
  rintro _ rfl
  have hh := hc.hyp
  obtain ⟨h1, h2⟩ := hc
  exact HypT.append hh ⟨(by rw [icmp_gtr]; exact cmp_f (by simp only [den_T, den_lit] <;> omega)),
      (by rw [icmp_gtr]; exact cmp_f (by simp only [den_X3, den_lit] <;> omega)),
      (by rw [icmp_eql]; exact cmp_t (by simp only [den_lit, den_X3] <;> omega)),
      (by rw [icmp_eql]; exact cmp_t (by simp only [den_lit, den_T] <;> omega)), trivial⟩
theorem L4k5 : runR Tryz.prog [(.geq, (.var 0), (.lit (.ofNat 5)), true), (.leq, (.var 0), (.lit (.ofNat 5)), true), (.gtr, (.mn (.mx (.var 0) (.lit (.ofNat 0))) (.lit (.ofNat 5000))), (.lit (.ofNat 16)), false), (.gtr, (.op2 .add .i64 (.lit (.ofNat 1)) (.op2 .mul .i64 (.lit (.ofNat 2)) (.mn (.mx (.var 0) (.lit (.ofNat 0))) (.lit (.ofNat 5000))))), (.lit (.ofNat 2000)), false), (.eql, (.lit (.ofNat 11)), (.op2 .add .i64 (.lit (.ofNat 1)) (.op2 .mul .i64 (.lit (.ofNat 2)) (.mn (.mx (.var 0) (.lit (.ofNat 0))) (.lit (.ofNat 5000))))), true), (.eql, (.lit (.ofNat 5)), (.mn (.mx (.var 0) (.lit (.ofNat 0))) (.lit (.ofNat 5000))), true)] (orS p4k5sm sm0) 1000000 [] [] [] [] 4106 (V []) (Lw 4) = some ((.ret (.bool true)), ⟨.leaf, .leaf, 4106⟩) := runB_spec (by kernel_rfl)
theorem L4k5_good (E0 : Env) (w0 : World) (hc : Within (5) 5 E0.ρ) : Good Tryz.prog E0 h0 w0 3 (.ret (.bool true)) ⟨.leaf, .leaf, 4106⟩ (fun ρ => ρ = E0.ρ) (Lw 4) := by
  refine Good.fin hmix (orS_sound (p4k5_sound _ (fun _ h => HC.within h)) (sm0_sound _)) ?_ (by decide) (Nat.le_refl _) (g := V []) (by rintro _ rfl; rfl) L4k5
  rintro _ rfl
  have hh := hc.hyp
  obtain ⟨h1, h2⟩ := hc
  exact HypT.append hh ⟨(by rw [icmp_gtr]; exact cmp_f (by simp only [den_T, den_lit] <;> omega)),
      (by rw [icmp_gtr]; exact cmp_f (by simp only [den_X3, den_lit] <;> omega)),
      (by rw [icmp_eql]; exact cmp_t (by simp only [den_lit, den_X3] <;> omega)),
      (by rw [icmp_eql]; exact cmp_t (by simp only [den_lit, den_T] <;> omega)), trivial⟩
theorem L4k6 : runR Tryz.prog [(.geq, (.var 0), (.lit (.ofNat 6)), true), (.leq, (.var 0), (.lit (.ofNat 6)), true), (.gtr, (.mn (.mx (.var 0) (.lit (.ofNat 0))) (.lit (.ofNat 5000))), (.lit (.ofNat 16)), false), (.gtr, (.op2 .add .i64 (.lit (.ofNat 1)) (.op2 .mul .i64 (.lit (.ofNat 2)) (.mn (.mx (.var 0) (.lit (.ofNat 0))) (.lit (.ofNat 5000))))), (.lit (.ofNat 2000)), false), (.eql, (.lit (.ofNat 13)), (.op2 .add .i64 (.lit (.ofNat 1)) (.op2 .mul .i64 (.lit (.ofNat 2)) (.mn (.mx (.var 0) (.lit (.ofNat 0))) (.lit (.ofNat 5000))))), true), (.eql, (.lit (.ofNat 6)), (.mn (.mx (.var 0) (.lit (.ofNat 0))) (.lit (.ofNat 5000))), true)] (orS p4k6sm sm0) 1000000 [] [] [] [] 4106 (V []) (Lw 4) = some ((.ret (.bool true)), ⟨.leaf, .leaf, 4106⟩) := runB_spec (by kernel_rfl)
theorem L4k6_good (E0 : Env) (w0 : World) (hc : Within (6) 6 E0.ρ) : Good Tryz.prog E0 h0 w0 3 (.ret (.bool true)) ⟨.leaf, .leaf, 4106⟩ (fun ρ => ρ = E0.ρ) (Lw 4) := by
  refine Good.fin hmix (orS_sound (p4k6_sound _ (fun _ h => HC.within h)) (sm0_sound _)) ?_ (by decide) (Nat.le_refl _) (g := V []) (by rintro _ rfl; rfl) L4k6
  rintro _ rfl
  have hh := hc.hyp
  obtain ⟨h1, h2⟩ := hc
  exact HypT.append hh ⟨(by rw [icmp_gtr]; exact cmp_f (by simp only [den_T, den_lit] <;> omega)),
      (by rw [icmp_gtr]; exact cmp_f (by simp only [den_X3, den_lit] <;> omega)),
      (by rw [icmp_eql]; exact cmp_t (by simp only [den_lit, den_X3] <;> omega)),
      (by rw [icmp_eql]; exact cmp_t (by simp only [den_lit, den_T] <;> omega)), trivial⟩
theorem L4k7 : runR Tryz.prog [(.geq, (.var 0), (.lit (.ofNat 7)), true), (.leq, (.var 0), (.lit (.ofNat 7)), true), (.gtr, (.mn (.mx (.var 0) (.lit (.ofNat 0))) (.lit (.ofNat 5000))), (.lit (.ofNat 16)), false), (.gtr, (.op2 .add .i64 (.lit (.ofNat 1)) (.op2 .mul .i64 (.lit (.ofNat 2)) (.mn (.mx (.var 0) (.lit (.ofNat 0))) (.lit (.ofNat 5000))))), (.lit (.ofNat 2000)), false), (.eql, (.lit (.ofNat 15)), (.op2 .add .i64 (.lit (.ofNat 1)) (.op2 .mul .i64 (.lit (.ofNat 2)) (.mn (.mx (.var 0) (.lit (.ofNat 0))) (.lit (.ofNat 5000))))), true), (.eql, (.lit (.ofNat 7)), (.mn (.mx (.var 0) (.lit (.ofNat 0))) (.lit (.ofNat 5000))), true)] (orS p4k7sm sm0) 1000000 [] [] [] [] 4106 (V []) (Lw 4) = some ((.ret (.bool true)), ⟨.leaf, .leaf, 4106⟩) := runB_spec (by kernel_rfl)
theorem L4k7_good (E0 : Env) (w0 : World) (hc : Within (7) 7 E0.ρ) : Good Tryz.prog E0 h0 w0 3 (.ret (.bool true)) ⟨.leaf, .leaf, 4106⟩ (fun ρ => ρ = E0.ρ) (Lw 4) := by
  refine Good.fin hmix (orS_sound (p4k7_sound _ (fun _ h => HC.within h)) (sm0_sound _)) ?_ (by decide) (Nat.le_refl _) (g := V []) (by rintro _ rfl; rfl) L4k7
  rintro _ rfl
  have hh := hc.hyp
  obtain ⟨h1, h2⟩ := hc
  exact HypT.append hh ⟨(by rw [icmp_gtr]; exact cmp_f (by simp only [den_T, den_lit] <;> omega)),
      (by rw [icmp_gtr]; exact cmp_f (by simp only [den_X3, den_lit] <;> omega)),
      (by rw [icmp_eql]; exact cmp_t (by simp only [den_lit, den_X3] <;> omega)),
      (by rw [icmp_eql]; exact cmp_t (by simp only [den_lit, den_T] <;> omega)), trivial⟩
theorem L4k8 : runR Tryz.prog [(.geq, (.var 0), (.lit (.ofNat 8)), true), (.leq, (.var 0), (.lit (.ofNat 8)), true), (.gtr, (.mn (.mx (.var 0) (.lit (.ofNat 0))) (.lit (.ofNat 5000))), (.lit (.ofNat 16)), false), (.gtr, (.op2 .add .i64 (.lit (.ofNat 1)) (.op2 .mul .i64 (.lit (.ofNat 2)) (.mn (.mx (.var 0) (.lit (.ofNat 0))) (.lit (.ofNat 5000))))), (.lit (.ofNat 2000)), false), (.eql, (.lit (.ofNat 17)), (.op2 .add .i64 (.lit (.ofNat 1)) (.op2 .mul .i64 (.lit (.ofNat 2)) (.mn (.mx (.var 0) (.lit (.ofNat 0))) (.lit (.ofNat 5000))))), true), (.eql, (.lit (.ofNat 8)), (.mn (.mx (.var 0) (.lit (.ofNat 0))) (.lit (.ofNat 5000))), true)] (orS p4k8sm sm0) 1000000 [] [] [] [] 4106 (V []) (Lw 4) = some ((.ret (.bool true)), ⟨.leaf, .leaf, 4106⟩) := runB_spec (by kernel_rfl)
theorem L4k8_good (E0 : Env) (w0 : World) (hc : Within (8) 8 E0.ρ) : Good Tryz.prog E0 h0 w0 3 (.ret (.bool true)) ⟨.leaf, .leaf, 4106⟩ (fun ρ => ρ = E0.ρ) (Lw 4) := by
  refine Good.fin hmix (orS_sound (p4k8_sound _ (fun _ h => HC.within h)) (sm0_sound _)) ?_ (by decide) (Nat.le_refl _) (g := V []) (by rintro _ rfl; rfl) L4k8
  rintro _ rfl
  have hh := hc.hyp
  obtain ⟨h1, h2⟩ := hc
  exact HypT.append hh ⟨(by rw [icmp_gtr]; exact cmp_f (by simp only [den_T, den_lit] <;> omega)),
      (by rw [icmp_gtr]; exact cmp_f (by simp only [den_X3, den_lit] <;> omega)),
      (by rw [icmp_eql]; exact cmp_t (by simp only [den_lit, den_X3] <;> omega)),
      (by rw [icmp_eql]; exact cmp_t (by simp only [den_lit, den_T] <;> omega)), trivial⟩
theorem L4k9 : runR Tryz.prog [(.geq, (.var 0), (.lit (.ofNat 9)), true), (.leq, (.var 0), (.lit (.ofNat 9)), true), (.gtr, (.mn (.mx (.var 0) (.lit (.ofNat 0))) (.lit (.ofNat 5000))), (.lit (.ofNat 16)), false), (.gtr, (.op2 .add .i64 (.lit (.ofNat 1)) (.op2 .mul .i64 (.lit (.ofNat 2)) (.mn (.mx (.var 0) (.lit (.ofNat 0))) (.lit (.ofNat 5000))))), (.lit (.ofNat 2000)), false), (.eql, (.lit (.ofNat 19)), (.op2 .add .i64 (.lit (.ofNat 1)) (.op2 .mul .i64 (.lit (.ofNat 2)) (.mn (.mx (.var 0) (.lit (.ofNat 0))) (.lit (.ofNat 5000))))), true), (.eql, (.lit (.ofNat 9)), (.mn (.mx (.var 0) (.lit (.ofNat 0))) (.lit (.ofNat 5000))), true)] (orS p4k9sm sm0) 1000000 [] [] [] [] 4106 (V []) (Lw 4) = some ((.ret (.bool true)), ⟨.leaf, .leaf, 4106⟩) := runB_spec (by kernel_rfl)
theorem L4k9_good (E0 : Env) (w0 : World) (hc : Within (9) 9 E0.ρ) : Good Tryz.prog E0 h0 w0 3 (.ret (.bool true)) ⟨.leaf, .leaf, 4106⟩ (fun ρ => ρ = E0.ρ) (Lw 4) := by
  refine Good.fin hmix (orS_sound (p4k9_sound _ (fun _ h => HC.within h)) (sm0_sound _)) ?_ (by decide) (Nat.le_refl _) (g := V []) (by rintro _ rfl; rfl) L4k9
  rintro _ rfl
  have hh := hc.hyp
  obtain ⟨h1, h2⟩ := hc
  exact HypT.append hh ⟨(by rw [icmp_gtr]; exact cmp_f (by simp only [den_T, den_lit] <;> omega)),
      (by rw [icmp_gtr]; exact cmp_f (by simp only [den_X3, den_lit] <;> omega)),
      (by rw [icmp_eql]; exact cmp_t (by simp only [den_lit, den_X3] <;> omega)),
      (by rw [icmp_eql]; exact cmp_t (by simp only [den_lit, den_T] <;> omega)), trivial⟩
theorem L4k10 : runR Tryz.prog [(.geq, (.var 0), (.lit (.ofNat 10)), true), (.leq, (.var 0), (.lit (.ofNat 10)), true), (.gtr, (.mn (.mx (.var 0) (.lit (.ofNat 0))) (.lit (.ofNat 5000))), (.lit (.ofNat 16)), false), (.gtr, (.op2 .add .i64 (.lit (.ofNat 1)) (.op2 .mul .i64 (.lit (.ofNat 2)) (.mn (.mx (.var 0) (.lit (.ofNat 0))) (.lit (.ofNat 5000))))), (.lit (.ofNat 2000)), false), (.eql, (.lit (.ofNat 21)), (.op2 .add .i64 (.lit (.ofNat 1)) (.op2 .mul .i64 (.lit (.ofNat 2)) (.mn (.mx (.var 0) (.lit (.ofNat 0))) (.lit (.ofNat 5000))))), true), (.eql, (.lit (.ofNat 10)), (.mn (.mx (.var 0) (.lit (.ofNat 0))) (.lit (.ofNat 5000))), true)] (orS p4k10sm sm0) 1000000 [] [] [] [] 4106 (V []) (Lw 4) = some ((.ret (.bool true)), ⟨.leaf, .leaf, 4106⟩) := runB_spec (by kernel_rfl)
theorem L4k10_good (E0 : Env) (w0 : World) (hc : Within (10) 10 E0.ρ) : Good Tryz.prog E0 h0 w0 3 (.ret (.bool true)) ⟨.leaf, .leaf, 4106⟩ (fun ρ => ρ = E0.ρ) (Lw 4) := by
  refine Good.fin hmix (orS_sound (p4k10_sound _ (fun _ h => HC.within h)) (sm0_sound _)) ?_ (by decide) (Nat.le_refl _) (g := V []) (by rintro _ rfl; rfl) L4k10
  rintro _ rfl
  have hh := hc.hyp
  obtain ⟨h1, h2⟩ := hc
  exact HypT.append hh ⟨(by rw [icmp_gtr]; exact cmp_f (by simp only [den_T, den_lit] <;> omega)),
      (by rw [icmp_gtr]; exact cmp_f (by simp only [den_X3, den_lit] <;> omega)),
      (by rw [icmp_eql]; exact cmp_t (by simp only [den_lit, den_X3] <;> omega)),
      (by rw [icmp_eql]; exact cmp_t (by simp only [den_lit, den_T] <;> omega)), trivial⟩
theorem L4k11 : runR Tryz.prog [(.geq, (.var 0), (.lit (.ofNat 11)), true), (.leq, (.var 0), (.lit (.ofNat 11)), true), (.gtr, (.mn (.mx (.var 0) (.lit (.ofNat 0))) (.lit (.ofNat 5000))), (.lit (.ofNat 16)), false), (.gtr, (.op2 .add .i64 (.lit (.ofNat 1)) (.op2 .mul .i64 (.lit (.ofNat 2)) (.mn (.mx (.var 0) (.lit (.ofNat 0))) (.lit (.ofNat 5000))))), (.lit (.ofNat 2000)), false), (.eql, (.lit (.ofNat 23)), (.op2 .add .i64 (.lit (.ofNat 1)) (.op2 .mul .i64 (.lit (.ofNat 2)) (.mn (.mx (.var 0) (.lit (.ofNat 0))) (.lit (.ofNat 5000))))), true), (.eql, (.lit (.ofNat 11)), (.mn (.mx (.var 0) (.lit (.ofNat 0))) (.lit (.ofNat 5000))), true)] (orS p4k11sm sm0) 1000000 [] [] [] [] 4106 (V []) (Lw 4) = some ((.ret (.bool true)), ⟨.leaf, .leaf, 4106⟩) := runB_spec (by kernel_rfl)
theorem L4k11_good (E0 : Env) (w0 : World) (hc : Within (11) 11 E0.ρ) : Good Tryz.prog E0 h0 w0 3 (.ret (.bool true)) ⟨.leaf, .leaf, 4106⟩ (fun ρ => ρ = E0.ρ) (Lw 4) := by
  refine Good.fin hmix (orS_sound (p4k11_sound _ (fun _ h => HC.within h)) (sm0_sound _)) ?_ (by decide) (Nat.le_refl _) (g := V []) (by rintro _ rfl; rfl) L4k11
  rintro _ rfl
  have hh := hc.hyp
  obtain ⟨h1, h2⟩ := hc
  exact HypT.append hh ⟨(by rw [icmp_gtr]; exact cmp_f (by simp only [den_T, den_lit] <;> omega)),
      (by rw [icmp_gtr]; exact cmp_f (by simp only [den_X3, den_lit] <;> omega)),
      (by rw [icmp_eql]; exact cmp_t (by simp only [den_lit, den_X3] <;> omega)),
      (by rw [icmp_eql]; exact cmp_t (by simp only [den_lit, den_T] <;> omega)), trivial⟩
theorem L4k12 : runR Tryz.prog [(.geq, (.var 0), (.lit (.ofNat 12)), true), (.leq, (.var 0), (.lit (.ofNat 12)), true), (.gtr, (.mn (.mx (.var 0) (.lit (.ofNat 0))) (.lit (.ofNat 5000))), (.lit (.ofNat 16)), false), (.gtr, (.op2 .add .i64 (.lit (.ofNat 1)) (.op2 .mul .i64 (.lit (.ofNat 2)) (.mn (.mx (.var 0) (.lit (.ofNat 0))) (.lit (.ofNat 5000))))), (.lit (.ofNat 2000)), false), (.eql, (.lit (.ofNat 25)), (.op2 .add .i64 (.lit (.ofNat 1)) (.op2 .mul .i64 (.lit (.ofNat 2)) (.mn (.mx (.var 0) (.lit (.ofNat 0))) (.lit (.ofNat 5000))))), true), (.eql, (.lit (.ofNat 12)), (.mn (.mx (.var 0) (.lit (.ofNat 0))) (.lit (.ofNat 5000))), true)] (orS p4k12sm sm0) 1000000 [] [] [] [] 4106 (V []) (Lw 4) = some ((.ret (.bool true)), ⟨.leaf, .leaf, 4106⟩) := runB_spec (by kernel_rfl)
theorem L4k12_good (E0 : Env) (w0 : World) (hc : Within (12) 12 E0.ρ) : Good Tryz.prog E0 h0 w0 3 (.ret (.bool true)) ⟨.leaf, .leaf, 4106⟩ (fun ρ => ρ = E0.ρ) (Lw 4) := by
  refine Good.fin hmix (orS_sound (p4k12_sound _ (fun _ h => HC.within h)) (sm0_sound _)) ?_ (by decide) (Nat.le_refl _) (g := V []) (by rintro _ rfl; rfl) L4k12
  rintro _ rfl
  have hh := hc.hyp
  obtain ⟨h1, h2⟩ := hc
  exact HypT.append hh ⟨(by rw [icmp_gtr]; exact cmp_f (by simp only [den_T, den_lit] <;> omega)),
      (by rw [icmp_gtr]; exact cmp_f (by simp only [den_X3, den_lit] <;> omega)),
      (by rw [icmp_eql]; exact cmp_t (by simp only [den_lit, den_X3] <;> omega)),
      (by rw [icmp_eql]; exact cmp_t (by simp only [den_lit, den_T] <;> omega)), trivial⟩
theorem L4k13 : runR Tryz.prog [(.geq, (.var 0), (.lit (.ofNat 13)), true), (.leq, (.var 0), (.lit (.ofNat 13)), true), (.gtr, (.mn (.mx (.var 0) (.lit (.ofNat 0))) (.lit (.ofNat 5000))), (.lit (.ofNat 16)), false), (.gtr, (.op2 .add .i64 (.lit (.ofNat 1)) (.op2 .mul .i64 (.lit (.ofNat 2)) (.mn (.mx (.var 0) (.lit (.ofNat 0))) (.lit (.ofNat 5000))))), (.lit (.ofNat 2000)), false), (.eql, (.lit (.ofNat 27)), (.op2 .add .i64 (.lit (.ofNat 1)) (.op2 .mul .i64 (.lit (.ofNat 2)) (.mn (.mx (.var 0) (.lit (.ofNat 0))) (.lit (.ofNat 5000))))), true), (.eql, (.lit (.ofNat 13)), (.mn (.mx (.var 0) (.lit (.ofNat 0))) (.lit (.ofNat 5000))), true)] (orS p4k13sm sm0) 1000000 [] [] [] [] 4106 (V []) (Lw 4) = some ((.ret (.bool true)), ⟨.leaf, .leaf, 4106⟩) := runB_spec (by kernel_rfl)
theorem L4k13_good (E0 : Env) (w0 : World) (hc : Within (13) 13 E0.ρ) : Good Tryz.prog E0 h0 w0 3 (.ret (.bool true)) ⟨.leaf, .leaf, 4106⟩ (fun ρ => ρ = E0.ρ) (Lw 4) := by
  refine Good.fin hmix (orS_sound (p4k13_sound _ (fun _ h => HC.within h)) (sm0_sound _)) ?_ (by decide) (Nat.le_refl _) (g := V []) (by rintro _ rfl; rfl) L4k13
  rintro _ rfl
  have hh := hc.hyp
  obtain ⟨h1, h2⟩ := hc
  exact HypT.append hh ⟨(by rw [icmp_gtr]; exact cmp_f (by simp only [den_T, den_lit] <;> omega)),
      (by rw [icmp_gtr]; exact cmp_f (by simp only [den_X3, den_lit] <;> omega)),
      (by rw [icmp_eql]; exact cmp_t (by simp only [den_lit, den_X3] <;> omega)),
      (by rw [icmp_eql]; exact cmp_t (by simp only [den_lit, den_T] <;> omega)), trivial⟩
theorem L4k14 : runR Tryz.prog [(.geq, (.var 0), (.lit (.ofNat 14)), true), (.leq, (.var 0), (.lit (.ofNat 14)), true), (.gtr, (.mn (.mx (.var 0) (.lit (.ofNat 0))) (.lit (.ofNat 5000))), (.lit (.ofNat 16)), false), (.gtr, (.op2 .add .i64 (.lit (.ofNat 1)) (.op2 .mul .i64 (.lit (.ofNat 2)) (.mn (.mx (.var 0) (.lit (.ofNat 0))) (.lit (.ofNat 5000))))), (.lit (.ofNat 2000)), false), (.eql, (.lit (.ofNat 29)), (.op2 .add .i64 (.lit (.ofNat 1)) (.op2 .mul .i64 (.lit (.ofNat 2)) (.mn (.mx (.var 0) (.lit (.ofNat 0))) (.lit (.ofNat 5000))))), true), (.eql, (.lit (.ofNat 14)), (.mn (.mx (.var 0) (.lit (.ofNat 0))) (.lit (.ofNat 5000))), true)] (orS p4k14sm sm0) 1000000 [] [] [] [] 4106 (V []) (Lw 4) = some ((.ret (.bool true)), ⟨.leaf, .leaf, 4106⟩) := runB_spec (by kernel_rfl)
theorem L4k14_good (E0 : Env) (w0 : World) (hc : Within (14) 14 E0.ρ) : Good Tryz.prog E0 h0 w0 3 (.ret (.bool true)) ⟨.leaf, .leaf, 4106⟩ (fun ρ => ρ = E0.ρ) (Lw 4) := by
  refine Good.fin hmix (orS_sound (p4k14_sound _ (fun _ h => HC.within h)) (sm0_sound _)) ?_ (by decide) (Nat.le_refl _) (g := V []) (by rintro _ rfl; rfl) L4k14
  rintro _ rfl
  have hh := hc.hyp
  obtain ⟨h1, h2⟩ := hc
  exact HypT.append hh ⟨(by rw [icmp_gtr]; exact cmp_f (by simp only [den_T, den_lit] <;> omega)),
      (by rw [icmp_gtr]; exact cmp_f (by simp only [den_X3, den_lit] <;> omega)),
      (by rw [icmp_eql]; exact cmp_t (by simp only [den_lit, den_X3] <;> omega)),
      (by rw [icmp_eql]; exact cmp_t (by simp only [den_lit, den_T] <;> omega)), trivial⟩
theorem L4k15 : runR Tryz.prog [(.geq, (.var 0), (.lit (.ofNat 15)), true), (.leq, (.var 0), (.lit (.ofNat 15)), true), (.gtr, (.mn (.mx (.var 0) (.lit (.ofNat 0))) (.lit (.ofNat 5000))), (.lit (.ofNat 16)), false), (.gtr, (.op2 .add .i64 (.lit (.ofNat 1)) (.op2 .mul .i64 (.lit (.ofNat 2)) (.mn (.mx (.var 0) (.lit (.ofNat 0))) (.lit (.ofNat 5000))))), (.lit (.ofNat 2000)), false), (.eql, (.lit (.ofNat 31)), (.op2 .add .i64 (.lit (.ofNat 1)) (.op2 .mul .i64 (.lit (.ofNat 2)) (.mn (.mx (.var 0) (.lit (.ofNat 0))) (.lit (.ofNat 5000))))), true), (.eql, (.lit (.ofNat 15)), (.mn (.mx (.var 0) (.lit (.ofNat 0))) (.lit (.ofNat 5000))), true)] (orS p4k15sm sm0) 1000000 [] [] [] [] 4106 (V []) (Lw 4) = some ((.ret (.bool true)), ⟨.leaf, .leaf, 4106⟩) := runB_spec (by kernel_rfl)
theorem L4k15_good (E0 : Env) (w0 : World) (hc : Within (15) 15 E0.ρ) : Good Tryz.prog E0 h0 w0 3 (.ret (.bool true)) ⟨.leaf, .leaf, 4106⟩ (fun ρ => ρ = E0.ρ) (Lw 4) := by
  refine Good.fin hmix (orS_sound (p4k15_sound _ (fun _ h => HC.within h)) (sm0_sound _)) ?_ (by decide) (Nat.le_refl _) (g := V []) (by rintro _ rfl; rfl) L4k15
  rintro _ rfl
  have hh := hc.hyp
  obtain ⟨h1, h2⟩ := hc
  exact HypT.append hh ⟨(by rw [icmp_gtr]; exact cmp_f (by simp only [den_T, den_lit] <;> omega)),
      (by rw [icmp_gtr]; exact cmp_f (by simp only [den_X3, den_lit] <;> omega)),
      (by rw [icmp_eql]; exact cmp_t (by simp only [den_lit, den_X3] <;> omega)),
      (by rw [icmp_eql]; exact cmp_t (by simp only [den_lit, den_T] <;> omega)), trivial⟩
theorem L4k16 : runR Tryz.prog [(.geq, (.var 0), (.lit (.ofNat 16)), true), (.leq, (.var 0), (.lit (.ofNat 16)), true), (.gtr, (.mn (.mx (.var 0) (.lit (.ofNat 0))) (.lit (.ofNat 5000))), (.lit (.ofNat 16)), false), (.gtr, (.op2 .add .i64 (.lit (.ofNat 1)) (.op2 .mul .i64 (.lit (.ofNat 2)) (.mn (.mx (.var 0) (.lit (.ofNat 0))) (.lit (.ofNat 5000))))), (.lit (.ofNat 2000)), false), (.eql, (.lit (.ofNat 33)), (.op2 .add .i64 (.lit (.ofNat 1)) (.op2 .mul .i64 (.lit (.ofNat 2)) (.mn (.mx (.var 0) (.lit (.ofNat 0))) (.lit (.ofNat 5000))))), true), (.eql, (.lit (.ofNat 16)), (.mn (.mx (.var 0) (.lit (.ofNat 0))) (.lit (.ofNat 5000))), true)] (orS p4k16sm sm0) 1000000 [] [] [] [] 4106 (V []) (Lw 4) = some ((.ret (.bool true)), ⟨.leaf, .leaf, 4106⟩) := runB_spec (by kernel_rfl)
theorem L4k16_good (E0 : Env) (w0 : World) (hc : Within (16) 16 E0.ρ) : Good Tryz.prog E0 h0 w0 3 (.ret (.bool true)) ⟨.leaf, .leaf, 4106⟩ (fun ρ => ρ = E0.ρ) (Lw 4) := by
  refine Good.fin hmix (orS_sound (p4k16_sound _ (fun _ h => HC.within h)) (sm0_sound _)) ?_ (by decide) (Nat.le_refl _) (g := V []) (by rintro _ rfl; rfl) L4k16
  rintro _ rfl
  have hh := hc.hyp
  obtain ⟨h1, h2⟩ := hc
  exact HypT.append hh ⟨(by rw [icmp_gtr]; exact cmp_f (by simp only [den_T, den_lit] <;> omega)),
      (by rw [icmp_gtr]; exact cmp_f (by simp only [den_X3, den_lit] <;> omega)),
      (by rw [icmp_eql]; exact cmp_t (by simp only [den_lit, den_X3] <;> omega)),
      (by rw [icmp_eql]; exact cmp_t (by simp only [den_lit, den_T] <;> omega)), trivial⟩
theorem L4C : runR Tryz.prog [(.geq, (.var 0), (.lit (.ofNat 17)), true), (.leq, (.var 0), (.lit (.ofNat 9223372036854775807)), true), (.gtr, (.mn (.mx (.var 0) (.lit (.ofNat 0))) (.lit (.ofNat 5000))), (.lit (.ofNat 16)), true)] (orS p4Csm sm0) 1000000 [] [] [] [] 4106 (V []) (Lw 4) = some ((.ret (.bool true)), ⟨.leaf, .leaf, 4106⟩) := runB_spec (by kernel_rfl)
theorem L4C_good (E0 : Env) (w0 : World) (hc : Within (17) 9223372036854775807 E0.ρ) : Good Tryz.prog E0 h0 w0 3 (.ret (.bool true)) ⟨.leaf, .leaf, 4106⟩ (fun ρ => ρ = E0.ρ) (Lw 4) := by
  refine Good.fin hmix (orS_sound (p4C_sound _ (fun _ h => HC.within h)) (sm0_sound _)) ?_ (by decide) (Nat.le_refl _) (g := V []) (by rintro _ rfl; rfl) L4C
  rintro _ rfl
  have hh := hc.hyp
  obtain ⟨h1, h2⟩ := hc
  exact HypT.append hh ⟨(by rw [icmp_gtr]; exact cmp_t (by simp only [den_T, den_lit] <;> omega)), trivial⟩

end Go.Am.WC
