/- printed by WCgen.lean -/
import Derived.Test.YtbakjgolhekmgaaGreatDoorWNum
namespace Go.Am.WC
open Go.Proofs
set_option maxRecDepth 1000000
set_option maxHeartbeats 0
noncomputable def p0A : List AV := [(.ptr 4108 0), (I 0), (.agg [(I 5), (I 0), (I 0), .nilslice, (I 3), (I 1), (.slice 4284 0 2 2 2 true)])]
noncomputable def p0rows : List (Nat × AO) := [(4108, (K (C [(.ptr 4113 0), (.slice 4114 0 2 2 2 false), (.slice 4115 0 1 1 1 false), .nilslice]) 4)),
  (4113, (K (C [(I 1), (.str 0 0), (I 0), (.slice 4129 0 1 1 1 false), (I 0)]) 5)),
  (4114, (K (C [(.str 7565136 3), (.slice 4130 0 1 1 1 false), (.str 7103830 3), (.slice 4131 0 1 1 1 false)]) 4)),
  (4115, (K (C [(.ptr 4132 0)]) 1)),
  (4129, (K (C [(.ptr 4132 0)]) 1)),
  (4130, (K (C [(.str 120 1)]) 1)),
  (4131, (K (C [(.str 120 1)]) 1)),
  (4132, (K (C [(I 2), (.str 77 1), (I 1), (.slice 4150 0 5 5 1 false), (I 0)]) 5)),
  (4150, (K (C [(.ptr 4156 0), (.ptr 4157 0), (.ptr 4159 0), (.ptr 4158 0), (.ptr 4160 0)]) 5)),
  (4156, (K (C [(I 3), (.str 1752459639 4), (I 0), .nilslice, (I 19)]) 5)),
  (4157, (K (C [(I 3), (.str 32780218652715383 7), (I 0), .nilslice, (I 19)]) 5)),
  (4158, (K (C [(I 3), (.str 126879581958775 6), (I 0), .nilslice, (I 19)]) 5)),
  (4159, (K (C [(I 3), (.str 495605343602 5), (I 0), (.slice 4183 0 1 1 1 false), (I 9)]) 5)),
  (4160, (K (C [(I 5), (.str 0 0), (I 0), (.slice 4184 0 1 1 1 false), (I 19)]) 5)),
  (4183, (K (C [(.ptr 4195 0)]) 1)),
  (4184, (K (C [(.ptr 4196 0)]) 1)),
  (4195, (K (C [(I 31), (.str 7565136 3), (I 1), .nilslice, (I 15)]) 5)),
  (4196, (K (C [(I 15), (.str 0 0), (I 0), (.slice 4208 0 2 2 1 false), (I 21)]) 5)),
  (4208, (K (C [(.ptr 4215 0), (.ptr 4216 0)]) 2)),
  (4215, (K (C [(I 32), (.str 7565136 3), (I 1), (.slice 4228 0 1 1 1 false), (I 28)]) 5)),
  (4216, (K (C [(I 5), (.str 0 0), (I 0), .nilslice, (I 34)]) 5)),
  (4228, (K (C [(.ptr 4239 0)]) 1)),
  (4239, (K (C [(I 31), (.str 120 1), (I 0), .nilslice, (I 32)]) 5)),
  (4282, (K (C [(X (.var 0))]) 1)),
  (4283, (K (C [(I 0)]) 1)),
  (4284, (K (C [(I 1), (.slice 4282 0 1 1 1 true), (I 2), (.slice 4283 0 1 1 1 true)]) 4))]
noncomputable def p0fr : AF := ⟨7, 114, argsIn p0A 0 .leaf, [.code (F 7)], [], .run, false⟩
theorem p0hen : AF.enter Tryz.prog 7 p0A false = some p0fr := by kernel_rfl
noncomputable def p0y : St := ⟨p0fr, [], heapOf p0rows 4285⟩
noncomputable def p0s1T : List (List AIt) := [[.code (A (B (B (F 16)))), .code (B (B (B (F 16))))],
  [R (A (B (B (B (B (B (B (B (B (F 7)))))))))) 114 5, .code (B (B (B (B (B (B (B (B (B (F 7))))))))))]]
noncomputable def p0s1 : St := ⟨⟨16, 58, (S [(1, (.ptr 4132 0)), (2, (.ptr 4285 0))]), nthT p0s1T 0, [(32, [(.ptr 4285 0)])], .run, false⟩,
  [⟨7, 114, (S [(6, (.ptr 4287 0)), (8, (.ptr 4286 0)), (104, (.ptr 4286 0)), (108, (.ptr 4132 0))]), nthT p0s1T 1, [], .run, false⟩],
  (H 4295 [(4108, (K (C [(.ptr 4113 0), (.slice 4114 0 2 2 2 false), (.slice 4115 0 1 1 1 false), .nilslice]) 4)),
  (4113, (K (C [(I 1), (.str 0 0), (I 0), (.slice 4129 0 1 1 1 false), (I 0)]) 5)),
  (4114, (K (C [(.str 7565136 3), (.slice 4130 0 1 1 1 false), (.str 7103830 3), (.slice 4131 0 1 1 1 false)]) 4)),
  (4115, (K (C [(.ptr 4132 0)]) 1)),
  (4129, (K (C [(.ptr 4132 0)]) 1)),
  (4130, (K (C [(.str 120 1)]) 1)),
  (4131, (K (C [(.str 120 1)]) 1)),
  (4132, (K (C [(I 2), (.str 77 1), (I 1), (.slice 4150 0 5 5 1 false), (I 0)]) 5)),
  (4150, (K (C [(.ptr 4156 0), (.ptr 4157 0), (.ptr 4159 0), (.ptr 4158 0), (.ptr 4160 0)]) 5)),
  (4156, (K (C [(I 3), (.str 1752459639 4), (I 0), .nilslice, (I 19)]) 5)),
  (4157, (K (C [(I 3), (.str 32780218652715383 7), (I 0), .nilslice, (I 19)]) 5)),
  (4158, (K (C [(I 3), (.str 126879581958775 6), (I 0), .nilslice, (I 19)]) 5)),
  (4159, (K (C [(I 3), (.str 495605343602 5), (I 0), (.slice 4183 0 1 1 1 false), (I 9)]) 5)),
  (4160, (K (C [(I 5), (.str 0 0), (I 0), (.slice 4184 0 1 1 1 false), (I 19)]) 5)),
  (4183, (K (C [(.ptr 4195 0)]) 1)),
  (4184, (K (C [(.ptr 4196 0)]) 1)),
  (4195, (K (C [(I 31), (.str 7565136 3), (I 1), .nilslice, (I 15)]) 5)),
  (4196, (K (C [(I 15), (.str 0 0), (I 0), (.slice 4208 0 2 2 1 false), (I 21)]) 5)),
  (4208, (K (C [(.ptr 4215 0), (.ptr 4216 0)]) 2)),
  (4215, (K (C [(I 32), (.str 7565136 3), (I 1), (.slice 4228 0 1 1 1 false), (I 28)]) 5)),
  (4216, (K (C [(I 5), (.str 0 0), (I 0), .nilslice, (I 34)]) 5)),
  (4228, (K (C [(.ptr 4239 0)]) 1)),
  (4239, (K (C [(I 31), (.str 120 1), (I 0), .nilslice, (I 32)]) 5)),
  (4282, (K (C [(X (.var 0))]) 1)),
  (4283, (K (C [(I 0)]) 1)),
  (4284, (K (C [(I 1), (.slice 4282 0 1 1 1 true), (I 2), (.slice 4283 0 1 1 1 true)]) 4)),
  (4285, (K (C [(.ptr 4286 0)]) 1)),
  (4286, (K (C [(I 0), (I 5), (I 0), (I 0), .nilslice, (I 3), (I 1), (.slice 4284 0 2 2 2 true), (.slice 4289 0 2 2 2 false), .nilslice, (.map 4290), (.ptr 4288 0), .nilslice, .nilslice, .nilslice, (I 0), (I 0), .nilslice]) 18)),
  (4287, (K (C [.nilslice, .nilslice, .nilslice, (I 0), (I 0)]) 5)),
  (4288, (K (C [(.int .u64 (.c (.ofNat 8626466141916243606)))]) 1)),
  (4289, (K (C [(.str 7565136 3), (.slice 4291 0 1 1 1 false), (.str 7103830 3), (.slice 4292 0 1 1 1 false)]) 4)),
  (4290, (.map [((I 1), (.slice 4293 0 1 1 1 false), 0), ((I 2), (.slice 4294 0 1 1 1 false), 1)] 2)),
  (4291, (K (C [(.str 120 1)]) 1)),
  (4292, (K (C [(.str 120 1)]) 1)),
  (4293, (K (C [(X (.var 0))]) 1)),
  (4294, (K (C [(I 0)]) 1))])⟩
theorem p0c0 : stepsR Tryz.prog [] sm0 1000000 257 [1, 2] [[6, 8, 104, 108]] [4108, 4113, 4114, 4115, 4129, 4130, 4131, 4132, 4150, 4156, 4157, 4158, 4159, 4160, 4183, 4184, 4195, 4196, 4208, 4215, 4216, 4228, 4239, 4282, 4283, 4284] [4380, 4343, 4286, 4351, 4346, 4336, 4348, 4350, 4364, 4377] [] [] 4285 p0y = some p0s1 := stepsT_spec (T := p0s1T) (by kernel_rfl) (by kernel_rfl)
noncomputable def q0A : List AV := [(.ptr 4286 0), (.ptr 4302 0), (.ptr 4160 0)]
noncomputable def q0rows : List (Nat × AO) := [(4160, (K (C [(I 5), (.str 0 0), (I 0), (.slice 4184 0 1 1 1 false), (I 19)]) 5)),
  (4184, (K (C [(.ptr 4196 0)]) 1)),
  (4196, (K (C [(I 15), (.str 0 0), (I 0), (.slice 4208 0 2 2 1 false), (I 21)]) 5)),
  (4208, (K (C [(.ptr 4215 0), (.ptr 4216 0)]) 2)),
  (4215, (K (C [(I 32), (.str 7565136 3), (I 1), (.slice 4228 0 1 1 1 false), (I 28)]) 5)),
  (4216, (K (C [(I 5), (.str 0 0), (I 0), .nilslice, (I 34)]) 5)),
  (4228, (K (C [(.ptr 4239 0)]) 1)),
  (4239, (K (C [(I 31), (.str 120 1), (I 0), .nilslice, (I 32)]) 5)),
  (4282, (K (C [(X (.var 0))]) 1)),
  (4283, (K (C [(I 0)]) 1)),
  (4284, (K (C [(I 1), (.slice 4282 0 1 1 1 true), (I 2), (.slice 4283 0 1 1 1 true)]) 4)),
  (4286, (K (C [(I 0), (I 5), (I 0), (I 0), .nilslice, (I 3), (I 1), (.slice 4284 0 2 2 2 true), (.slice 4289 0 2 2 2 false), .nilslice, (.map 4290), (.ptr 4288 0), .nilslice, .nilslice, .nilslice, (I 0), (I 0), .nilslice]) 18)),
  (4288, (K (C [(.int .u64 (.c (.ofNat 8626466141916243606)))]) 1)),
  (4289, (K (C [(.str 7565136 3), (.slice 4291 0 1 1 1 false), (.str 7103830 3), (.slice 4292 0 1 1 1 false)]) 4)),
  (4290, (.map [((I 1), (.slice 4293 0 1 1 1 false), 0), ((I 2), (.slice 4294 0 1 1 1 false), 1)] 2)),
  (4291, (K (C [(.str 120 1)]) 1)),
  (4292, (K (C [(.str 120 1)]) 1)),
  (4293, (K (C [(X (.var 0))]) 1)),
  (4294, (K (C [(I 0)]) 1)),
  (4300, (K (C [(I 0)]) 1)),
  (4302, (K (C [(.slice 4300 0 1 1 1 true), (I 0)]) 2))]
noncomputable def q0fr : AF := ⟨33, 27, argsIn q0A 0 .leaf, [.code (F 33)], [], .run, false⟩
theorem q0hen : AF.enter Tryz.prog 33 q0A false = some q0fr := by kernel_rfl
noncomputable def q0y : St := ⟨q0fr, [], heapOf q0rows 4310⟩
noncomputable def q0ST : List (List AIt) := [[.inLoop (A (A (A (B (B (B (F 79))))))), .inBlock 0, .code (B (B (B (B (F 79)))))],
  [R (A (A (B (B (B (B (B (B (B (A (B (A (B (B (F 52))))))))))))))) 96 3, .code (B (A (B (B (B (B (B (A (B (A (B (B (F 52))))))))))))), .inBlock 0, .code (B (B (B (F 52))))],
  [R (A (B (A (A (B (B (A (A (B (A (B (F 33)))))))))))) 27 3, .code (B (B (A (A (B (B (A (A (B (A (B (F 33)))))))))))), .inBlock 1, .code (B (B (B (A (A (B (A (B (F 33))))))))), .inLoop (A (A (B (A (B (F 33)))))), .inBlock 0, .code (B (B (F 33)))]]
noncomputable def q0S : St := ⟨⟨79, 44, (S [(3, (.ptr 4310 0)), (4, (.ptr 4313 0)), (5, (.ptr 4312 0)), (6, (I 0)), (7, (.func (.func 115) [] [(.ptr 4311 0)]))]), nthT q0ST 0, [], .run, false⟩,
  [⟨52, 96, (S [(6, (I 0)), (76, (.ptr 4286 0)), (77, (.ptr 4302 0)), (78, (.ptr 4196 0))]), nthT q0ST 1, [], .run, false⟩,
  ⟨33, 27, (S [(0, (.ptr 4286 0)), (1, (.ptr 4302 0)), (6, (I 0)), (13, (.slice 4184 0 1 1 1 false)), (14, (I 1)), (15, (I 0)), (19, (.ptr 4286 0)), (20, (.ptr 4302 0)), (21, (.ptr 4196 0))]), nthT q0ST 2, [], .run, false⟩],
  (H 4314 [(4160, (K (C [(I 5), (.str 0 0), (I 0), (.slice 4184 0 1 1 1 false), (I 19)]) 5)),
  (4184, (K (C [(.ptr 4196 0)]) 1)),
  (4196, (K (C [(I 15), (.str 0 0), (I 0), (.slice 4208 0 2 2 1 false), (I 21)]) 5)),
  (4208, (K (C [(.ptr 4215 0), (.ptr 4216 0)]) 2)),
  (4215, (K (C [(I 32), (.str 7565136 3), (I 1), (.slice 4228 0 1 1 1 false), (I 28)]) 5)),
  (4216, (K (C [(I 5), (.str 0 0), (I 0), .nilslice, (I 34)]) 5)),
  (4228, (K (C [(.ptr 4239 0)]) 1)),
  (4239, (K (C [(I 31), (.str 120 1), (I 0), .nilslice, (I 32)]) 5)),
  (4282, (K (C [(X (.var 0))]) 1)),
  (4283, (K (C [(I 0)]) 1)),
  (4284, (K (C [(I 1), (.slice 4282 0 1 1 1 true), (I 2), (.slice 4283 0 1 1 1 true)]) 4)),
  (4286, (K (C [(I 0), (I 5), (I 0), (I 0), .nilslice, (I 3), (I 1), (.slice 4284 0 2 2 2 true), (.slice 4289 0 2 2 2 false), .nilslice, (.map 4290), (.ptr 4288 0), .nilslice, .nilslice, .nilslice, (X (.var 1)), (I 0), .nilslice]) 18)),
  (4288, (K (C [(.int .u64 (.c (.ofNat 8626466141916243606)))]) 1)),
  (4289, (K (C [(.str 7565136 3), (.slice 4291 0 1 1 1 false), (.str 7103830 3), (.slice 4292 0 1 1 1 false)]) 4)),
  (4290, (.map [((I 1), (.slice 4293 0 1 1 1 false), 0), ((I 2), (.slice 4294 0 1 1 1 false), 1)] 2)),
  (4291, (K (C [(.str 120 1)]) 1)),
  (4292, (K (C [(.str 120 1)]) 1)),
  (4293, (K (C [(X (.var 0))]) 1)),
  (4294, (K (C [(I 0)]) 1)),
  (4300, (K (C [(I 0)]) 1)),
  (4302, (K (C [(.slice 4300 0 1 1 1 true), (I 0)]) 2)),
  (4310, (K (C [(.ptr 4286 0)]) 1)),
  (4311, (K (C [(X (.var 2))]) 1)),
  (4312, (K (C [(.ptr 4196 0)]) 1)),
  (4313, (K (C [(.ptr 4302 0)]) 1))])⟩
theorem q0c0 : stepsR Tryz.prog [(.lss, (.var 0), (.lit (.ofNat 1)), false), (.geq, (.op2 .sub .i64 (.var 0) (.lit (.ofNat 1))), (.lit (.ofNat 0)), true)] sm0 1000000 107 [3, 4, 5, 6, 7] [[6, 76, 77, 78], [0, 1, 6, 13, 14, 15, 19, 20, 21]] [4160, 4184, 4196, 4208, 4215, 4216, 4228, 4239, 4282, 4283, 4284, 4286, 4288, 4289, 4290, 4291, 4292, 4293, 4294, 4300, 4302] [4310, 4322, 4312, 4311] [] [] 4310 q0y = some (q0S.sub (V [(.var 0), (.lit (.ofNat 2)), (.op2 .sub .i64 (.var 0) (.lit (.ofNat 1)))])) := stepsT_spec (T := q0ST) (by kernel_rfl) (by kernel_rfl)
theorem q0t : stepsR Tryz.prog [(.geq, (.op2 .sub .i64 (.var 2) (.lit (.ofNat 1))), (.lit (.ofNat 0)), true), (.gtr, (.op2 .add .i64 (.var 1) (.lit (.ofNat 1))), (.lit (.ofNat 2000)), false)] sm0 1000000 34 [3, 4, 5, 6, 7] [[6, 76, 77, 78], [0, 1, 6, 13, 14, 15, 19, 20, 21]] [4160, 4184, 4196, 4208, 4215, 4216, 4228, 4239, 4282, 4283, 4284, 4286, 4288, 4289, 4290, 4291, 4292, 4293, 4294, 4300, 4302] [4310, 4311, 4312, 4313] [] [] 4310 q0S = some (q0S.sub (V [(.var 0), (.op2 .add .i64 (.var 1) (.lit (.ofNat 1))), (.op2 .sub .i64 (.var 2) (.lit (.ofNat 1)))])) := stepsT_spec (T := q0ST) (by kernel_rfl) (by kernel_rfl)
def q0inv (E0 : Env) (ρ : Nat → Int) : Prop := ρ 0 = E0.ρ 0 ∧ (∀ k, 3 ≤ k → ρ k = E0.ρ k) ∧ ρ 1 = 1 + 1 * (ρ 0 - ρ 2) ∧ 0 ≤ ρ 2 ∧ ρ 2 < ρ 0 ∧ ρ 1 ≤ 2000
def q0cond (ρ : Nat → Int) : Prop := 1 ≤ ρ 2 ∧ ρ 1 + 1 ≤ 2000
theorem q0start (E0 : Env) (hc : 1 ≤ E0.ρ 0 ∧ E0.ρ 0 ≤ 9223372036854775807) {w0 : World} {r : AEnd} {h1 : AH} (g : Good Tryz.prog E0 (heapOf q0rows 4310) w0 33 r h1 (q0inv E0) q0S) : Good Tryz.prog E0 (heapOf q0rows 4310) w0 33 r h1 (fun ρ => ρ = E0.ρ) q0y := by
  refine Good.steps hmix (sm0_sound _) ?_ (by decide) (Nat.le_refl _) q0c0 (Good.sub _ ?_ g)
  · rintro _ rfl
    obtain ⟨h1, h2⟩ := hc
    exact ⟨(by rw [icmp_lss]; exact cmp_f (by simp only [den_var, den_lit] <;> omega)),
      (by rw [icmp_geq]; exact cmp_t (by simp only [den_sub, den_var, den_lit] <;> omega)), trivial⟩
  · rintro _ rfl
    obtain ⟨h1, h2⟩ := hc
    refine ⟨rfl, fun k hk => ?_, ?_⟩
    · match k, hk with
      | k + 3, _ => rfl
    · show SX.den E0.ρ (.lit (.ofNat 2)) = 1 + 1 * (SX.den E0.ρ (.var 0) - SX.den E0.ρ (.op2 .sub .i64 (.var 0) (.lit (.ofNat 1)))) ∧ 0 ≤ SX.den E0.ρ (.op2 .sub .i64 (.var 0) (.lit (.ofNat 1))) ∧ SX.den E0.ρ (.op2 .sub .i64 (.var 0) (.lit (.ofNat 1))) < SX.den E0.ρ (.var 0) ∧ SX.den E0.ρ (.lit (.ofNat 2)) ≤ 2000
      simp only [den_var, den_lit, den_sub]
      omega
theorem q0turn (E0 : Env) (hc : 1 ≤ E0.ρ 0 ∧ E0.ρ 0 ≤ 9223372036854775807) {w0 : World} {r : AEnd} {h1 : AH} {m : Nat} (g : Good Tryz.prog E0 (heapOf q0rows 4310) w0 33 r h1 (fun ρ => q0inv E0 ρ ∧ (ρ 2).toNat < m) q0S) : Good Tryz.prog E0 (heapOf q0rows 4310) w0 33 r h1 (fun ρ => (q0inv E0 ρ ∧ (ρ 2).toNat = m) ∧ q0cond ρ) q0S := by
  refine Good.steps hmix (sm0_sound _) ?_ (by decide) (Nat.le_refl _) q0t (Good.sub _ ?_ g)
  · rintro ρ ⟨⟨⟨h0, h3, h4, h5, h6, h7⟩, hm⟩, c1, c2⟩
    obtain ⟨h1, h2⟩ := hc
    exact ⟨(by rw [icmp_geq]; exact cmp_t (by simp only [den_sub, den_var, den_lit] <;> omega)),
      (gtr_adds_f 1 (by omega) (by omega)), trivial⟩
  · rintro ρ ⟨⟨⟨h0, h3, h4, h5, h6, h7⟩, hm⟩, c1, c2⟩
    obtain ⟨h1, h2⟩ := hc
    refine ⟨⟨h0, fun k hk => ?_, ?_⟩, ?_⟩
    · match k, hk with
      | k + 3, hk => exact h3 (k + 3) hk
    · show SX.den ρ (.op2 .add .i64 (.var 1) (.lit (.ofNat 1))) = 1 + 1 * (SX.den ρ (.var 0) - SX.den ρ (.op2 .sub .i64 (.var 2) (.lit (.ofNat 1)))) ∧ 0 ≤ SX.den ρ (.op2 .sub .i64 (.var 2) (.lit (.ofNat 1))) ∧ SX.den ρ (.op2 .sub .i64 (.var 2) (.lit (.ofNat 1))) < SX.den ρ (.var 0) ∧ SX.den ρ (.op2 .add .i64 (.var 1) (.lit (.ofNat 1))) ≤ 2000
      rw [show SX.den ρ (.op2 .add .i64 (.var 1) (.lit (.ofNat 1))) = ρ 1 + 1 from den_adds (by omega) 1 (by omega)]
      simp only [den_var, den_sub, den_lit]
      omega
    · show (SX.den ρ (.op2 .sub .i64 (.var 2) (.lit (.ofNat 1)))).toNat < m
      simp only [den_sub, den_var, den_lit]
      omega
noncomputable def q0AR : AEnd := (.ret (I 0))
noncomputable def q0Arows : List (Nat × AO) := q0rows ++ [(4286, (K (C [(I 0), (I 5), (I 0), (I 0), .nilslice, (I 3), (I 1), (.slice 4284 0 2 2 2 true), (.slice 4289 0 2 2 2 false), .nilslice, (.map 4290), (.ptr 4288 0), .nilslice, .nilslice, .nilslice, (I 1), (I 0), .nilslice]) 18))]
theorem q0Afin : runR Tryz.prog [(.lss, (.var 0), (.lit (.ofNat 1)), true)] sm0 1000000 [4160, 4184, 4196, 4208, 4215, 4216, 4228, 4239, 4282, 4283, 4284, 4286, 4288, 4289, 4290, 4291, 4292, 4293, 4294, 4300, 4302] [] [] [] 4310 (V []) q0y = some (q0AR, heapOf q0Arows 4310) := runB_spec (by kernel_rfl)
noncomputable def q0Asm : Nat → List AV → AH → Option (AEnd × AH) := callSum 33 q0A q0rows 4310 q0AR q0Arows 4310
theorem q0A_good (E0 : Env) (w0 : World) (hc : Within (-9223372036854775808) 0 E0.ρ) : Good Tryz.prog E0 (heapOf q0rows 4310) w0 33 q0AR (heapOf q0Arows 4310) (fun ρ => ρ = E0.ρ) q0y := by
  refine Good.fin hmix (sm0_sound _) ?_ (by decide) (Nat.le_refl _) (g := V []) (by rintro _ rfl; rfl) q0Afin
  rintro _ rfl
  obtain ⟨h1, h2⟩ := hc
  exact ⟨(by rw [icmp_lss]; exact cmp_t (by simp only [den_var, den_lit] <;> omega)), trivial⟩
theorem q0A_sound (hyp : Hyp) (h : ∀ ρ, HypOk hyp ρ → Within (-9223372036854775808) 0 ρ) : CSound Tryz.prog hyp q0Asm := call_sound q0hen (by kernel_rfl) (by kernel_rfl) (fun E0 w0 hh => q0A_good E0 w0 (h _ hh))
noncomputable def p0AR : AEnd := (.ret (.agg [.nilslice, .nilslice, .nilslice, (I 1), (I 0)]))
noncomputable def p0Arows : List (Nat × AO) := p0rows ++ []
theorem p0Afin : runR Tryz.prog [(.geq, (.var 0), (.lit (.negSucc 9223372036854775807)), true), (.leq, (.var 0), (.lit (.ofNat 0)), true)] (orS q0Asm sm0) 1000000 [4108, 4113, 4114, 4115, 4129, 4130, 4131, 4132, 4150, 4156, 4157, 4158, 4159, 4160, 4183, 4184, 4195, 4196, 4208, 4215, 4216, 4228, 4239, 4282, 4283, 4284] [] [] [] 4285 (V []) p0s1 = some (p0AR, heapOf p0Arows 4285) := runB_spec (by kernel_rfl)
noncomputable def p0Asm : Nat → List AV → AH → Option (AEnd × AH) := callSum 7 p0A p0rows 4285 p0AR p0Arows 4285
theorem p0A_good (E0 : Env) (w0 : World) (hc : Within (-9223372036854775808) 0 E0.ρ) : Good Tryz.prog E0 (heapOf p0rows 4285) w0 7 p0AR (heapOf p0Arows 4285) (fun ρ => ρ = E0.ρ) p0y :=
  Good.steps (hyp := []) hmix (sm0_sound []) (fun _ _ => trivial) (by decide) (Nat.le_refl _) p0c0 (Good.fin hmix (orS_sound (q0A_sound _ (fun _ h => HC.within (l := []) h)) (sm0_sound _)) (by rintro _ rfl; exact hc.hyp) (by decide) (Nat.le_refl _) (g := V []) (by rintro _ rfl; rfl) p0Afin)
theorem p0A_sound (hyp : Hyp) (h : ∀ ρ, HypOk hyp ρ → Within (-9223372036854775808) 0 ρ) : CSound Tryz.prog hyp p0Asm := call_sound p0hen (by kernel_rfl) (by kernel_rfl) (fun E0 w0 hh => p0A_good E0 w0 (h _ hh))
noncomputable def q0BR : AEnd := (.ret (I 0))
noncomputable def q0Brows : List (Nat × AO) := q0rows ++ [(4286, (K (C [(I 0), (I 5), (I 0), (I 0), .nilslice, (I 3), (I 1), (.slice 4284 0 2 2 2 true), (.slice 4289 0 2 2 2 false), .nilslice, (.map 4290), (.ptr 4288 0), .nilslice, .nilslice, .nilslice, (X (.op2 .add .i64 (.lit (.ofNat 1)) (.mn (.mx (.var 0) (.lit (.ofNat 0))) (.lit (.ofNat 5000))))), (I 0), .nilslice]) 18))]
theorem q0Bfin : runR Tryz.prog [] sm0 1000000 [4160, 4184, 4196, 4208, 4215, 4216, 4228, 4239, 4282, 4283, 4284, 4286, 4288, 4289, 4290, 4291, 4292, 4293, 4294, 4300, 4302] [] [] [] 4310 (V []) (q0S.sub (V [(.var 0), (.op2 .add .i64 (.lit (.ofNat 1)) (.mn (.mx (.var 0) (.lit (.ofNat 0))) (.lit (.ofNat 5000)))), (.lit (.ofNat 0))])) = some (q0BR, heapOf q0Brows 4310) := runB_spec (by kernel_rfl)
noncomputable def q0Bsm : Nat → List AV → AH → Option (AEnd × AH) := callSum 33 q0A q0rows 4310 q0BR q0Brows 4310
theorem q0B_good (E0 : Env) (w0 : World) (hc : Within (1) 1999 E0.ρ) : Good Tryz.prog E0 (heapOf q0rows 4310) w0 33 q0BR (heapOf q0Brows 4310) (fun ρ => ρ = E0.ρ) q0y := by
  have hb : 1 ≤ E0.ρ 0 ∧ E0.ρ 0 ≤ 9223372036854775807 := by obtain ⟨h1, h2⟩ := hc; omega
  refine q0start E0 hb (Good.loop (fun ρ => (ρ 2).toNat) fun m ih => Good.split q0cond (q0turn E0 hb ih) ?_)
  refine Good.unsub (V [(.var 0), (.op2 .add .i64 (.lit (.ofNat 1)) (.mn (.mx (.var 0) (.lit (.ofNat 0))) (.lit (.ofNat 5000)))), (.lit (.ofNat 0))]) ?_ (Good.fin hmix (sm0_sound _) ?_ (by decide) (Nat.le_refl _) (g := V []) (by rintro _ rfl; rfl) q0Bfin)
  · rintro ρ ⟨⟨⟨h0, h3, h4, h5, h6, h7⟩, hm⟩, hn⟩
    obtain ⟨h1, h2⟩ := hc
    have hn : ¬ (1 ≤ ρ 2 ∧ ρ 1 + 1 ≤ 2000) := hn
    funext k
    match k with
    | 0 => exact h0
    | 1 =>
      show ρ 1 = SX.den E0.ρ (.op2 .add .i64 (.lit (.ofNat 1)) (.mn (.mx (.var 0) (.lit (.ofNat 0))) (.lit (.ofNat 5000))))
      simp only [den_add, den_lit, den_T]
      omega
    | 2 =>
      show ρ 2 = SX.den E0.ρ (.lit (.ofNat 0))
      simp only [den_lit]
      omega
    | k + 3 => exact h3 (k + 3) (by omega)
  · rintro _ rfl
    obtain ⟨h1, h2⟩ := hc
    exact trivial
theorem q0B_sound (hyp : Hyp) (h : ∀ ρ, HypOk hyp ρ → Within (1) 1999 ρ) : CSound Tryz.prog hyp q0Bsm := call_sound q0hen (by kernel_rfl) (by kernel_rfl) (fun E0 w0 hh => q0B_good E0 w0 (h _ hh))
noncomputable def p0BR : AEnd := (.ret (.agg [.nilslice, .nilslice, .nilslice, (X (.op2 .add .i64 (.lit (.ofNat 1)) (.mn (.mx (.var 0) (.lit (.ofNat 0))) (.lit (.ofNat 5000))))), (I 0)]))
noncomputable def p0Brows : List (Nat × AO) := p0rows ++ []
theorem p0Bfin : runR Tryz.prog [(.geq, (.var 0), (.lit (.ofNat 1)), true), (.leq, (.var 0), (.lit (.ofNat 1999)), true)] (orS q0Bsm sm0) 1000000 [4108, 4113, 4114, 4115, 4129, 4130, 4131, 4132, 4150, 4156, 4157, 4158, 4159, 4160, 4183, 4184, 4195, 4196, 4208, 4215, 4216, 4228, 4239, 4282, 4283, 4284] [] [] [] 4285 (V []) p0s1 = some (p0BR, heapOf p0Brows 4285) := runB_spec (by kernel_rfl)
noncomputable def p0Bsm : Nat → List AV → AH → Option (AEnd × AH) := callSum 7 p0A p0rows 4285 p0BR p0Brows 4285
theorem p0B_good (E0 : Env) (w0 : World) (hc : Within (1) 1999 E0.ρ) : Good Tryz.prog E0 (heapOf p0rows 4285) w0 7 p0BR (heapOf p0Brows 4285) (fun ρ => ρ = E0.ρ) p0y :=
  Good.steps (hyp := []) hmix (sm0_sound []) (fun _ _ => trivial) (by decide) (Nat.le_refl _) p0c0 (Good.fin hmix (orS_sound (q0B_sound _ (fun _ h => HC.within (l := []) h)) (sm0_sound _)) (by rintro _ rfl; exact hc.hyp) (by decide) (Nat.le_refl _) (g := V []) (by rintro _ rfl; rfl) p0Bfin)
theorem p0B_sound (hyp : Hyp) (h : ∀ ρ, HypOk hyp ρ → Within (1) 1999 ρ) : CSound Tryz.prog hyp p0Bsm := call_sound p0hen (by kernel_rfl) (by kernel_rfl) (fun E0 w0 hh => p0B_good E0 w0 (h _ hh))
noncomputable def q0CR : AEnd := (.pan [((.iface 32 (I 120)), false)])
noncomputable def q0Crows : List (Nat × AO) := q0rows ++ [(4286, (K (C [(I 0), (I 5), (I 0), (I 0), .nilslice, (I 3), (I 1), (.slice 4284 0 2 2 2 true), (.slice 4289 0 2 2 2 false), .nilslice, (.map 4290), (.ptr 4288 0), .nilslice, .nilslice, .nilslice, (I 2001), (I 0), .nilslice]) 18))]
theorem q0Cfin : runR Tryz.prog [(.geq, (.op2 .sub .i64 (.op2 .sub .i64 (.var 0) (.lit (.ofNat 1999))) (.lit (.ofNat 1))), (.lit (.ofNat 0)), true)] sm0 1000000 [4160, 4184, 4196, 4208, 4215, 4216, 4228, 4239, 4282, 4283, 4284, 4286, 4288, 4289, 4290, 4291, 4292, 4293, 4294, 4300, 4302] [] [] [] 4310 (V []) (q0S.sub (V [(.var 0), (.lit (.ofNat 2000)), (.op2 .sub .i64 (.var 0) (.lit (.ofNat 1999)))])) = some (q0CR, heapOf q0Crows 4310) := runB_spec (by kernel_rfl)
noncomputable def q0Csm : Nat → List AV → AH → Option (AEnd × AH) := callSum 33 q0A q0rows 4310 q0CR q0Crows 4310
theorem q0C_good (E0 : Env) (w0 : World) (hc : Within (2000) 9223372036854775807 E0.ρ) : Good Tryz.prog E0 (heapOf q0rows 4310) w0 33 q0CR (heapOf q0Crows 4310) (fun ρ => ρ = E0.ρ) q0y := by
  have hb : 1 ≤ E0.ρ 0 ∧ E0.ρ 0 ≤ 9223372036854775807 := by obtain ⟨h1, h2⟩ := hc; omega
  refine q0start E0 hb (Good.loop (fun ρ => (ρ 2).toNat) fun m ih => Good.split q0cond (q0turn E0 hb ih) ?_)
  refine Good.unsub (V [(.var 0), (.lit (.ofNat 2000)), (.op2 .sub .i64 (.var 0) (.lit (.ofNat 1999)))]) ?_ (Good.fin hmix (sm0_sound _) ?_ (by decide) (Nat.le_refl _) (g := V []) (by rintro _ rfl; rfl) q0Cfin)
  · rintro ρ ⟨⟨⟨h0, h3, h4, h5, h6, h7⟩, hm⟩, hn⟩
    obtain ⟨h1, h2⟩ := hc
    have hn : ¬ (1 ≤ ρ 2 ∧ ρ 1 + 1 ≤ 2000) := hn
    funext k
    match k with
    | 0 => exact h0
    | 1 =>
      show ρ 1 = SX.den E0.ρ (.lit (.ofNat 2000))
      simp only [den_lit]
      omega
    | 2 =>
      show ρ 2 = SX.den E0.ρ (.op2 .sub .i64 (.var 0) (.lit (.ofNat 1999)))
      simp only [den_sub, den_var, den_lit]
      omega
    | k + 3 => exact h3 (k + 3) (by omega)
  · rintro _ rfl
    obtain ⟨h1, h2⟩ := hc
    exact ⟨(by rw [icmp_geq]; exact cmp_t (by simp only [den_sub, den_var, den_lit] <;> omega)), trivial⟩
theorem q0C_sound (hyp : Hyp) (h : ∀ ρ, HypOk hyp ρ → Within (2000) 9223372036854775807 ρ) : CSound Tryz.prog hyp q0Csm := call_sound q0hen (by kernel_rfl) (by kernel_rfl) (fun E0 w0 hh => q0C_good E0 w0 (h _ hh))
noncomputable def p0CR : AEnd := (.ret (.agg [.nilslice, .nilslice, .nilslice, (I 2001), (I 120)]))
noncomputable def p0Crows : List (Nat × AO) := p0rows ++ []
theorem p0Cfin : runR Tryz.prog [(.geq, (.var 0), (.lit (.ofNat 2000)), true), (.leq, (.var 0), (.lit (.ofNat 9223372036854775807)), true)] (orS q0Csm sm0) 1000000 [4108, 4113, 4114, 4115, 4129, 4130, 4131, 4132, 4150, 4156, 4157, 4158, 4159, 4160, 4183, 4184, 4195, 4196, 4208, 4215, 4216, 4228, 4239, 4282, 4283, 4284] [] [] [] 4285 (V []) p0s1 = some (p0CR, heapOf p0Crows 4285) := runB_spec (by kernel_rfl)
noncomputable def p0Csm : Nat → List AV → AH → Option (AEnd × AH) := callSum 7 p0A p0rows 4285 p0CR p0Crows 4285
theorem p0C_good (E0 : Env) (w0 : World) (hc : Within (2000) 9223372036854775807 E0.ρ) : Good Tryz.prog E0 (heapOf p0rows 4285) w0 7 p0CR (heapOf p0Crows 4285) (fun ρ => ρ = E0.ρ) p0y :=
  Good.steps (hyp := []) hmix (sm0_sound []) (fun _ _ => trivial) (by decide) (Nat.le_refl _) p0c0 (Good.fin hmix (orS_sound (q0C_sound _ (fun _ h => HC.within (l := []) h)) (sm0_sound _)) (by rintro _ rfl; exact hc.hyp) (by decide) (Nat.le_refl _) (g := V []) (by rintro _ rfl; rfl) p0Cfin)
theorem p0C_sound (hyp : Hyp) (h : ∀ ρ, HypOk hyp ρ → Within (2000) 9223372036854775807 ρ) : CSound Tryz.prog hyp p0Csm := call_sound p0hen (by kernel_rfl) (by kernel_rfl) (fun E0 w0 hh => p0C_good E0 w0 (h _ hh))
end Go.Am.WC
