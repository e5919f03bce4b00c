/- printed by WCgen.lean -/
import Derived.Test.YtbakjgolhekmgaaGreatDoorWNum
namespace Go.Am.WC
open Go.Proofs
set_option maxRecDepth 1000000
set_option maxHeartbeats 0
noncomputable def p2A : List AV := [(.ptr 4111 0), (I 0), (.agg [(I 5), (I 0), (I 0), .nilslice, (I 3), (I 1), (.slice 4284 0 2 2 2 true)])]
noncomputable def p2rows : List (Nat × AO) := [(4111, (K (C [(.ptr 4122 0), (.slice 4123 0 2 2 2 false), (.slice 4125 0 1 1 1 false), (.slice 4124 0 1 1 1 false)]) 4)),
  (4122, (K (C [(I 1), (.str 0 0), (I 0), (.slice 4141 0 2 2 1 false), (I 0)]) 5)),
  (4123, (K (C [(.str 7565136 3), (.slice 4142 0 1 1 1 false), (.str 7103830 3), (.slice 4143 0 1 1 1 false)]) 4)),
  (4124, (K (C [(.ptr 4144 0)]) 1)),
  (4125, (K (C [(.ptr 4145 0)]) 1)),
  (4141, (K (C [(.ptr 4144 0), (.ptr 4145 0)]) 2)),
  (4142, (K (C [(.str 120 1)]) 1)),
  (4143, (K (C [(.str 120 1)]) 1)),
  (4144, (K (C [(I 4), (.str 102 1), (I 1), (.slice 4153 0 2 2 1 false), (I 0)]) 5)),
  (4145, (K (C [(I 2), (.str 77 1), (I 1), (.slice 4154 0 5 5 1 false), (I 37)]) 5)),
  (4153, (K (C [(.ptr 4171 0), (.ptr 4172 0)]) 2)),
  (4154, (K (C [(.ptr 4173 0), (.ptr 4174 0), (.ptr 4176 0), (.ptr 4175 0), (.ptr 4177 0)]) 5)),
  (4171, (K (C [(I 3), (.str 1668183398 4), (I 0), (.slice 4189 0 1 1 1 false), (I 6)]) 5)),
  (4172, (K (C [(I 5), (.str 0 0), (I 0), (.slice 4190 0 1 1 1 false), (I 10)]) 5)),
  (4173, (K (C [(I 3), (.str 1752459639 4), (I 0), .nilslice, (I 56)]) 5)),
  (4174, (K (C [(I 3), (.str 32780218652715383 7), (I 0), .nilslice, (I 56)]) 5)),
  (4175, (K (C [(I 3), (.str 126879581958775 6), (I 0), .nilslice, (I 56)]) 5)),
  (4176, (K (C [(I 3), (.str 495605343602 5), (I 0), (.slice 4191 0 1 1 1 false), (I 46)]) 5)),
  (4177, (K (C [(I 5), (.str 0 0), (I 0), (.slice 4192 0 1 1 1 false), (I 56)]) 5)),
  (4189, (K (C [(.ptr 4202 0)]) 1)),
  (4190, (K (C [(.ptr 4203 0)]) 1)),
  (4191, (K (C [(.ptr 4204 0)]) 1)),
  (4192, (K (C [(.ptr 4205 0)]) 1)),
  (4202, (K (C [(I 31), (.str 107 1), (I 0), .nilslice, (I 7)]) 5)),
  (4203, (K (C [(I 13), (.str 0 0), (I 0), (.slice 4212 0 2 2 1 false), (I 12)]) 5)),
  (4204, (K (C [(I 31), (.str 7565136 3), (I 1), .nilslice, (I 52)]) 5)),
  (4205, (K (C [(I 15), (.str 0 0), (I 0), (.slice 4213 0 2 2 1 false), (I 58)]) 5)),
  (4212, (K (C [(.ptr 4222 0), (.ptr 4223 0)]) 2)),
  (4213, (K (C [(.ptr 4224 0), (.ptr 4225 0)]) 2)),
  (4222, (K (C [(I 33), (.str 62 1), (I 0), (.slice 4233 0 2 2 1 false), (I 17)]) 5)),
  (4223, (K (C [(I 5), (.str 0 0), (I 0), (.slice 4234 0 1 1 1 false), (I 21)]) 5)),
  (4224, (K (C [(I 32), (.str 7565136 3), (I 1), (.slice 4235 0 1 1 1 false), (I 65)]) 5)),
  (4225, (K (C [(I 5), (.str 0 0), (I 0), (.slice 4236 0 1 1 1 false), (I 71)]) 5)),
  (4233, (K (C [(.ptr 4245 0), (.ptr 4246 0)]) 2)),
  (4234, (K (C [(.ptr 4247 0)]) 1)),
  (4235, (K (C [(.ptr 4248 0)]) 1)),
  (4236, (K (C [(.ptr 4249 0)]) 1)),
  (4245, (K (C [(I 31), (.str 107 1), (I 0), .nilslice, (I 15)]) 5)),
  (4246, (K (C [(I 30), (.str 0 0), (I 0), .nilslice, (I 19)]) 5)),
  (4247, (K (C [(I 22), (.str 0 0), (I 0), (.slice 4255 0 1 1 1 false), (I 23)]) 5)),
  (4248, (K (C [(I 31), (.str 120 1), (I 0), .nilslice, (I 69)]) 5)),
  (4249, (K (C [(I 13), (.str 0 0), (I 0), (.slice 4256 0 2 2 1 false), (I 73)]) 5)),
  (4255, (K (C [(.ptr 4261 0)]) 1)),
  (4256, (K (C [(.ptr 4262 0), (.ptr 4263 0)]) 2)),
  (4261, (K (C [(I 31), (.str 107 1), (I 0), .nilslice, (I 30)]) 5)),
  (4262, (K (C [(I 33), (.str 15677 2), (I 0), (.slice 4265 0 2 2 1 false), (I 84)]) 5)),
  (4263, (K (C [(I 5), (.str 0 0), (I 0), .nilslice, (I 89)]) 5)),
  (4265, (K (C [(.ptr 4268 0), (.ptr 4269 0)]) 2)),
  (4268, (K (C [(I 36), (.str 102 1), (I 0), (.slice 4270 0 1 1 1 false), (I 76)]) 5)),
  (4269, (K (C [(I 30), (.str 0 0), (I 0), .nilslice, (I 87)]) 5)),
  (4270, (K (C [(.ptr 4271 0)]) 1)),
  (4271, (K (C [(I 38), (.str 1801677172 4), (I 0), .nilslice, (I 78)]) 5)),
  (4282, (K (C [(X (.var 0))]) 1)),
  (4283, (K (C [(I 0)]) 1)),
  (4284, (K (C [(I 1), (.slice 4282 0 1 1 1 true), (I 2), (.slice 4283 0 1 1 1 true)]) 4))]
noncomputable def p2fr : AF := ⟨7, 114, argsIn p2A 0 .leaf, [.code (F 7)], [], .run, false⟩
theorem p2hen : AF.enter Tryz.prog 7 p2A false = some p2fr := by kernel_rfl
noncomputable def p2y : St := ⟨p2fr, [], heapOf p2rows 4285⟩
noncomputable def p2s1T : List (List AIt) := [[.code (A (B (B (F 16)))), .code (B (B (B (F 16))))],
  [R (A (B (B (B (B (B (B (B (B (F 7)))))))))) 114 5, .code (B (B (B (B (B (B (B (B (B (F 7))))))))))]]
noncomputable def p2s1 : St := ⟨⟨16, 58, (S [(1, (.ptr 4145 0)), (2, (.ptr 4285 0))]), nthT p2s1T 0, [(32, [(.ptr 4285 0)])], .run, false⟩,
  [⟨7, 114, (S [(6, (.ptr 4287 0)), (8, (.ptr 4286 0)), (104, (.ptr 4286 0)), (108, (.ptr 4145 0))]), nthT p2s1T 1, [], .run, false⟩],
  (H 4296 [(4111, (K (C [(.ptr 4122 0), (.slice 4123 0 2 2 2 false), (.slice 4125 0 1 1 1 false), (.slice 4124 0 1 1 1 false)]) 4)),
  (4122, (K (C [(I 1), (.str 0 0), (I 0), (.slice 4141 0 2 2 1 false), (I 0)]) 5)),
  (4123, (K (C [(.str 7565136 3), (.slice 4142 0 1 1 1 false), (.str 7103830 3), (.slice 4143 0 1 1 1 false)]) 4)),
  (4124, (K (C [(.ptr 4144 0)]) 1)),
  (4125, (K (C [(.ptr 4145 0)]) 1)),
  (4141, (K (C [(.ptr 4144 0), (.ptr 4145 0)]) 2)),
  (4142, (K (C [(.str 120 1)]) 1)),
  (4143, (K (C [(.str 120 1)]) 1)),
  (4144, (K (C [(I 4), (.str 102 1), (I 1), (.slice 4153 0 2 2 1 false), (I 0)]) 5)),
  (4145, (K (C [(I 2), (.str 77 1), (I 1), (.slice 4154 0 5 5 1 false), (I 37)]) 5)),
  (4153, (K (C [(.ptr 4171 0), (.ptr 4172 0)]) 2)),
  (4154, (K (C [(.ptr 4173 0), (.ptr 4174 0), (.ptr 4176 0), (.ptr 4175 0), (.ptr 4177 0)]) 5)),
  (4171, (K (C [(I 3), (.str 1668183398 4), (I 0), (.slice 4189 0 1 1 1 false), (I 6)]) 5)),
  (4172, (K (C [(I 5), (.str 0 0), (I 0), (.slice 4190 0 1 1 1 false), (I 10)]) 5)),
  (4173, (K (C [(I 3), (.str 1752459639 4), (I 0), .nilslice, (I 56)]) 5)),
  (4174, (K (C [(I 3), (.str 32780218652715383 7), (I 0), .nilslice, (I 56)]) 5)),
  (4175, (K (C [(I 3), (.str 126879581958775 6), (I 0), .nilslice, (I 56)]) 5)),
  (4176, (K (C [(I 3), (.str 495605343602 5), (I 0), (.slice 4191 0 1 1 1 false), (I 46)]) 5)),
  (4177, (K (C [(I 5), (.str 0 0), (I 0), (.slice 4192 0 1 1 1 false), (I 56)]) 5)),
  (4189, (K (C [(.ptr 4202 0)]) 1)),
  (4190, (K (C [(.ptr 4203 0)]) 1)),
  (4191, (K (C [(.ptr 4204 0)]) 1)),
  (4192, (K (C [(.ptr 4205 0)]) 1)),
  (4202, (K (C [(I 31), (.str 107 1), (I 0), .nilslice, (I 7)]) 5)),
  (4203, (K (C [(I 13), (.str 0 0), (I 0), (.slice 4212 0 2 2 1 false), (I 12)]) 5)),
  (4204, (K (C [(I 31), (.str 7565136 3), (I 1), .nilslice, (I 52)]) 5)),
  (4205, (K (C [(I 15), (.str 0 0), (I 0), (.slice 4213 0 2 2 1 false), (I 58)]) 5)),
  (4212, (K (C [(.ptr 4222 0), (.ptr 4223 0)]) 2)),
  (4213, (K (C [(.ptr 4224 0), (.ptr 4225 0)]) 2)),
  (4222, (K (C [(I 33), (.str 62 1), (I 0), (.slice 4233 0 2 2 1 false), (I 17)]) 5)),
  (4223, (K (C [(I 5), (.str 0 0), (I 0), (.slice 4234 0 1 1 1 false), (I 21)]) 5)),
  (4224, (K (C [(I 32), (.str 7565136 3), (I 1), (.slice 4235 0 1 1 1 false), (I 65)]) 5)),
  (4225, (K (C [(I 5), (.str 0 0), (I 0), (.slice 4236 0 1 1 1 false), (I 71)]) 5)),
  (4233, (K (C [(.ptr 4245 0), (.ptr 4246 0)]) 2)),
  (4234, (K (C [(.ptr 4247 0)]) 1)),
  (4235, (K (C [(.ptr 4248 0)]) 1)),
  (4236, (K (C [(.ptr 4249 0)]) 1)),
  (4245, (K (C [(I 31), (.str 107 1), (I 0), .nilslice, (I 15)]) 5)),
  (4246, (K (C [(I 30), (.str 0 0), (I 0), .nilslice, (I 19)]) 5)),
  (4247, (K (C [(I 22), (.str 0 0), (I 0), (.slice 4255 0 1 1 1 false), (I 23)]) 5)),
  (4248, (K (C [(I 31), (.str 120 1), (I 0), .nilslice, (I 69)]) 5)),
  (4249, (K (C [(I 13), (.str 0 0), (I 0), (.slice 4256 0 2 2 1 false), (I 73)]) 5)),
  (4255, (K (C [(.ptr 4261 0)]) 1)),
  (4256, (K (C [(.ptr 4262 0), (.ptr 4263 0)]) 2)),
  (4261, (K (C [(I 31), (.str 107 1), (I 0), .nilslice, (I 30)]) 5)),
  (4262, (K (C [(I 33), (.str 15677 2), (I 0), (.slice 4265 0 2 2 1 false), (I 84)]) 5)),
  (4263, (K (C [(I 5), (.str 0 0), (I 0), .nilslice, (I 89)]) 5)),
  (4265, (K (C [(.ptr 4268 0), (.ptr 4269 0)]) 2)),
  (4268, (K (C [(I 36), (.str 102 1), (I 0), (.slice 4270 0 1 1 1 false), (I 76)]) 5)),
  (4269, (K (C [(I 30), (.str 0 0), (I 0), .nilslice, (I 87)]) 5)),
  (4270, (K (C [(.ptr 4271 0)]) 1)),
  (4271, (K (C [(I 38), (.str 1801677172 4), (I 0), .nilslice, (I 78)]) 5)),
  (4282, (K (C [(X (.var 0))]) 1)),
  (4283, (K (C [(I 0)]) 1)),
  (4284, (K (C [(I 1), (.slice 4282 0 1 1 1 true), (I 2), (.slice 4283 0 1 1 1 true)]) 4)),
  (4285, (K (C [(.ptr 4286 0)]) 1)),
  (4286, (K (C [(I 0), (I 5), (I 0), (I 0), .nilslice, (I 3), (I 1), (.slice 4284 0 2 2 2 true), (.slice 4290 0 2 2 2 false), (.slice 4289 0 1 1 1 false), (.map 4291), (.ptr 4288 0), .nilslice, .nilslice, .nilslice, (I 0), (I 0), .nilslice]) 18)),
  (4287, (K (C [.nilslice, .nilslice, .nilslice, (I 0), (I 0)]) 5)),
  (4288, (K (C [(.int .u64 (.c (.ofNat 8626466141916243606)))]) 1)),
  (4289, (K (C [(.ptr 4144 0)]) 1)),
  (4290, (K (C [(.str 7565136 3), (.slice 4292 0 1 1 1 false), (.str 7103830 3), (.slice 4293 0 1 1 1 false)]) 4)),
  (4291, (.map [((I 1), (.slice 4294 0 1 1 1 false), 0), ((I 2), (.slice 4295 0 1 1 1 false), 1)] 2)),
  (4292, (K (C [(.str 120 1)]) 1)),
  (4293, (K (C [(.str 120 1)]) 1)),
  (4294, (K (C [(X (.var 0))]) 1)),
  (4295, (K (C [(I 0)]) 1))])⟩
theorem p2c0 : stepsR Tryz.prog [] sm0 1000000 273 [1, 2] [[6, 8, 104, 108]] [4111, 4122, 4123, 4124, 4125, 4141, 4142, 4143, 4144, 4145, 4153, 4154, 4171, 4172, 4173, 4174, 4175, 4176, 4177, 4189, 4190, 4191, 4192, 4202, 4203, 4204, 4205, 4212, 4213, 4222, 4223, 4224, 4225, 4233, 4234, 4235, 4236, 4245, 4246, 4247, 4248, 4249, 4255, 4256, 4261, 4262, 4263, 4265, 4268, 4269, 4270, 4271, 4282, 4283, 4284] [4382, 4343, 4286, 4351, 4379, 4346, 4336, 4348, 4350, 4364, 4377] [] [] 4285 p2y = some p2s1 := stepsT_spec (T := p2s1T) (by kernel_rfl) (by kernel_rfl)
noncomputable def q2A : List AV := [(.ptr 4286 0), (.ptr 4303 0), (.ptr 4177 0)]
noncomputable def q2rows : List (Nat × AO) := [(4144, (K (C [(I 4), (.str 102 1), (I 1), (.slice 4153 0 2 2 1 false), (I 0)]) 5)),
  (4153, (K (C [(.ptr 4171 0), (.ptr 4172 0)]) 2)),
  (4171, (K (C [(I 3), (.str 1668183398 4), (I 0), (.slice 4189 0 1 1 1 false), (I 6)]) 5)),
  (4172, (K (C [(I 5), (.str 0 0), (I 0), (.slice 4190 0 1 1 1 false), (I 10)]) 5)),
  (4177, (K (C [(I 5), (.str 0 0), (I 0), (.slice 4192 0 1 1 1 false), (I 56)]) 5)),
  (4189, (K (C [(.ptr 4202 0)]) 1)),
  (4190, (K (C [(.ptr 4203 0)]) 1)),
  (4192, (K (C [(.ptr 4205 0)]) 1)),
  (4202, (K (C [(I 31), (.str 107 1), (I 0), .nilslice, (I 7)]) 5)),
  (4203, (K (C [(I 13), (.str 0 0), (I 0), (.slice 4212 0 2 2 1 false), (I 12)]) 5)),
  (4205, (K (C [(I 15), (.str 0 0), (I 0), (.slice 4213 0 2 2 1 false), (I 58)]) 5)),
  (4212, (K (C [(.ptr 4222 0), (.ptr 4223 0)]) 2)),
  (4213, (K (C [(.ptr 4224 0), (.ptr 4225 0)]) 2)),
  (4222, (K (C [(I 33), (.str 62 1), (I 0), (.slice 4233 0 2 2 1 false), (I 17)]) 5)),
  (4223, (K (C [(I 5), (.str 0 0), (I 0), (.slice 4234 0 1 1 1 false), (I 21)]) 5)),
  (4224, (K (C [(I 32), (.str 7565136 3), (I 1), (.slice 4235 0 1 1 1 false), (I 65)]) 5)),
  (4225, (K (C [(I 5), (.str 0 0), (I 0), (.slice 4236 0 1 1 1 false), (I 71)]) 5)),
  (4233, (K (C [(.ptr 4245 0), (.ptr 4246 0)]) 2)),
  (4234, (K (C [(.ptr 4247 0)]) 1)),
  (4235, (K (C [(.ptr 4248 0)]) 1)),
  (4236, (K (C [(.ptr 4249 0)]) 1)),
  (4245, (K (C [(I 31), (.str 107 1), (I 0), .nilslice, (I 15)]) 5)),
  (4246, (K (C [(I 30), (.str 0 0), (I 0), .nilslice, (I 19)]) 5)),
  (4247, (K (C [(I 22), (.str 0 0), (I 0), (.slice 4255 0 1 1 1 false), (I 23)]) 5)),
  (4248, (K (C [(I 31), (.str 120 1), (I 0), .nilslice, (I 69)]) 5)),
  (4249, (K (C [(I 13), (.str 0 0), (I 0), (.slice 4256 0 2 2 1 false), (I 73)]) 5)),
  (4255, (K (C [(.ptr 4261 0)]) 1)),
  (4256, (K (C [(.ptr 4262 0), (.ptr 4263 0)]) 2)),
  (4261, (K (C [(I 31), (.str 107 1), (I 0), .nilslice, (I 30)]) 5)),
  (4262, (K (C [(I 33), (.str 15677 2), (I 0), (.slice 4265 0 2 2 1 false), (I 84)]) 5)),
  (4263, (K (C [(I 5), (.str 0 0), (I 0), .nilslice, (I 89)]) 5)),
  (4265, (K (C [(.ptr 4268 0), (.ptr 4269 0)]) 2)),
  (4268, (K (C [(I 36), (.str 102 1), (I 0), (.slice 4270 0 1 1 1 false), (I 76)]) 5)),
  (4269, (K (C [(I 30), (.str 0 0), (I 0), .nilslice, (I 87)]) 5)),
  (4270, (K (C [(.ptr 4271 0)]) 1)),
  (4271, (K (C [(I 38), (.str 1801677172 4), (I 0), .nilslice, (I 78)]) 5)),
  (4282, (K (C [(X (.var 0))]) 1)),
  (4283, (K (C [(I 0)]) 1)),
  (4284, (K (C [(I 1), (.slice 4282 0 1 1 1 true), (I 2), (.slice 4283 0 1 1 1 true)]) 4)),
  (4286, (K (C [(I 0), (I 5), (I 0), (I 0), .nilslice, (I 3), (I 1), (.slice 4284 0 2 2 2 true), (.slice 4290 0 2 2 2 false), (.slice 4289 0 1 1 1 false), (.map 4291), (.ptr 4288 0), .nilslice, .nilslice, .nilslice, (I 0), (I 0), .nilslice]) 18)),
  (4288, (K (C [(.int .u64 (.c (.ofNat 8626466141916243606)))]) 1)),
  (4289, (K (C [(.ptr 4144 0)]) 1)),
  (4290, (K (C [(.str 7565136 3), (.slice 4292 0 1 1 1 false), (.str 7103830 3), (.slice 4293 0 1 1 1 false)]) 4)),
  (4291, (.map [((I 1), (.slice 4294 0 1 1 1 false), 0), ((I 2), (.slice 4295 0 1 1 1 false), 1)] 2)),
  (4292, (K (C [(.str 120 1)]) 1)),
  (4293, (K (C [(.str 120 1)]) 1)),
  (4294, (K (C [(X (.var 0))]) 1)),
  (4295, (K (C [(I 0)]) 1)),
  (4301, (K (C [(I 0)]) 1)),
  (4303, (K (C [(.slice 4301 0 1 1 1 true), (I 0)]) 2))]
noncomputable def q2fr : AF := ⟨33, 27, argsIn q2A 0 .leaf, [.code (F 33)], [], .run, false⟩
theorem q2hen : AF.enter Tryz.prog 33 q2A false = some q2fr := by kernel_rfl
noncomputable def q2y : St := ⟨q2fr, [], heapOf q2rows 4311⟩
noncomputable def q2ST : List (List AIt) := [[.inLoop (A (A (A (B (B (B (F 79))))))), .inBlock 0, .code (B (B (B (B (F 79)))))],
  [R (A (A (B (B (B (B (B (B (B (A (B (A (B (B (F 52))))))))))))))) 96 3, .code (B (A (B (B (B (B (B (A (B (A (B (B (F 52))))))))))))), .inBlock 0, .code (B (B (B (F 52))))],
  [R (A (B (A (A (B (B (A (A (B (A (B (F 33)))))))))))) 27 3, .code (B (B (A (A (B (B (A (A (B (A (B (F 33)))))))))))), .inBlock 1, .code (B (B (B (A (A (B (A (B (F 33))))))))), .inLoop (A (A (B (A (B (F 33)))))), .inBlock 0, .code (B (B (F 33)))]]
noncomputable def q2S : St := ⟨⟨79, 44, (S [(3, (.ptr 4311 0)), (4, (.ptr 4314 0)), (5, (.ptr 4313 0)), (6, (I 0)), (7, (.func (.func 115) [] [(.ptr 4312 0)]))]), nthT q2ST 0, [], .run, false⟩,
  [⟨52, 96, (S [(6, (I 0)), (76, (.ptr 4286 0)), (77, (.ptr 4303 0)), (78, (.ptr 4205 0))]), nthT q2ST 1, [], .run, false⟩,
  ⟨33, 27, (S [(0, (.ptr 4286 0)), (1, (.ptr 4303 0)), (6, (I 0)), (13, (.slice 4192 0 1 1 1 false)), (14, (I 1)), (15, (I 0)), (19, (.ptr 4286 0)), (20, (.ptr 4303 0)), (21, (.ptr 4205 0))]), nthT q2ST 2, [], .run, false⟩],
  (H 4315 [(4144, (K (C [(I 4), (.str 102 1), (I 1), (.slice 4153 0 2 2 1 false), (I 0)]) 5)),
  (4153, (K (C [(.ptr 4171 0), (.ptr 4172 0)]) 2)),
  (4171, (K (C [(I 3), (.str 1668183398 4), (I 0), (.slice 4189 0 1 1 1 false), (I 6)]) 5)),
  (4172, (K (C [(I 5), (.str 0 0), (I 0), (.slice 4190 0 1 1 1 false), (I 10)]) 5)),
  (4177, (K (C [(I 5), (.str 0 0), (I 0), (.slice 4192 0 1 1 1 false), (I 56)]) 5)),
  (4189, (K (C [(.ptr 4202 0)]) 1)),
  (4190, (K (C [(.ptr 4203 0)]) 1)),
  (4192, (K (C [(.ptr 4205 0)]) 1)),
  (4202, (K (C [(I 31), (.str 107 1), (I 0), .nilslice, (I 7)]) 5)),
  (4203, (K (C [(I 13), (.str 0 0), (I 0), (.slice 4212 0 2 2 1 false), (I 12)]) 5)),
  (4205, (K (C [(I 15), (.str 0 0), (I 0), (.slice 4213 0 2 2 1 false), (I 58)]) 5)),
  (4212, (K (C [(.ptr 4222 0), (.ptr 4223 0)]) 2)),
  (4213, (K (C [(.ptr 4224 0), (.ptr 4225 0)]) 2)),
  (4222, (K (C [(I 33), (.str 62 1), (I 0), (.slice 4233 0 2 2 1 false), (I 17)]) 5)),
  (4223, (K (C [(I 5), (.str 0 0), (I 0), (.slice 4234 0 1 1 1 false), (I 21)]) 5)),
  (4224, (K (C [(I 32), (.str 7565136 3), (I 1), (.slice 4235 0 1 1 1 false), (I 65)]) 5)),
  (4225, (K (C [(I 5), (.str 0 0), (I 0), (.slice 4236 0 1 1 1 false), (I 71)]) 5)),
  (4233, (K (C [(.ptr 4245 0), (.ptr 4246 0)]) 2)),
  (4234, (K (C [(.ptr 4247 0)]) 1)),
  (4235, (K (C [(.ptr 4248 0)]) 1)),
  (4236, (K (C [(.ptr 4249 0)]) 1)),
  (4245, (K (C [(I 31), (.str 107 1), (I 0), .nilslice, (I 15)]) 5)),
  (4246, (K (C [(I 30), (.str 0 0), (I 0), .nilslice, (I 19)]) 5)),
  (4247, (K (C [(I 22), (.str 0 0), (I 0), (.slice 4255 0 1 1 1 false), (I 23)]) 5)),
  (4248, (K (C [(I 31), (.str 120 1), (I 0), .nilslice, (I 69)]) 5)),
  (4249, (K (C [(I 13), (.str 0 0), (I 0), (.slice 4256 0 2 2 1 false), (I 73)]) 5)),
  (4255, (K (C [(.ptr 4261 0)]) 1)),
  (4256, (K (C [(.ptr 4262 0), (.ptr 4263 0)]) 2)),
  (4261, (K (C [(I 31), (.str 107 1), (I 0), .nilslice, (I 30)]) 5)),
  (4262, (K (C [(I 33), (.str 15677 2), (I 0), (.slice 4265 0 2 2 1 false), (I 84)]) 5)),
  (4263, (K (C [(I 5), (.str 0 0), (I 0), .nilslice, (I 89)]) 5)),
  (4265, (K (C [(.ptr 4268 0), (.ptr 4269 0)]) 2)),
  (4268, (K (C [(I 36), (.str 102 1), (I 0), (.slice 4270 0 1 1 1 false), (I 76)]) 5)),
  (4269, (K (C [(I 30), (.str 0 0), (I 0), .nilslice, (I 87)]) 5)),
  (4270, (K (C [(.ptr 4271 0)]) 1)),
  (4271, (K (C [(I 38), (.str 1801677172 4), (I 0), .nilslice, (I 78)]) 5)),
  (4282, (K (C [(X (.var 0))]) 1)),
  (4283, (K (C [(I 0)]) 1)),
  (4284, (K (C [(I 1), (.slice 4282 0 1 1 1 true), (I 2), (.slice 4283 0 1 1 1 true)]) 4)),
  (4286, (K (C [(I 0), (I 5), (I 0), (I 0), .nilslice, (I 3), (I 1), (.slice 4284 0 2 2 2 true), (.slice 4290 0 2 2 2 false), (.slice 4289 0 1 1 1 false), (.map 4291), (.ptr 4288 0), .nilslice, .nilslice, .nilslice, (X (.var 1)), (I 0), .nilslice]) 18)),
  (4288, (K (C [(.int .u64 (.c (.ofNat 8626466141916243606)))]) 1)),
  (4289, (K (C [(.ptr 4144 0)]) 1)),
  (4290, (K (C [(.str 7565136 3), (.slice 4292 0 1 1 1 false), (.str 7103830 3), (.slice 4293 0 1 1 1 false)]) 4)),
  (4291, (.map [((I 1), (.slice 4294 0 1 1 1 false), 0), ((I 2), (.slice 4295 0 1 1 1 false), 1)] 2)),
  (4292, (K (C [(.str 120 1)]) 1)),
  (4293, (K (C [(.str 120 1)]) 1)),
  (4294, (K (C [(X (.var 0))]) 1)),
  (4295, (K (C [(I 0)]) 1)),
  (4301, (K (C [(I 0)]) 1)),
  (4303, (K (C [(.slice 4301 0 1 1 1 true), (I 0)]) 2)),
  (4311, (K (C [(.ptr 4286 0)]) 1)),
  (4312, (K (C [(X (.var 2))]) 1)),
  (4313, (K (C [(.ptr 4205 0)]) 1)),
  (4314, (K (C [(.ptr 4303 0)]) 1))])⟩
theorem q2c0 : stepsR Tryz.prog [(.lss, (.var 0), (.lit (.ofNat 1)), false), (.geq, (.op2 .sub .i64 (.var 0) (.lit (.ofNat 1))), (.lit (.ofNat 0)), true)] sm0 1000000 107 [3, 4, 5, 6, 7] [[6, 76, 77, 78], [0, 1, 6, 13, 14, 15, 19, 20, 21]] [4144, 4153, 4171, 4172, 4177, 4189, 4190, 4192, 4202, 4203, 4205, 4212, 4213, 4222, 4223, 4224, 4225, 4233, 4234, 4235, 4236, 4245, 4246, 4247, 4248, 4249, 4255, 4256, 4261, 4262, 4263, 4265, 4268, 4269, 4270, 4271, 4282, 4283, 4284, 4286, 4288, 4289, 4290, 4291, 4292, 4293, 4294, 4295, 4301, 4303] [4311, 4323, 4313, 4312] [] [] 4311 q2y = some (q2S.sub (V [(.var 0), (.lit (.ofNat 6)), (.op2 .sub .i64 (.var 0) (.lit (.ofNat 1)))])) := stepsT_spec (T := q2ST) (by kernel_rfl) (by kernel_rfl)
theorem q2t : stepsR Tryz.prog [(.geq, (.op2 .sub .i64 (.var 2) (.lit (.ofNat 1))), (.lit (.ofNat 0)), true), (.gtr, (.op2 .add .i64 (.var 1) (.lit (.ofNat 1))), (.lit (.ofNat 2000)), false), (.gtr, (.op2 .add .i64 (.op2 .add .i64 (.var 1) (.lit (.ofNat 1))) (.lit (.ofNat 1))), (.lit (.ofNat 2000)), false), (.gtr, (.op2 .add .i64 (.op2 .add .i64 (.op2 .add .i64 (.var 1) (.lit (.ofNat 1))) (.lit (.ofNat 1))) (.lit (.ofNat 1))), (.lit (.ofNat 2000)), false), (.gtr, (.op2 .add .i64 (.op2 .add .i64 (.op2 .add .i64 (.op2 .add .i64 (.var 1) (.lit (.ofNat 1))) (.lit (.ofNat 1))) (.lit (.ofNat 1))) (.lit (.ofNat 1))), (.lit (.ofNat 2000)), false), (.gtr, (.op2 .add .i64 (.op2 .add .i64 (.op2 .add .i64 (.op2 .add .i64 (.op2 .add .i64 (.var 1) (.lit (.ofNat 1))) (.lit (.ofNat 1))) (.lit (.ofNat 1))) (.lit (.ofNat 1))) (.lit (.ofNat 1))), (.lit (.ofNat 2000)), false)] sm0 1000000 34 [3, 4, 5, 6, 7] [[6, 76, 77, 78], [0, 1, 6, 13, 14, 15, 19, 20, 21]] [4144, 4153, 4171, 4172, 4177, 4189, 4190, 4192, 4202, 4203, 4205, 4212, 4213, 4222, 4223, 4224, 4225, 4233, 4234, 4235, 4236, 4245, 4246, 4247, 4248, 4249, 4255, 4256, 4261, 4262, 4263, 4265, 4268, 4269, 4270, 4271, 4282, 4283, 4284, 4286, 4288, 4289, 4290, 4291, 4292, 4293, 4294, 4295, 4301, 4303] [4311, 4312, 4313, 4314] [] [] 4311 q2S = some (q2S.sub (V [(.var 0), (.op2 .add .i64 (.op2 .add .i64 (.op2 .add .i64 (.op2 .add .i64 (.op2 .add .i64 (.var 1) (.lit (.ofNat 1))) (.lit (.ofNat 1))) (.lit (.ofNat 1))) (.lit (.ofNat 1))) (.lit (.ofNat 1))), (.op2 .sub .i64 (.var 2) (.lit (.ofNat 1)))])) := stepsT_spec (T := q2ST) (by kernel_rfl) (by kernel_rfl)
def q2inv (E0 : Env) (ρ : Nat → Int) : Prop := ρ 0 = E0.ρ 0 ∧ (∀ k, 3 ≤ k → ρ k = E0.ρ k) ∧ ρ 1 = 1 + 5 * (ρ 0 - ρ 2) ∧ 0 ≤ ρ 2 ∧ ρ 2 < ρ 0 ∧ ρ 1 ≤ 2000
def q2cond (ρ : Nat → Int) : Prop := 1 ≤ ρ 2 ∧ ρ 1 + 5 ≤ 2000
theorem q2start (E0 : Env) (hc : 1 ≤ E0.ρ 0 ∧ E0.ρ 0 ≤ 9223372036854775807) {w0 : World} {r : AEnd} {h1 : AH} (g : Good Tryz.prog E0 (heapOf q2rows 4311) w0 33 r h1 (q2inv E0) q2S) : Good Tryz.prog E0 (heapOf q2rows 4311) w0 33 r h1 (fun ρ => ρ = E0.ρ) q2y := by
  refine Good.steps hmix (sm0_sound _) ?_ (by decide) (Nat.le_refl _) q2c0 (Good.sub _ ?_ g)
  · rintro _ rfl
    obtain ⟨h1, h2⟩ := hc
    exact ⟨(by rw [icmp_lss]; exact cmp_f (by simp only [den_var, den_lit] <;> omega)),
      (by rw [icmp_geq]; exact cmp_t (by simp only [den_sub, den_var, den_lit] <;> omega)), trivial⟩
  · rintro _ rfl
    obtain ⟨h1, h2⟩ := hc
    refine ⟨rfl, fun k hk => ?_, ?_⟩
    · match k, hk with
      | k + 3, _ => rfl
    · show SX.den E0.ρ (.lit (.ofNat 6)) = 1 + 5 * (SX.den E0.ρ (.var 0) - SX.den E0.ρ (.op2 .sub .i64 (.var 0) (.lit (.ofNat 1)))) ∧ 0 ≤ SX.den E0.ρ (.op2 .sub .i64 (.var 0) (.lit (.ofNat 1))) ∧ SX.den E0.ρ (.op2 .sub .i64 (.var 0) (.lit (.ofNat 1))) < SX.den E0.ρ (.var 0) ∧ SX.den E0.ρ (.lit (.ofNat 6)) ≤ 2000
      simp only [den_var, den_lit, den_sub]
      omega
theorem q2turn (E0 : Env) (hc : 1 ≤ E0.ρ 0 ∧ E0.ρ 0 ≤ 9223372036854775807) {w0 : World} {r : AEnd} {h1 : AH} {m : Nat} (g : Good Tryz.prog E0 (heapOf q2rows 4311) w0 33 r h1 (fun ρ => q2inv E0 ρ ∧ (ρ 2).toNat < m) q2S) : Good Tryz.prog E0 (heapOf q2rows 4311) w0 33 r h1 (fun ρ => (q2inv E0 ρ ∧ (ρ 2).toNat = m) ∧ q2cond ρ) q2S := by
  refine Good.steps hmix (sm0_sound _) ?_ (by decide) (Nat.le_refl _) q2t (Good.sub _ ?_ g)
  · rintro ρ ⟨⟨⟨h0, h3, h4, h5, h6, h7⟩, hm⟩, c1, c2⟩
    obtain ⟨h1, h2⟩ := hc
    exact ⟨(by rw [icmp_geq]; exact cmp_t (by simp only [den_sub, den_var, den_lit] <;> omega)),
      (gtr_adds_f 1 (by omega) (by omega)),
      (gtr_adds_f 2 (by omega) (by omega)),
      (gtr_adds_f 3 (by omega) (by omega)),
      (gtr_adds_f 4 (by omega) (by omega)),
      (gtr_adds_f 5 (by omega) (by omega)), trivial⟩
  · rintro ρ ⟨⟨⟨h0, h3, h4, h5, h6, h7⟩, hm⟩, c1, c2⟩
    obtain ⟨h1, h2⟩ := hc
    refine ⟨⟨h0, fun k hk => ?_, ?_⟩, ?_⟩
    · match k, hk with
      | k + 3, hk => exact h3 (k + 3) hk
    · show SX.den ρ (.op2 .add .i64 (.op2 .add .i64 (.op2 .add .i64 (.op2 .add .i64 (.op2 .add .i64 (.var 1) (.lit (.ofNat 1))) (.lit (.ofNat 1))) (.lit (.ofNat 1))) (.lit (.ofNat 1))) (.lit (.ofNat 1))) = 1 + 5 * (SX.den ρ (.var 0) - SX.den ρ (.op2 .sub .i64 (.var 2) (.lit (.ofNat 1)))) ∧ 0 ≤ SX.den ρ (.op2 .sub .i64 (.var 2) (.lit (.ofNat 1))) ∧ SX.den ρ (.op2 .sub .i64 (.var 2) (.lit (.ofNat 1))) < SX.den ρ (.var 0) ∧ SX.den ρ (.op2 .add .i64 (.op2 .add .i64 (.op2 .add .i64 (.op2 .add .i64 (.op2 .add .i64 (.var 1) (.lit (.ofNat 1))) (.lit (.ofNat 1))) (.lit (.ofNat 1))) (.lit (.ofNat 1))) (.lit (.ofNat 1))) ≤ 2000
      rw [show SX.den ρ (.op2 .add .i64 (.op2 .add .i64 (.op2 .add .i64 (.op2 .add .i64 (.op2 .add .i64 (.var 1) (.lit (.ofNat 1))) (.lit (.ofNat 1))) (.lit (.ofNat 1))) (.lit (.ofNat 1))) (.lit (.ofNat 1))) = ρ 1 + 5 from den_adds (by omega) 5 (by omega)]
      simp only [den_var, den_sub, den_lit]
      omega
    · show (SX.den ρ (.op2 .sub .i64 (.var 2) (.lit (.ofNat 1)))).toNat < m
      simp only [den_sub, den_var, den_lit]
      omega
noncomputable def q2AR : AEnd := (.ret (I 0))
noncomputable def q2Arows : List (Nat × AO) := q2rows ++ [(4286, (K (C [(I 0), (I 5), (I 0), (I 0), .nilslice, (I 3), (I 1), (.slice 4284 0 2 2 2 true), (.slice 4290 0 2 2 2 false), (.slice 4289 0 1 1 1 false), (.map 4291), (.ptr 4288 0), .nilslice, .nilslice, .nilslice, (I 1), (I 0), .nilslice]) 18))]
theorem q2Afin : runR Tryz.prog [(.lss, (.var 0), (.lit (.ofNat 1)), true)] sm0 1000000 [4144, 4153, 4171, 4172, 4177, 4189, 4190, 4192, 4202, 4203, 4205, 4212, 4213, 4222, 4223, 4224, 4225, 4233, 4234, 4235, 4236, 4245, 4246, 4247, 4248, 4249, 4255, 4256, 4261, 4262, 4263, 4265, 4268, 4269, 4270, 4271, 4282, 4283, 4284, 4286, 4288, 4289, 4290, 4291, 4292, 4293, 4294, 4295, 4301, 4303] [] [] [] 4311 (V []) q2y = some (q2AR, heapOf q2Arows 4311) := runB_spec (by kernel_rfl)
noncomputable def q2Asm : Nat → List AV → AH → Option (AEnd × AH) := callSum 33 q2A q2rows 4311 q2AR q2Arows 4311
theorem q2A_good (E0 : Env) (w0 : World) (hc : Within (-9223372036854775808) 0 E0.ρ) : Good Tryz.prog E0 (heapOf q2rows 4311) w0 33 q2AR (heapOf q2Arows 4311) (fun ρ => ρ = E0.ρ) q2y := by
  refine Good.fin hmix (sm0_sound _) ?_ (by decide) (Nat.le_refl _) (g := V []) (by rintro _ rfl; rfl) q2Afin
  rintro _ rfl
  obtain ⟨h1, h2⟩ := hc
  exact ⟨(by rw [icmp_lss]; exact cmp_t (by simp only [den_var, den_lit] <;> omega)), trivial⟩
theorem q2A_sound (hyp : Hyp) (h : ∀ ρ, HypOk hyp ρ → Within (-9223372036854775808) 0 ρ) : CSound Tryz.prog hyp q2Asm := call_sound q2hen (by kernel_rfl) (by kernel_rfl) (fun E0 w0 hh => q2A_good E0 w0 (h _ hh))
noncomputable def p2AR : AEnd := (.ret (.agg [.nilslice, .nilslice, .nilslice, (I 1), (I 0)]))
noncomputable def p2Arows : List (Nat × AO) := p2rows ++ []
theorem p2Afin : runR Tryz.prog [(.geq, (.var 0), (.lit (.negSucc 9223372036854775807)), true), (.leq, (.var 0), (.lit (.ofNat 0)), true)] (orS q2Asm sm0) 1000000 [4111, 4122, 4123, 4124, 4125, 4141, 4142, 4143, 4144, 4145, 4153, 4154, 4171, 4172, 4173, 4174, 4175, 4176, 4177, 4189, 4190, 4191, 4192, 4202, 4203, 4204, 4205, 4212, 4213, 4222, 4223, 4224, 4225, 4233, 4234, 4235, 4236, 4245, 4246, 4247, 4248, 4249, 4255, 4256, 4261, 4262, 4263, 4265, 4268, 4269, 4270, 4271, 4282, 4283, 4284] [] [] [] 4285 (V []) p2s1 = some (p2AR, heapOf p2Arows 4285) := runB_spec (by kernel_rfl)
noncomputable def p2Asm : Nat → List AV → AH → Option (AEnd × AH) := callSum 7 p2A p2rows 4285 p2AR p2Arows 4285
theorem p2A_good (E0 : Env) (w0 : World) (hc : Within (-9223372036854775808) 0 E0.ρ) : Good Tryz.prog E0 (heapOf p2rows 4285) w0 7 p2AR (heapOf p2Arows 4285) (fun ρ => ρ = E0.ρ) p2y :=
  Good.steps (hyp := []) hmix (sm0_sound []) (fun _ _ => trivial) (by decide) (Nat.le_refl _) p2c0 (Good.fin hmix (orS_sound (q2A_sound _ (fun _ h => HC.within (l := []) h)) (sm0_sound _)) (by rintro _ rfl; exact hc.hyp) (by decide) (Nat.le_refl _) (g := V []) (by rintro _ rfl; rfl) p2Afin)
theorem p2A_sound (hyp : Hyp) (h : ∀ ρ, HypOk hyp ρ → Within (-9223372036854775808) 0 ρ) : CSound Tryz.prog hyp p2Asm := call_sound p2hen (by kernel_rfl) (by kernel_rfl) (fun E0 w0 hh => p2A_good E0 w0 (h _ hh))
noncomputable def q2BR : AEnd := (.ret (I 0))
noncomputable def q2Brows : List (Nat × AO) := q2rows ++ [(4286, (K (C [(I 0), (I 5), (I 0), (I 0), .nilslice, (I 3), (I 1), (.slice 4284 0 2 2 2 true), (.slice 4290 0 2 2 2 false), (.slice 4289 0 1 1 1 false), (.map 4291), (.ptr 4288 0), .nilslice, .nilslice, .nilslice, (X (.op2 .add .i64 (.lit (.ofNat 1)) (.op2 .mul .i64 (.lit (.ofNat 5)) (.mn (.mx (.var 0) (.lit (.ofNat 0))) (.lit (.ofNat 5000)))))), (I 0), .nilslice]) 18))]
theorem q2Bfin : runR Tryz.prog [] sm0 1000000 [4144, 4153, 4171, 4172, 4177, 4189, 4190, 4192, 4202, 4203, 4205, 4212, 4213, 4222, 4223, 4224, 4225, 4233, 4234, 4235, 4236, 4245, 4246, 4247, 4248, 4249, 4255, 4256, 4261, 4262, 4263, 4265, 4268, 4269, 4270, 4271, 4282, 4283, 4284, 4286, 4288, 4289, 4290, 4291, 4292, 4293, 4294, 4295, 4301, 4303] [] [] [] 4311 (V []) (q2S.sub (V [(.var 0), (.op2 .add .i64 (.lit (.ofNat 1)) (.op2 .mul .i64 (.lit (.ofNat 5)) (.mn (.mx (.var 0) (.lit (.ofNat 0))) (.lit (.ofNat 5000))))), (.lit (.ofNat 0))])) = some (q2BR, heapOf q2Brows 4311) := runB_spec (by kernel_rfl)
noncomputable def q2Bsm : Nat → List AV → AH → Option (AEnd × AH) := callSum 33 q2A q2rows 4311 q2BR q2Brows 4311
theorem q2B_good (E0 : Env) (w0 : World) (hc : Within (1) 399 E0.ρ) : Good Tryz.prog E0 (heapOf q2rows 4311) w0 33 q2BR (heapOf q2Brows 4311) (fun ρ => ρ = E0.ρ) q2y := by
  have hb : 1 ≤ E0.ρ 0 ∧ E0.ρ 0 ≤ 9223372036854775807 := by obtain ⟨h1, h2⟩ := hc; omega
  refine q2start E0 hb (Good.loop (fun ρ => (ρ 2).toNat) fun m ih => Good.split q2cond (q2turn E0 hb ih) ?_)
  refine Good.unsub (V [(.var 0), (.op2 .add .i64 (.lit (.ofNat 1)) (.op2 .mul .i64 (.lit (.ofNat 5)) (.mn (.mx (.var 0) (.lit (.ofNat 0))) (.lit (.ofNat 5000))))), (.lit (.ofNat 0))]) ?_ (Good.fin hmix (sm0_sound _) ?_ (by decide) (Nat.le_refl _) (g := V []) (by rintro _ rfl; rfl) q2Bfin)
  · rintro ρ ⟨⟨⟨h0, h3, h4, h5, h6, h7⟩, hm⟩, hn⟩
    obtain ⟨h1, h2⟩ := hc
    have hn : ¬ (1 ≤ ρ 2 ∧ ρ 1 + 5 ≤ 2000) := hn
    funext k
    match k with
    | 0 => exact h0
    | 1 =>
      show ρ 1 = SX.den E0.ρ (.op2 .add .i64 (.lit (.ofNat 1)) (.op2 .mul .i64 (.lit (.ofNat 5)) (.mn (.mx (.var 0) (.lit (.ofNat 0))) (.lit (.ofNat 5000)))))
      simp only [den_add, den_lit, den_mul, den_T]
      omega
    | 2 =>
      show ρ 2 = SX.den E0.ρ (.lit (.ofNat 0))
      simp only [den_lit]
      omega
    | k + 3 => exact h3 (k + 3) (by omega)
  · rintro _ rfl
    obtain ⟨h1, h2⟩ := hc
    exact trivial
theorem q2B_sound (hyp : Hyp) (h : ∀ ρ, HypOk hyp ρ → Within (1) 399 ρ) : CSound Tryz.prog hyp q2Bsm := call_sound q2hen (by kernel_rfl) (by kernel_rfl) (fun E0 w0 hh => q2B_good E0 w0 (h _ hh))
noncomputable def p2BR : AEnd := (.ret (.agg [.nilslice, .nilslice, .nilslice, (X (.op2 .add .i64 (.lit (.ofNat 1)) (.op2 .mul .i64 (.lit (.ofNat 5)) (.mn (.mx (.var 0) (.lit (.ofNat 0))) (.lit (.ofNat 5000)))))), (I 0)]))
noncomputable def p2Brows : List (Nat × AO) := p2rows ++ []
theorem p2Bfin : runR Tryz.prog [(.geq, (.var 0), (.lit (.ofNat 1)), true), (.leq, (.var 0), (.lit (.ofNat 399)), true)] (orS q2Bsm sm0) 1000000 [4111, 4122, 4123, 4124, 4125, 4141, 4142, 4143, 4144, 4145, 4153, 4154, 4171, 4172, 4173, 4174, 4175, 4176, 4177, 4189, 4190, 4191, 4192, 4202, 4203, 4204, 4205, 4212, 4213, 4222, 4223, 4224, 4225, 4233, 4234, 4235, 4236, 4245, 4246, 4247, 4248, 4249, 4255, 4256, 4261, 4262, 4263, 4265, 4268, 4269, 4270, 4271, 4282, 4283, 4284] [] [] [] 4285 (V []) p2s1 = some (p2BR, heapOf p2Brows 4285) := runB_spec (by kernel_rfl)
noncomputable def p2Bsm : Nat → List AV → AH → Option (AEnd × AH) := callSum 7 p2A p2rows 4285 p2BR p2Brows 4285
theorem p2B_good (E0 : Env) (w0 : World) (hc : Within (1) 399 E0.ρ) : Good Tryz.prog E0 (heapOf p2rows 4285) w0 7 p2BR (heapOf p2Brows 4285) (fun ρ => ρ = E0.ρ) p2y :=
  Good.steps (hyp := []) hmix (sm0_sound []) (fun _ _ => trivial) (by decide) (Nat.le_refl _) p2c0 (Good.fin hmix (orS_sound (q2B_sound _ (fun _ h => HC.within (l := []) h)) (sm0_sound _)) (by rintro _ rfl; exact hc.hyp) (by decide) (Nat.le_refl _) (g := V []) (by rintro _ rfl; rfl) p2Bfin)
theorem p2B_sound (hyp : Hyp) (h : ∀ ρ, HypOk hyp ρ → Within (1) 399 ρ) : CSound Tryz.prog hyp p2Bsm := call_sound p2hen (by kernel_rfl) (by kernel_rfl) (fun E0 w0 hh => p2B_good E0 w0 (h _ hh))
noncomputable def q2CR : AEnd := (.pan [((.iface 32 (I 120)), false)])
noncomputable def q2Crows : List (Nat × AO) := q2rows ++ [(4286, (K (C [(I 0), (I 5), (I 0), (I 0), .nilslice, (I 3), (I 1), (.slice 4284 0 2 2 2 true), (.slice 4290 0 2 2 2 false), (.slice 4289 0 1 1 1 false), (.map 4291), (.ptr 4288 0), .nilslice, .nilslice, .nilslice, (I 2001), (I 0), .nilslice]) 18))]
theorem q2Cfin : runR Tryz.prog [(.geq, (.op2 .sub .i64 (.op2 .sub .i64 (.var 0) (.lit (.ofNat 399))) (.lit (.ofNat 1))), (.lit (.ofNat 0)), true)] sm0 1000000 [4144, 4153, 4171, 4172, 4177, 4189, 4190, 4192, 4202, 4203, 4205, 4212, 4213, 4222, 4223, 4224, 4225, 4233, 4234, 4235, 4236, 4245, 4246, 4247, 4248, 4249, 4255, 4256, 4261, 4262, 4263, 4265, 4268, 4269, 4270, 4271, 4282, 4283, 4284, 4286, 4288, 4289, 4290, 4291, 4292, 4293, 4294, 4295, 4301, 4303] [] [] [] 4311 (V []) (q2S.sub (V [(.var 0), (.lit (.ofNat 1996)), (.op2 .sub .i64 (.var 0) (.lit (.ofNat 399)))])) = some (q2CR, heapOf q2Crows 4311) := runB_spec (by kernel_rfl)
noncomputable def q2Csm : Nat → List AV → AH → Option (AEnd × AH) := callSum 33 q2A q2rows 4311 q2CR q2Crows 4311
theorem q2C_good (E0 : Env) (w0 : World) (hc : Within (400) 9223372036854775807 E0.ρ) : Good Tryz.prog E0 (heapOf q2rows 4311) w0 33 q2CR (heapOf q2Crows 4311) (fun ρ => ρ = E0.ρ) q2y := by
  have hb : 1 ≤ E0.ρ 0 ∧ E0.ρ 0 ≤ 9223372036854775807 := by obtain ⟨h1, h2⟩ := hc; omega
  refine q2start E0 hb (Good.loop (fun ρ => (ρ 2).toNat) fun m ih => Good.split q2cond (q2turn E0 hb ih) ?_)
  refine Good.unsub (V [(.var 0), (.lit (.ofNat 1996)), (.op2 .sub .i64 (.var 0) (.lit (.ofNat 399)))]) ?_ (Good.fin hmix (sm0_sound _) ?_ (by decide) (Nat.le_refl _) (g := V []) (by rintro _ rfl; rfl) q2Cfin)
  · rintro ρ ⟨⟨⟨h0, h3, h4, h5, h6, h7⟩, hm⟩, hn⟩
    obtain ⟨h1, h2⟩ := hc
    have hn : ¬ (1 ≤ ρ 2 ∧ ρ 1 + 5 ≤ 2000) := hn
    funext k
    match k with
    | 0 => exact h0
    | 1 =>
      show ρ 1 = SX.den E0.ρ (.lit (.ofNat 1996))
      simp only [den_lit]
      omega
    | 2 =>
      show ρ 2 = SX.den E0.ρ (.op2 .sub .i64 (.var 0) (.lit (.ofNat 399)))
      simp only [den_sub, den_var, den_lit]
      omega
    | k + 3 => exact h3 (k + 3) (by omega)
  · rintro _ rfl
    obtain ⟨h1, h2⟩ := hc
    exact ⟨(by rw [icmp_geq]; exact cmp_t (by simp only [den_sub, den_var, den_lit] <;> omega)), trivial⟩
theorem q2C_sound (hyp : Hyp) (h : ∀ ρ, HypOk hyp ρ → Within (400) 9223372036854775807 ρ) : CSound Tryz.prog hyp q2Csm := call_sound q2hen (by kernel_rfl) (by kernel_rfl) (fun E0 w0 hh => q2C_good E0 w0 (h _ hh))
noncomputable def p2CR : AEnd := (.ret (.agg [.nilslice, .nilslice, .nilslice, (I 2001), (I 120)]))
noncomputable def p2Crows : List (Nat × AO) := p2rows ++ []
theorem p2Cfin : runR Tryz.prog [(.geq, (.var 0), (.lit (.ofNat 400)), true), (.leq, (.var 0), (.lit (.ofNat 9223372036854775807)), true)] (orS q2Csm sm0) 1000000 [4111, 4122, 4123, 4124, 4125, 4141, 4142, 4143, 4144, 4145, 4153, 4154, 4171, 4172, 4173, 4174, 4175, 4176, 4177, 4189, 4190, 4191, 4192, 4202, 4203, 4204, 4205, 4212, 4213, 4222, 4223, 4224, 4225, 4233, 4234, 4235, 4236, 4245, 4246, 4247, 4248, 4249, 4255, 4256, 4261, 4262, 4263, 4265, 4268, 4269, 4270, 4271, 4282, 4283, 4284] [] [] [] 4285 (V []) p2s1 = some (p2CR, heapOf p2Crows 4285) := runB_spec (by kernel_rfl)
noncomputable def p2Csm : Nat → List AV → AH → Option (AEnd × AH) := callSum 7 p2A p2rows 4285 p2CR p2Crows 4285
theorem p2C_good (E0 : Env) (w0 : World) (hc : Within (400) 9223372036854775807 E0.ρ) : Good Tryz.prog E0 (heapOf p2rows 4285) w0 7 p2CR (heapOf p2Crows 4285) (fun ρ => ρ = E0.ρ) p2y :=
  Good.steps (hyp := []) hmix (sm0_sound []) (fun _ _ => trivial) (by decide) (Nat.le_refl _) p2c0 (Good.fin hmix (orS_sound (q2C_sound _ (fun _ h => HC.within (l := []) h)) (sm0_sound _)) (by rintro _ rfl; exact hc.hyp) (by decide) (Nat.le_refl _) (g := V []) (by rintro _ rfl; rfl) p2Cfin)
theorem p2C_sound (hyp : Hyp) (h : ∀ ρ, HypOk hyp ρ → Within (400) 9223372036854775807 ρ) : CSound Tryz.prog hyp p2Csm := call_sound p2hen (by kernel_rfl) (by kernel_rfl) (fun E0 w0 hh => p2C_good E0 w0 (h _ hh))
end Go.Am.WC
