/- printed by WCgen.lean -/
import Derived.Test.YtbakjgolhekmgaaGreatDoorWNum
namespace Go.Am.WC
open Go.Proofs
set_option maxRecDepth 1000000
set_option maxHeartbeats 0
noncomputable def p1A : List AV := [(.ptr 4109 0), (I 0), (.agg [(I 5), (I 0), (I 0), .nilslice, (I 3), (I 1), (.slice 4284 0 2 2 2 true)])]
noncomputable def p1rows : List (Nat × AO) := [(4109, (K (C [(.ptr 4116 0), (.slice 4117 0 2 2 2 false), (.slice 4118 0 1 1 1 false), .nilslice]) 4)),
  (4116, (K (C [(I 1), (.str 0 0), (I 0), (.slice 4133 0 1 1 1 false), (I 0)]) 5)),
  (4117, (K (C [(.str 7565136 3), (.slice 4134 0 1 1 1 false), (.str 7103830 3), (.slice 4135 0 1 1 1 false)]) 4)),
  (4118, (K (C [(.ptr 4136 0)]) 1)),
  (4133, (K (C [(.ptr 4136 0)]) 1)),
  (4134, (K (C [(.str 120 1)]) 1)),
  (4135, (K (C [(.str 120 1)]) 1)),
  (4136, (K (C [(I 2), (.str 77 1), (I 1), (.slice 4151 0 5 5 1 false), (I 0)]) 5)),
  (4151, (K (C [(.ptr 4161 0), (.ptr 4162 0), (.ptr 4164 0), (.ptr 4163 0), (.ptr 4165 0)]) 5)),
  (4161, (K (C [(I 3), (.str 1752459639 4), (I 0), .nilslice, (I 19)]) 5)),
  (4162, (K (C [(I 3), (.str 32780218652715383 7), (I 0), .nilslice, (I 19)]) 5)),
  (4163, (K (C [(I 3), (.str 126879581958775 6), (I 0), .nilslice, (I 19)]) 5)),
  (4164, (K (C [(I 3), (.str 495605343602 5), (I 0), (.slice 4185 0 1 1 1 false), (I 9)]) 5)),
  (4165, (K (C [(I 5), (.str 0 0), (I 0), (.slice 4186 0 2 2 1 false), (I 19)]) 5)),
  (4185, (K (C [(.ptr 4197 0)]) 1)),
  (4186, (K (C [(.ptr 4198 0), (.ptr 4199 0)]) 2)),
  (4197, (K (C [(I 31), (.str 7565136 3), (I 1), .nilslice, (I 15)]) 5)),
  (4198, (K (C [(I 10), (.str 105 1), (I 0), (.slice 4209 0 1 1 1 false), (I 21)]) 5)),
  (4199, (K (C [(I 14), (.str 0 0), (I 0), (.slice 4210 0 2 2 1 false), (I 32)]) 5)),
  (4209, (K (C [(.ptr 4217 0)]) 1)),
  (4210, (K (C [(.ptr 4218 0), (.ptr 4219 0)]) 2)),
  (4217, (K (C [(I 30), (.str 0 0), (I 0), .nilslice, (I 29)]) 5)),
  (4218, (K (C [(I 33), (.str 60 1), (I 0), (.slice 4229 0 2 2 1 false), (I 40)]) 5)),
  (4219, (K (C [(I 5), (.str 0 0), (I 0), (.slice 4230 0 1 1 1 false), (I 48)]) 5)),
  (4229, (K (C [(.ptr 4240 0), (.ptr 4241 0)]) 2)),
  (4230, (K (C [(.ptr 4242 0)]) 1)),
  (4240, (K (C [(I 31), (.str 105 1), (I 0), .nilslice, (I 38)]) 5)),
  (4241, (K (C [(I 32), (.str 7565136 3), (I 1), (.slice 4252 0 1 1 1 false), (I 42)]) 5)),
  (4242, (K (C [(I 11), (.str 105 1), (I 0), (.slice 4253 0 1 1 1 false), (I 50)]) 5)),
  (4252, (K (C [(.ptr 4257 0)]) 1)),
  (4253, (K (C [(.ptr 4258 0)]) 1)),
  (4257, (K (C [(I 31), (.str 120 1), (I 0), .nilslice, (I 46)]) 5)),
  (4258, (K (C [(I 33), (.str 43 1), (I 0), (.slice 4264 0 2 2 1 false), (I 56)]) 5)),
  (4264, (K (C [(.ptr 4266 0), (.ptr 4267 0)]) 2)),
  (4266, (K (C [(I 31), (.str 105 1), (I 0), .nilslice, (I 54)]) 5)),
  (4267, (K (C [(I 30), (.str 0 0), (I 1), .nilslice, (I 58)]) 5)),
  (4282, (K (C [(X (.var 0))]) 1)),
  (4283, (K (C [(I 0)]) 1)),
  (4284, (K (C [(I 1), (.slice 4282 0 1 1 1 true), (I 2), (.slice 4283 0 1 1 1 true)]) 4))]
noncomputable def p1fr : AF := ⟨7, 114, argsIn p1A 0 .leaf, [.code (F 7)], [], .run, false⟩
theorem p1hen : AF.enter Tryz.prog 7 p1A false = some p1fr := by kernel_rfl
noncomputable def p1y : St := ⟨p1fr, [], heapOf p1rows 4285⟩
noncomputable def p1s1T : List (List AIt) := [[.code (A (B (B (F 16)))), .code (B (B (B (F 16))))],
  [R (A (B (B (B (B (B (B (B (B (F 7)))))))))) 114 5, .code (B (B (B (B (B (B (B (B (B (F 7))))))))))]]
noncomputable def p1s1 : St := ⟨⟨16, 58, (S [(1, (.ptr 4136 0)), (2, (.ptr 4285 0))]), nthT p1s1T 0, [(32, [(.ptr 4285 0)])], .run, false⟩,
  [⟨7, 114, (S [(6, (.ptr 4287 0)), (8, (.ptr 4286 0)), (104, (.ptr 4286 0)), (108, (.ptr 4136 0))]), nthT p1s1T 1, [], .run, false⟩],
  (H 4295 [(4109, (K (C [(.ptr 4116 0), (.slice 4117 0 2 2 2 false), (.slice 4118 0 1 1 1 false), .nilslice]) 4)),
  (4116, (K (C [(I 1), (.str 0 0), (I 0), (.slice 4133 0 1 1 1 false), (I 0)]) 5)),
  (4117, (K (C [(.str 7565136 3), (.slice 4134 0 1 1 1 false), (.str 7103830 3), (.slice 4135 0 1 1 1 false)]) 4)),
  (4118, (K (C [(.ptr 4136 0)]) 1)),
  (4133, (K (C [(.ptr 4136 0)]) 1)),
  (4134, (K (C [(.str 120 1)]) 1)),
  (4135, (K (C [(.str 120 1)]) 1)),
  (4136, (K (C [(I 2), (.str 77 1), (I 1), (.slice 4151 0 5 5 1 false), (I 0)]) 5)),
  (4151, (K (C [(.ptr 4161 0), (.ptr 4162 0), (.ptr 4164 0), (.ptr 4163 0), (.ptr 4165 0)]) 5)),
  (4161, (K (C [(I 3), (.str 1752459639 4), (I 0), .nilslice, (I 19)]) 5)),
  (4162, (K (C [(I 3), (.str 32780218652715383 7), (I 0), .nilslice, (I 19)]) 5)),
  (4163, (K (C [(I 3), (.str 126879581958775 6), (I 0), .nilslice, (I 19)]) 5)),
  (4164, (K (C [(I 3), (.str 495605343602 5), (I 0), (.slice 4185 0 1 1 1 false), (I 9)]) 5)),
  (4165, (K (C [(I 5), (.str 0 0), (I 0), (.slice 4186 0 2 2 1 false), (I 19)]) 5)),
  (4185, (K (C [(.ptr 4197 0)]) 1)),
  (4186, (K (C [(.ptr 4198 0), (.ptr 4199 0)]) 2)),
  (4197, (K (C [(I 31), (.str 7565136 3), (I 1), .nilslice, (I 15)]) 5)),
  (4198, (K (C [(I 10), (.str 105 1), (I 0), (.slice 4209 0 1 1 1 false), (I 21)]) 5)),
  (4199, (K (C [(I 14), (.str 0 0), (I 0), (.slice 4210 0 2 2 1 false), (I 32)]) 5)),
  (4209, (K (C [(.ptr 4217 0)]) 1)),
  (4210, (K (C [(.ptr 4218 0), (.ptr 4219 0)]) 2)),
  (4217, (K (C [(I 30), (.str 0 0), (I 0), .nilslice, (I 29)]) 5)),
  (4218, (K (C [(I 33), (.str 60 1), (I 0), (.slice 4229 0 2 2 1 false), (I 40)]) 5)),
  (4219, (K (C [(I 5), (.str 0 0), (I 0), (.slice 4230 0 1 1 1 false), (I 48)]) 5)),
  (4229, (K (C [(.ptr 4240 0), (.ptr 4241 0)]) 2)),
  (4230, (K (C [(.ptr 4242 0)]) 1)),
  (4240, (K (C [(I 31), (.str 105 1), (I 0), .nilslice, (I 38)]) 5)),
  (4241, (K (C [(I 32), (.str 7565136 3), (I 1), (.slice 4252 0 1 1 1 false), (I 42)]) 5)),
  (4242, (K (C [(I 11), (.str 105 1), (I 0), (.slice 4253 0 1 1 1 false), (I 50)]) 5)),
  (4252, (K (C [(.ptr 4257 0)]) 1)),
  (4253, (K (C [(.ptr 4258 0)]) 1)),
  (4257, (K (C [(I 31), (.str 120 1), (I 0), .nilslice, (I 46)]) 5)),
  (4258, (K (C [(I 33), (.str 43 1), (I 0), (.slice 4264 0 2 2 1 false), (I 56)]) 5)),
  (4264, (K (C [(.ptr 4266 0), (.ptr 4267 0)]) 2)),
  (4266, (K (C [(I 31), (.str 105 1), (I 0), .nilslice, (I 54)]) 5)),
  (4267, (K (C [(I 30), (.str 0 0), (I 1), .nilslice, (I 58)]) 5)),
  (4282, (K (C [(X (.var 0))]) 1)),
  (4283, (K (C [(I 0)]) 1)),
  (4284, (K (C [(I 1), (.slice 4282 0 1 1 1 true), (I 2), (.slice 4283 0 1 1 1 true)]) 4)),
  (4285, (K (C [(.ptr 4286 0)]) 1)),
  (4286, (K (C [(I 0), (I 5), (I 0), (I 0), .nilslice, (I 3), (I 1), (.slice 4284 0 2 2 2 true), (.slice 4289 0 2 2 2 false), .nilslice, (.map 4290), (.ptr 4288 0), .nilslice, .nilslice, .nilslice, (I 0), (I 0), .nilslice]) 18)),
  (4287, (K (C [.nilslice, .nilslice, .nilslice, (I 0), (I 0)]) 5)),
  (4288, (K (C [(.int .u64 (.c (.ofNat 8626466141916243606)))]) 1)),
  (4289, (K (C [(.str 7565136 3), (.slice 4291 0 1 1 1 false), (.str 7103830 3), (.slice 4292 0 1 1 1 false)]) 4)),
  (4290, (.map [((I 1), (.slice 4293 0 1 1 1 false), 0), ((I 2), (.slice 4294 0 1 1 1 false), 1)] 2)),
  (4291, (K (C [(.str 120 1)]) 1)),
  (4292, (K (C [(.str 120 1)]) 1)),
  (4293, (K (C [(X (.var 0))]) 1)),
  (4294, (K (C [(I 0)]) 1))])⟩
theorem p1c0 : stepsR Tryz.prog [] sm0 1000000 257 [1, 2] [[6, 8, 104, 108]] [4109, 4116, 4117, 4118, 4133, 4134, 4135, 4136, 4151, 4161, 4162, 4163, 4164, 4165, 4185, 4186, 4197, 4198, 4199, 4209, 4210, 4217, 4218, 4219, 4229, 4230, 4240, 4241, 4242, 4252, 4253, 4257, 4258, 4264, 4266, 4267, 4282, 4283, 4284] [4380, 4343, 4286, 4351, 4346, 4336, 4348, 4350, 4364, 4377] [] [] 4285 p1y = some p1s1 := stepsT_spec (T := p1s1T) (by kernel_rfl) (by kernel_rfl)
noncomputable def q1A : List AV := [(.ptr 4286 0), (.ptr 4302 0), (.ptr 4165 0)]
noncomputable def q1rows : List (Nat × AO) := [(4165, (K (C [(I 5), (.str 0 0), (I 0), (.slice 4186 0 2 2 1 false), (I 19)]) 5)),
  (4186, (K (C [(.ptr 4198 0), (.ptr 4199 0)]) 2)),
  (4198, (K (C [(I 10), (.str 105 1), (I 0), (.slice 4209 0 1 1 1 false), (I 21)]) 5)),
  (4199, (K (C [(I 14), (.str 0 0), (I 0), (.slice 4210 0 2 2 1 false), (I 32)]) 5)),
  (4209, (K (C [(.ptr 4217 0)]) 1)),
  (4210, (K (C [(.ptr 4218 0), (.ptr 4219 0)]) 2)),
  (4217, (K (C [(I 30), (.str 0 0), (I 0), .nilslice, (I 29)]) 5)),
  (4218, (K (C [(I 33), (.str 60 1), (I 0), (.slice 4229 0 2 2 1 false), (I 40)]) 5)),
  (4219, (K (C [(I 5), (.str 0 0), (I 0), (.slice 4230 0 1 1 1 false), (I 48)]) 5)),
  (4229, (K (C [(.ptr 4240 0), (.ptr 4241 0)]) 2)),
  (4230, (K (C [(.ptr 4242 0)]) 1)),
  (4240, (K (C [(I 31), (.str 105 1), (I 0), .nilslice, (I 38)]) 5)),
  (4241, (K (C [(I 32), (.str 7565136 3), (I 1), (.slice 4252 0 1 1 1 false), (I 42)]) 5)),
  (4242, (K (C [(I 11), (.str 105 1), (I 0), (.slice 4253 0 1 1 1 false), (I 50)]) 5)),
  (4252, (K (C [(.ptr 4257 0)]) 1)),
  (4253, (K (C [(.ptr 4258 0)]) 1)),
  (4257, (K (C [(I 31), (.str 120 1), (I 0), .nilslice, (I 46)]) 5)),
  (4258, (K (C [(I 33), (.str 43 1), (I 0), (.slice 4264 0 2 2 1 false), (I 56)]) 5)),
  (4264, (K (C [(.ptr 4266 0), (.ptr 4267 0)]) 2)),
  (4266, (K (C [(I 31), (.str 105 1), (I 0), .nilslice, (I 54)]) 5)),
  (4267, (K (C [(I 30), (.str 0 0), (I 1), .nilslice, (I 58)]) 5)),
  (4282, (K (C [(X (.var 0))]) 1)),
  (4283, (K (C [(I 0)]) 1)),
  (4284, (K (C [(I 1), (.slice 4282 0 1 1 1 true), (I 2), (.slice 4283 0 1 1 1 true)]) 4)),
  (4286, (K (C [(I 0), (I 5), (I 0), (I 0), .nilslice, (I 3), (I 1), (.slice 4284 0 2 2 2 true), (.slice 4289 0 2 2 2 false), .nilslice, (.map 4290), (.ptr 4288 0), .nilslice, .nilslice, .nilslice, (I 0), (I 0), .nilslice]) 18)),
  (4288, (K (C [(.int .u64 (.c (.ofNat 8626466141916243606)))]) 1)),
  (4289, (K (C [(.str 7565136 3), (.slice 4291 0 1 1 1 false), (.str 7103830 3), (.slice 4292 0 1 1 1 false)]) 4)),
  (4290, (.map [((I 1), (.slice 4293 0 1 1 1 false), 0), ((I 2), (.slice 4294 0 1 1 1 false), 1)] 2)),
  (4291, (K (C [(.str 120 1)]) 1)),
  (4292, (K (C [(.str 120 1)]) 1)),
  (4293, (K (C [(X (.var 0))]) 1)),
  (4294, (K (C [(I 0)]) 1)),
  (4300, (K (C [(I 0)]) 1)),
  (4302, (K (C [(.slice 4300 0 1 1 1 true), (I 0)]) 2))]
noncomputable def q1fr : AF := ⟨33, 27, argsIn q1A 0 .leaf, [.code (F 33)], [], .run, false⟩
theorem q1hen : AF.enter Tryz.prog 33 q1A false = some q1fr := by kernel_rfl
noncomputable def q1y : St := ⟨q1fr, [], heapOf q1rows 4310⟩
noncomputable def q1ST : List (List AIt) := [[.inLoop (A (A (A (B (B (B (F 79))))))), .inBlock 0, .code (B (B (B (B (F 79)))))],
  [R (A (A (B (B (B (B (B (B (B (A (B (A (B (B (F 52))))))))))))))) 96 3, .code (B (A (B (B (B (B (B (A (B (A (B (B (F 52))))))))))))), .inBlock 0, .code (B (B (B (F 52))))],
  [R (A (B (A (A (B (B (A (A (B (A (B (F 33)))))))))))) 27 3, .code (B (B (A (A (B (B (A (A (B (A (B (F 33)))))))))))), .inBlock 1, .code (B (B (B (A (A (B (A (B (F 33))))))))), .inLoop (A (A (B (A (B (F 33)))))), .inBlock 0, .code (B (B (F 33)))]]
noncomputable def q1S : St := ⟨⟨79, 44, (S [(3, (.ptr 4310 0)), (4, (.ptr 4311 0)), (5, (.ptr 4312 0)), (6, (I 0)), (7, (.func (.func 114) [] [(.ptr 4310 0), (.ptr 4311 0), (.ptr 4312 0)]))]), nthT q1ST 0, [], .run, false⟩,
  [⟨52, 96, (S [(6, (I 0)), (76, (.ptr 4286 0)), (77, (.ptr 4302 0)), (78, (.ptr 4199 0))]), nthT q1ST 1, [], .run, false⟩,
  ⟨33, 27, (S [(0, (.ptr 4286 0)), (1, (.ptr 4302 0)), (6, (I 0)), (13, (.slice 4186 0 2 2 1 false)), (14, (I 2)), (15, (I 1)), (19, (.ptr 4286 0)), (20, (.ptr 4302 0)), (21, (.ptr 4199 0))]), nthT q1ST 2, [], .run, false⟩],
  (H 4313 [(4165, (K (C [(I 5), (.str 0 0), (I 0), (.slice 4186 0 2 2 1 false), (I 19)]) 5)),
  (4186, (K (C [(.ptr 4198 0), (.ptr 4199 0)]) 2)),
  (4198, (K (C [(I 10), (.str 105 1), (I 0), (.slice 4209 0 1 1 1 false), (I 21)]) 5)),
  (4199, (K (C [(I 14), (.str 0 0), (I 0), (.slice 4210 0 2 2 1 false), (I 32)]) 5)),
  (4209, (K (C [(.ptr 4217 0)]) 1)),
  (4210, (K (C [(.ptr 4218 0), (.ptr 4219 0)]) 2)),
  (4217, (K (C [(I 30), (.str 0 0), (I 0), .nilslice, (I 29)]) 5)),
  (4218, (K (C [(I 33), (.str 60 1), (I 0), (.slice 4229 0 2 2 1 false), (I 40)]) 5)),
  (4219, (K (C [(I 5), (.str 0 0), (I 0), (.slice 4230 0 1 1 1 false), (I 48)]) 5)),
  (4229, (K (C [(.ptr 4240 0), (.ptr 4241 0)]) 2)),
  (4230, (K (C [(.ptr 4242 0)]) 1)),
  (4240, (K (C [(I 31), (.str 105 1), (I 0), .nilslice, (I 38)]) 5)),
  (4241, (K (C [(I 32), (.str 7565136 3), (I 1), (.slice 4252 0 1 1 1 false), (I 42)]) 5)),
  (4242, (K (C [(I 11), (.str 105 1), (I 0), (.slice 4253 0 1 1 1 false), (I 50)]) 5)),
  (4252, (K (C [(.ptr 4257 0)]) 1)),
  (4253, (K (C [(.ptr 4258 0)]) 1)),
  (4257, (K (C [(I 31), (.str 120 1), (I 0), .nilslice, (I 46)]) 5)),
  (4258, (K (C [(I 33), (.str 43 1), (I 0), (.slice 4264 0 2 2 1 false), (I 56)]) 5)),
  (4264, (K (C [(.ptr 4266 0), (.ptr 4267 0)]) 2)),
  (4266, (K (C [(I 31), (.str 105 1), (I 0), .nilslice, (I 54)]) 5)),
  (4267, (K (C [(I 30), (.str 0 0), (I 1), .nilslice, (I 58)]) 5)),
  (4282, (K (C [(X (.var 0))]) 1)),
  (4283, (K (C [(I 0)]) 1)),
  (4284, (K (C [(I 1), (.slice 4282 0 1 1 1 true), (I 2), (.slice 4283 0 1 1 1 true)]) 4)),
  (4286, (K (C [(I 0), (I 5), (I 0), (I 0), .nilslice, (I 3), (I 1), (.slice 4284 0 2 2 2 true), (.slice 4289 0 2 2 2 false), .nilslice, (.map 4290), (.ptr 4288 0), .nilslice, .nilslice, .nilslice, (X (.var 1)), (I 0), .nilslice]) 18)),
  (4288, (K (C [(.int .u64 (.c (.ofNat 8626466141916243606)))]) 1)),
  (4289, (K (C [(.str 7565136 3), (.slice 4291 0 1 1 1 false), (.str 7103830 3), (.slice 4292 0 1 1 1 false)]) 4)),
  (4290, (.map [((I 1), (.slice 4293 0 1 1 1 false), 0), ((I 2), (.slice 4294 0 1 1 1 false), 1)] 2)),
  (4291, (K (C [(.str 120 1)]) 1)),
  (4292, (K (C [(.str 120 1)]) 1)),
  (4293, (K (C [(X (.var 0))]) 1)),
  (4294, (K (C [(I 0)]) 1)),
  (4300, (K (C [(X (.var 2))]) 1)),
  (4302, (K (C [(.slice 4300 0 1 1 1 true), (I 0)]) 2)),
  (4310, (K (C [(.ptr 4286 0)]) 1)),
  (4311, (K (C [(.ptr 4302 0)]) 1)),
  (4312, (K (C [(.ptr 4199 0)]) 1))])⟩
theorem q1c0 : stepsR Tryz.prog [(.lss, (.lit (.ofNat 0)), (.var 0), true)] sm0 1000000 146 [3, 4, 5, 6, 7] [[6, 76, 77, 78], [0, 1, 6, 13, 14, 15, 19, 20, 21]] [4165, 4186, 4198, 4199, 4209, 4210, 4217, 4218, 4219, 4229, 4230, 4240, 4241, 4242, 4252, 4253, 4257, 4258, 4264, 4266, 4267, 4282, 4283, 4284, 4286, 4288, 4289, 4290, 4291, 4292, 4293, 4294, 4300, 4302] [4329, 4330, 4331] [] [] 4310 q1y = some (q1S.sub (V [(.var 0), (.lit (.ofNat 4)), (.lit (.ofNat 1))])) := stepsT_spec (T := q1ST) (by kernel_rfl) (by kernel_rfl)
theorem q1t : stepsR Tryz.prog [(.lss, (.var 2), (.var 0), true), (.gtr, (.op2 .add .i64 (.var 1) (.lit (.ofNat 1))), (.lit (.ofNat 2000)), false), (.gtr, (.op2 .add .i64 (.op2 .add .i64 (.var 1) (.lit (.ofNat 1))) (.lit (.ofNat 1))), (.lit (.ofNat 2000)), false)] sm0 1000000 32 [3, 4, 5, 6, 7] [[6, 76, 77, 78], [0, 1, 6, 13, 14, 15, 19, 20, 21]] [4165, 4186, 4198, 4199, 4209, 4210, 4217, 4218, 4219, 4229, 4230, 4240, 4241, 4242, 4252, 4253, 4257, 4258, 4264, 4266, 4267, 4282, 4283, 4284, 4286, 4288, 4289, 4290, 4291, 4292, 4293, 4294, 4300, 4302] [4310, 4311, 4312] [] [] 4310 q1S = some (q1S.sub (V [(.var 0), (.op2 .add .i64 (.op2 .add .i64 (.var 1) (.lit (.ofNat 1))) (.lit (.ofNat 1))), (.op2 .add .i64 (.var 2) (.lit (.ofNat 1)))])) := stepsT_spec (T := q1ST) (by kernel_rfl) (by kernel_rfl)
def q1inv (E0 : Env) (ρ : Nat → Int) : Prop := ρ 0 = E0.ρ 0 ∧ (∀ k, 3 ≤ k → ρ k = E0.ρ k) ∧ ρ 1 = 2 + 2 * ρ 2 ∧ 1 ≤ ρ 2 ∧ ρ 2 ≤ ρ 0 ∧ ρ 1 ≤ 2000
def q1cond (ρ : Nat → Int) : Prop := ρ 2 < ρ 0 ∧ ρ 1 + 2 ≤ 2000
theorem q1start (E0 : Env) (hc : 1 ≤ E0.ρ 0 ∧ E0.ρ 0 ≤ 9223372036854775807) {w0 : World} {r : AEnd} {h1 : AH} (g : Good Tryz.prog E0 (heapOf q1rows 4310) w0 33 r h1 (q1inv E0) q1S) : Good Tryz.prog E0 (heapOf q1rows 4310) w0 33 r h1 (fun ρ => ρ = E0.ρ) q1y := by
  refine Good.steps hmix (sm0_sound _) ?_ (by decide) (Nat.le_refl _) q1c0 (Good.sub _ ?_ g)
  · rintro _ rfl
    obtain ⟨h1, h2⟩ := hc
    exact ⟨(by rw [icmp_lss]; exact cmp_t (by simp only [den_lit, den_var] <;> omega)), trivial⟩
  · rintro _ rfl
    obtain ⟨h1, h2⟩ := hc
    refine ⟨rfl, fun k hk => ?_, ?_⟩
    · match k, hk with
      | k + 3, _ => rfl
    · show SX.den E0.ρ (.lit (.ofNat 4)) = 2 + 2 * SX.den E0.ρ (.lit (.ofNat 1)) ∧ 1 ≤ SX.den E0.ρ (.lit (.ofNat 1)) ∧ SX.den E0.ρ (.lit (.ofNat 1)) ≤ SX.den E0.ρ (.var 0) ∧ SX.den E0.ρ (.lit (.ofNat 4)) ≤ 2000
      simp only [den_var, den_lit]
      omega
theorem q1turn (E0 : Env) (hc : 1 ≤ E0.ρ 0 ∧ E0.ρ 0 ≤ 9223372036854775807) {w0 : World} {r : AEnd} {h1 : AH} {m : Nat} (g : Good Tryz.prog E0 (heapOf q1rows 4310) w0 33 r h1 (fun ρ => q1inv E0 ρ ∧ (2000 - ρ 2).toNat < m) q1S) : Good Tryz.prog E0 (heapOf q1rows 4310) w0 33 r h1 (fun ρ => (q1inv E0 ρ ∧ (2000 - ρ 2).toNat = m) ∧ q1cond ρ) q1S := by
  refine Good.steps hmix (sm0_sound _) ?_ (by decide) (Nat.le_refl _) q1t (Good.sub _ ?_ g)
  · rintro ρ ⟨⟨⟨h0, h3, h4, h5, h6, h7⟩, hm⟩, c1, c2⟩
    obtain ⟨h1, h2⟩ := hc
    exact ⟨(by rw [icmp_lss]; exact cmp_t (by simp only [den_var] <;> omega)),
      (gtr_adds_f 1 (by omega) (by omega)),
      (gtr_adds_f 2 (by omega) (by omega)), trivial⟩
  · rintro ρ ⟨⟨⟨h0, h3, h4, h5, h6, h7⟩, hm⟩, c1, c2⟩
    obtain ⟨h1, h2⟩ := hc
    refine ⟨⟨h0, fun k hk => ?_, ?_⟩, ?_⟩
    · match k, hk with
      | k + 3, hk => exact h3 (k + 3) hk
    · show SX.den ρ (.op2 .add .i64 (.op2 .add .i64 (.var 1) (.lit (.ofNat 1))) (.lit (.ofNat 1))) = 2 + 2 * SX.den ρ (.op2 .add .i64 (.var 2) (.lit (.ofNat 1))) ∧ 1 ≤ SX.den ρ (.op2 .add .i64 (.var 2) (.lit (.ofNat 1))) ∧ SX.den ρ (.op2 .add .i64 (.var 2) (.lit (.ofNat 1))) ≤ SX.den ρ (.var 0) ∧ SX.den ρ (.op2 .add .i64 (.op2 .add .i64 (.var 1) (.lit (.ofNat 1))) (.lit (.ofNat 1))) ≤ 2000
      rw [show SX.den ρ (.op2 .add .i64 (.op2 .add .i64 (.var 1) (.lit (.ofNat 1))) (.lit (.ofNat 1))) = ρ 1 + 2 from den_adds (by omega) 2 (by omega)]
      simp only [den_var, den_add, den_lit]
      omega
    · show (2000 - SX.den ρ (.op2 .add .i64 (.var 2) (.lit (.ofNat 1)))).toNat < m
      simp only [den_add, den_var, den_lit]
      omega
noncomputable def q1AR : AEnd := (.ret (I 0))
noncomputable def q1Arows : List (Nat × AO) := q1rows ++ [(4286, (K (C [(I 0), (I 5), (I 0), (I 0), .nilslice, (I 3), (I 1), (.slice 4284 0 2 2 2 true), (.slice 4289 0 2 2 2 false), .nilslice, (.map 4290), (.ptr 4288 0), .nilslice, .nilslice, .nilslice, (I 2), (I 0), .nilslice]) 18))]
theorem q1Afin : runR Tryz.prog [(.lss, (.lit (.ofNat 0)), (.var 0), false)] sm0 1000000 [4165, 4186, 4198, 4199, 4209, 4210, 4217, 4218, 4219, 4229, 4230, 4240, 4241, 4242, 4252, 4253, 4257, 4258, 4264, 4266, 4267, 4282, 4283, 4284, 4286, 4288, 4289, 4290, 4291, 4292, 4293, 4294, 4300, 4302] [] [] [] 4310 (V []) q1y = some (q1AR, heapOf q1Arows 4310) := runB_spec (by kernel_rfl)
noncomputable def q1Asm : Nat → List AV → AH → Option (AEnd × AH) := callSum 33 q1A q1rows 4310 q1AR q1Arows 4310
theorem q1A_good (E0 : Env) (w0 : World) (hc : Within (-9223372036854775808) 0 E0.ρ) : Good Tryz.prog E0 (heapOf q1rows 4310) w0 33 q1AR (heapOf q1Arows 4310) (fun ρ => ρ = E0.ρ) q1y := by
  refine Good.fin hmix (sm0_sound _) ?_ (by decide) (Nat.le_refl _) (g := V []) (by rintro _ rfl; rfl) q1Afin
  rintro _ rfl
  obtain ⟨h1, h2⟩ := hc
  exact ⟨(by rw [icmp_lss]; exact cmp_f (by simp only [den_lit, den_var] <;> omega)), trivial⟩
theorem q1A_sound (hyp : Hyp) (h : ∀ ρ, HypOk hyp ρ → Within (-9223372036854775808) 0 ρ) : CSound Tryz.prog hyp q1Asm := call_sound q1hen (by kernel_rfl) (by kernel_rfl) (fun E0 w0 hh => q1A_good E0 w0 (h _ hh))
noncomputable def p1AR : AEnd := (.ret (.agg [.nilslice, .nilslice, .nilslice, (I 2), (I 0)]))
noncomputable def p1Arows : List (Nat × AO) := p1rows ++ []
theorem p1Afin : runR Tryz.prog [(.geq, (.var 0), (.lit (.negSucc 9223372036854775807)), true), (.leq, (.var 0), (.lit (.ofNat 0)), true)] (orS q1Asm sm0) 1000000 [4109, 4116, 4117, 4118, 4133, 4134, 4135, 4136, 4151, 4161, 4162, 4163, 4164, 4165, 4185, 4186, 4197, 4198, 4199, 4209, 4210, 4217, 4218, 4219, 4229, 4230, 4240, 4241, 4242, 4252, 4253, 4257, 4258, 4264, 4266, 4267, 4282, 4283, 4284] [] [] [] 4285 (V []) p1s1 = some (p1AR, heapOf p1Arows 4285) := runB_spec (by kernel_rfl)
noncomputable def p1Asm : Nat → List AV → AH → Option (AEnd × AH) := callSum 7 p1A p1rows 4285 p1AR p1Arows 4285
theorem p1A_good (E0 : Env) (w0 : World) (hc : Within (-9223372036854775808) 0 E0.ρ) : Good Tryz.prog E0 (heapOf p1rows 4285) w0 7 p1AR (heapOf p1Arows 4285) (fun ρ => ρ = E0.ρ) p1y :=
  Good.steps (hyp := []) hmix (sm0_sound []) (fun _ _ => trivial) (by decide) (Nat.le_refl _) p1c0 (Good.fin hmix (orS_sound (q1A_sound _ (fun _ h => HC.within (l := []) h)) (sm0_sound _)) (by rintro _ rfl; exact hc.hyp) (by decide) (Nat.le_refl _) (g := V []) (by rintro _ rfl; rfl) p1Afin)
theorem p1A_sound (hyp : Hyp) (h : ∀ ρ, HypOk hyp ρ → Within (-9223372036854775808) 0 ρ) : CSound Tryz.prog hyp p1Asm := call_sound p1hen (by kernel_rfl) (by kernel_rfl) (fun E0 w0 hh => p1A_good E0 w0 (h _ hh))
noncomputable def q1BR : AEnd := (.ret (I 0))
noncomputable def q1Brows : List (Nat × AO) := q1rows ++ [(4286, (K (C [(I 0), (I 5), (I 0), (I 0), .nilslice, (I 3), (I 1), (.slice 4284 0 2 2 2 true), (.slice 4289 0 2 2 2 false), .nilslice, (.map 4290), (.ptr 4288 0), .nilslice, .nilslice, .nilslice, (X (.op2 .add .i64 (.lit (.ofNat 2)) (.op2 .mul .i64 (.lit (.ofNat 2)) (.mn (.mx (.var 0) (.lit (.ofNat 0))) (.lit (.ofNat 5000)))))), (I 0), .nilslice]) 18)),
  (4300, (K (C [(X (.var 0))]) 1))]
theorem q1Bfin : runR Tryz.prog [(.lss, (.var 0), (.var 0), false)] sm0 1000000 [4165, 4186, 4198, 4199, 4209, 4210, 4217, 4218, 4219, 4229, 4230, 4240, 4241, 4242, 4252, 4253, 4257, 4258, 4264, 4266, 4267, 4282, 4283, 4284, 4286, 4288, 4289, 4290, 4291, 4292, 4293, 4294, 4300, 4302] [] [] [] 4310 (V []) (q1S.sub (V [(.var 0), (.op2 .add .i64 (.lit (.ofNat 2)) (.op2 .mul .i64 (.lit (.ofNat 2)) (.mn (.mx (.var 0) (.lit (.ofNat 0))) (.lit (.ofNat 5000))))), (.var 0)])) = some (q1BR, heapOf q1Brows 4310) := runB_spec (by kernel_rfl)
noncomputable def q1Bsm : Nat → List AV → AH → Option (AEnd × AH) := callSum 33 q1A q1rows 4310 q1BR q1Brows 4310
theorem q1B_good (E0 : Env) (w0 : World) (hc : Within (1) 999 E0.ρ) : Good Tryz.prog E0 (heapOf q1rows 4310) w0 33 q1BR (heapOf q1Brows 4310) (fun ρ => ρ = E0.ρ) q1y := by
  have hb : 1 ≤ E0.ρ 0 ∧ E0.ρ 0 ≤ 9223372036854775807 := by obtain ⟨h1, h2⟩ := hc; omega
  refine q1start E0 hb (Good.loop (fun ρ => (2000 - ρ 2).toNat) fun m ih => Good.split q1cond (q1turn E0 hb ih) ?_)
  refine Good.unsub (V [(.var 0), (.op2 .add .i64 (.lit (.ofNat 2)) (.op2 .mul .i64 (.lit (.ofNat 2)) (.mn (.mx (.var 0) (.lit (.ofNat 0))) (.lit (.ofNat 5000))))), (.var 0)]) ?_ (Good.fin hmix (sm0_sound _) ?_ (by decide) (Nat.le_refl _) (g := V []) (by rintro _ rfl; rfl) q1Bfin)
  · rintro ρ ⟨⟨⟨h0, h3, h4, h5, h6, h7⟩, hm⟩, hn⟩
    obtain ⟨h1, h2⟩ := hc
    have hn : ¬ (ρ 2 < ρ 0 ∧ ρ 1 + 2 ≤ 2000) := hn
    funext k
    match k with
    | 0 => exact h0
    | 1 =>
      show ρ 1 = SX.den E0.ρ (.op2 .add .i64 (.lit (.ofNat 2)) (.op2 .mul .i64 (.lit (.ofNat 2)) (.mn (.mx (.var 0) (.lit (.ofNat 0))) (.lit (.ofNat 5000)))))
      simp only [den_add, den_lit, den_mul, den_T]
      omega
    | 2 =>
      show ρ 2 = SX.den E0.ρ (.var 0)
      simp only [den_var]
      omega
    | k + 3 => exact h3 (k + 3) (by omega)
  · rintro _ rfl
    obtain ⟨h1, h2⟩ := hc
    exact ⟨(by rw [icmp_lss]; exact cmp_f (by simp only [den_var] <;> omega)), trivial⟩
theorem q1B_sound (hyp : Hyp) (h : ∀ ρ, HypOk hyp ρ → Within (1) 999 ρ) : CSound Tryz.prog hyp q1Bsm := call_sound q1hen (by kernel_rfl) (by kernel_rfl) (fun E0 w0 hh => q1B_good E0 w0 (h _ hh))
noncomputable def p1BR : AEnd := (.ret (.agg [.nilslice, .nilslice, .nilslice, (X (.op2 .add .i64 (.lit (.ofNat 2)) (.op2 .mul .i64 (.lit (.ofNat 2)) (.mn (.mx (.var 0) (.lit (.ofNat 0))) (.lit (.ofNat 5000)))))), (I 0)]))
noncomputable def p1Brows : List (Nat × AO) := p1rows ++ []
theorem p1Bfin : runR Tryz.prog [(.geq, (.var 0), (.lit (.ofNat 1)), true), (.leq, (.var 0), (.lit (.ofNat 999)), true)] (orS q1Bsm sm0) 1000000 [4109, 4116, 4117, 4118, 4133, 4134, 4135, 4136, 4151, 4161, 4162, 4163, 4164, 4165, 4185, 4186, 4197, 4198, 4199, 4209, 4210, 4217, 4218, 4219, 4229, 4230, 4240, 4241, 4242, 4252, 4253, 4257, 4258, 4264, 4266, 4267, 4282, 4283, 4284] [] [] [] 4285 (V []) p1s1 = some (p1BR, heapOf p1Brows 4285) := runB_spec (by kernel_rfl)
noncomputable def p1Bsm : Nat → List AV → AH → Option (AEnd × AH) := callSum 7 p1A p1rows 4285 p1BR p1Brows 4285
theorem p1B_good (E0 : Env) (w0 : World) (hc : Within (1) 999 E0.ρ) : Good Tryz.prog E0 (heapOf p1rows 4285) w0 7 p1BR (heapOf p1Brows 4285) (fun ρ => ρ = E0.ρ) p1y :=
  Good.steps (hyp := []) hmix (sm0_sound []) (fun _ _ => trivial) (by decide) (Nat.le_refl _) p1c0 (Good.fin hmix (orS_sound (q1B_sound _ (fun _ h => HC.within (l := []) h)) (sm0_sound _)) (by rintro _ rfl; exact hc.hyp) (by decide) (Nat.le_refl _) (g := V []) (by rintro _ rfl; rfl) p1Bfin)
theorem p1B_sound (hyp : Hyp) (h : ∀ ρ, HypOk hyp ρ → Within (1) 999 ρ) : CSound Tryz.prog hyp p1Bsm := call_sound p1hen (by kernel_rfl) (by kernel_rfl) (fun E0 w0 hh => p1B_good E0 w0 (h _ hh))
noncomputable def q1CR : AEnd := (.pan [((.iface 32 (I 120)), false)])
noncomputable def q1Crows : List (Nat × AO) := q1rows ++ [(4286, (K (C [(I 0), (I 5), (I 0), (I 0), .nilslice, (I 3), (I 1), (.slice 4284 0 2 2 2 true), (.slice 4289 0 2 2 2 false), .nilslice, (.map 4290), (.ptr 4288 0), .nilslice, .nilslice, .nilslice, (I 2001), (I 0), .nilslice]) 18)),
  (4300, (K (C [(I 999)]) 1))]
theorem q1Cfin : runR Tryz.prog [(.lss, (.lit (.ofNat 999)), (.var 0), true)] sm0 1000000 [4165, 4186, 4198, 4199, 4209, 4210, 4217, 4218, 4219, 4229, 4230, 4240, 4241, 4242, 4252, 4253, 4257, 4258, 4264, 4266, 4267, 4282, 4283, 4284, 4286, 4288, 4289, 4290, 4291, 4292, 4293, 4294, 4300, 4302] [] [] [] 4310 (V []) (q1S.sub (V [(.var 0), (.lit (.ofNat 2000)), (.lit (.ofNat 999))])) = some (q1CR, heapOf q1Crows 4310) := runB_spec (by kernel_rfl)
noncomputable def q1Csm : Nat → List AV → AH → Option (AEnd × AH) := callSum 33 q1A q1rows 4310 q1CR q1Crows 4310
theorem q1C_good (E0 : Env) (w0 : World) (hc : Within (1000) 9223372036854775807 E0.ρ) : Good Tryz.prog E0 (heapOf q1rows 4310) w0 33 q1CR (heapOf q1Crows 4310) (fun ρ => ρ = E0.ρ) q1y := by
  have hb : 1 ≤ E0.ρ 0 ∧ E0.ρ 0 ≤ 9223372036854775807 := by obtain ⟨h1, h2⟩ := hc; omega
  refine q1start E0 hb (Good.loop (fun ρ => (2000 - ρ 2).toNat) fun m ih => Good.split q1cond (q1turn E0 hb ih) ?_)
  refine Good.unsub (V [(.var 0), (.lit (.ofNat 2000)), (.lit (.ofNat 999))]) ?_ (Good.fin hmix (sm0_sound _) ?_ (by decide) (Nat.le_refl _) (g := V []) (by rintro _ rfl; rfl) q1Cfin)
  · rintro ρ ⟨⟨⟨h0, h3, h4, h5, h6, h7⟩, hm⟩, hn⟩
    obtain ⟨h1, h2⟩ := hc
    have hn : ¬ (ρ 2 < ρ 0 ∧ ρ 1 + 2 ≤ 2000) := hn
    funext k
    match k with
    | 0 => exact h0
    | 1 =>
      show ρ 1 = SX.den E0.ρ (.lit (.ofNat 2000))
      simp only [den_lit]
      omega
    | 2 =>
      show ρ 2 = SX.den E0.ρ (.lit (.ofNat 999))
      simp only [den_lit]
      omega
    | k + 3 => exact h3 (k + 3) (by omega)
  · rintro _ rfl
    obtain ⟨h1, h2⟩ := hc
    exact ⟨(by rw [icmp_lss]; exact cmp_t (by simp only [den_lit, den_var] <;> omega)), trivial⟩
theorem q1C_sound (hyp : Hyp) (h : ∀ ρ, HypOk hyp ρ → Within (1000) 9223372036854775807 ρ) : CSound Tryz.prog hyp q1Csm := call_sound q1hen (by kernel_rfl) (by kernel_rfl) (fun E0 w0 hh => q1C_good E0 w0 (h _ hh))
noncomputable def p1CR : AEnd := (.ret (.agg [.nilslice, .nilslice, .nilslice, (I 2001), (I 120)]))
noncomputable def p1Crows : List (Nat × AO) := p1rows ++ []
theorem p1Cfin : runR Tryz.prog [(.geq, (.var 0), (.lit (.ofNat 1000)), true), (.leq, (.var 0), (.lit (.ofNat 9223372036854775807)), true)] (orS q1Csm sm0) 1000000 [4109, 4116, 4117, 4118, 4133, 4134, 4135, 4136, 4151, 4161, 4162, 4163, 4164, 4165, 4185, 4186, 4197, 4198, 4199, 4209, 4210, 4217, 4218, 4219, 4229, 4230, 4240, 4241, 4242, 4252, 4253, 4257, 4258, 4264, 4266, 4267, 4282, 4283, 4284] [] [] [] 4285 (V []) p1s1 = some (p1CR, heapOf p1Crows 4285) := runB_spec (by kernel_rfl)
noncomputable def p1Csm : Nat → List AV → AH → Option (AEnd × AH) := callSum 7 p1A p1rows 4285 p1CR p1Crows 4285
theorem p1C_good (E0 : Env) (w0 : World) (hc : Within (1000) 9223372036854775807 E0.ρ) : Good Tryz.prog E0 (heapOf p1rows 4285) w0 7 p1CR (heapOf p1Crows 4285) (fun ρ => ρ = E0.ρ) p1y :=
  Good.steps (hyp := []) hmix (sm0_sound []) (fun _ _ => trivial) (by decide) (Nat.le_refl _) p1c0 (Good.fin hmix (orS_sound (q1C_sound _ (fun _ h => HC.within (l := []) h)) (sm0_sound _)) (by rintro _ rfl; exact hc.hyp) (by decide) (Nat.le_refl _) (g := V []) (by rintro _ rfl; rfl) p1Cfin)
theorem p1C_sound (hyp : Hyp) (h : ∀ ρ, HypOk hyp ρ → Within (1000) 9223372036854775807 ρ) : CSound Tryz.prog hyp p1Csm := call_sound p1hen (by kernel_rfl) (by kernel_rfl) (fun E0 w0 hh => p1C_good E0 w0 (h _ hh))
end Go.Am.WC
