/- printed by WCgen.lean -/
import Derived.Test.YtbakjgolhekmgaaGreatDoorWBase
namespace Go.Am.WC
open Go.Proofs
set_option maxRecDepth 1000000
set_option maxHeartbeats 0
noncomputable def zA : List AV := [(.ptr 4108 0), (.ptr 4152 0), (.ptr 4128 0)]
noncomputable def zrows : List (Nat × AO) := [(4108, (K (C [(I 0), (I 5), (I 0), (I 0), .nilslice, (I 3), (I 1), (.slice 4111 0 2 2 2 true), (.slice 4115 0 2 2 2 false), .nilslice, (.map 4116), (.ptr 4114 0), .nilslice, .nilslice, .nilslice, (I 0), (I 0), .nilslice]) 18)),
  (4111, (K (C [(I 1), (.slice 4119 0 1 1 1 true), (I 2), (.slice 4120 0 1 1 1 true)]) 4)),
  (4114, (K (C [(.int .u64 (.c (.ofNat 8626466141916243606)))]) 1)),
  (4115, (K (C [(.str 7565136 3), (.slice 4129 0 1 1 1 false), (.str 7103830 3), (.slice 4130 0 1 1 1 false)]) 4)),
  (4116, (.map [((I 1), (.slice 4131 0 1 1 1 false), 0), ((I 2), (.slice 4132 0 1 1 1 false), 1)] 2)),
  (4119, (K (C [(I 7)]) 1)),
  (4120, (K (C [(I 2)]) 1)),
  (4128, (K (C [(I 5), (.str 0 0), (I 0), (.slice 4137 0 1 1 1 false), (I 9)]) 5)),
  (4129, (K (C [(.str 120 1)]) 1)),
  (4130, (K (C [(.str 120 1)]) 1)),
  (4131, (K (C [(I 7)]) 1)),
  (4132, (K (C [(I 2)]) 1)),
  (4137, (K (C [(.ptr 4138 0)]) 1)),
  (4138, (K (C [(I 14), (.str 0 0), (I 0), (.slice 4139 0 2 2 1 false), (I 11)]) 5)),
  (4139, (K (C [(.ptr 4140 0), (.ptr 4141 0)]) 2)),
  (4140, (K (C [(I 33), (.str 15677 2), (I 0), (.slice 4142 0 2 2 1 false), (I 19)]) 5)),
  (4141, (K (C [(I 5), (.str 0 0), (I 0), .nilslice, (I 24)]) 5)),
  (4142, (K (C [(.ptr 4143 0), (.ptr 4144 0)]) 2)),
  (4143, (K (C [(I 30), (.str 0 0), (I 1), .nilslice, (I 17)]) 5)),
  (4144, (K (C [(I 30), (.str 0 0), (I 1), .nilslice, (I 22)]) 5)),
  (4150, (K (C []) 0)),
  (4152, (K (C [(.slice 4150 0 0 0 1 true), (I 0)]) 2))]
noncomputable def zfr : AF := ⟨33, 27, argsIn zA 0 .leaf, [.code (F 33)], [], .run, false⟩
theorem zhen : AF.enter Tryz.prog 33 zA false = some zfr := by kernel_rfl
noncomputable def zy : St := ⟨zfr, [], heapOf zrows 4160⟩
noncomputable def zST : List (List AIt) := [[.inLoop (A (A (A (B (B (B (F 79))))))), .inBlock 0, .code (B (B (B (B (F 79)))))],
  [R (A (A (B (B (B (B (B (B (B (A (B (A (B (B (F 52))))))))))))))) 96 3, .code (B (A (B (B (B (B (B (A (B (A (B (B (F 52))))))))))))), .inBlock 0, .code (B (B (B (F 52))))],
  [R (A (B (A (A (B (B (A (A (B (A (B (F 33)))))))))))) 27 3, .code (B (B (A (A (B (B (A (A (B (A (B (F 33)))))))))))), .inBlock 1, .code (B (B (B (A (A (B (A (B (F 33))))))))), .inLoop (A (A (B (A (B (F 33)))))), .inBlock 0, .code (B (B (F 33)))]]
noncomputable def zS : St := ⟨⟨79, 44, (S [(3, (.ptr 4160 0)), (4, (.ptr 4161 0)), (5, (.ptr 4162 0)), (6, (I 0)), (7, (.func (.func 114) [] [(.ptr 4160 0), (.ptr 4161 0), (.ptr 4162 0)]))]), nthT zST 0, [], .run, false⟩,
  [⟨52, 96, (S [(6, (I 0)), (76, (.ptr 4108 0)), (77, (.ptr 4152 0)), (78, (.ptr 4138 0))]), nthT zST 1, [], .run, false⟩,
  ⟨33, 27, (S [(0, (.ptr 4108 0)), (1, (.ptr 4152 0)), (6, (I 0)), (13, (.slice 4137 0 1 1 1 false)), (14, (I 1)), (15, (I 0)), (19, (.ptr 4108 0)), (20, (.ptr 4152 0)), (21, (.ptr 4138 0))]), nthT zST 2, [], .run, false⟩],
  (H 4163 [(4108, (K (C [(I 0), (I 5), (I 0), (I 0), .nilslice, (I 3), (I 1), (.slice 4111 0 2 2 2 true), (.slice 4115 0 2 2 2 false), .nilslice, (.map 4116), (.ptr 4114 0), .nilslice, .nilslice, .nilslice, (X (.var 1)), (I 0), .nilslice]) 18)),
  (4111, (K (C [(I 1), (.slice 4119 0 1 1 1 true), (I 2), (.slice 4120 0 1 1 1 true)]) 4)),
  (4114, (K (C [(.int .u64 (.c (.ofNat 8626466141916243606)))]) 1)),
  (4115, (K (C [(.str 7565136 3), (.slice 4129 0 1 1 1 false), (.str 7103830 3), (.slice 4130 0 1 1 1 false)]) 4)),
  (4116, (.map [((I 1), (.slice 4131 0 1 1 1 false), 0), ((I 2), (.slice 4132 0 1 1 1 false), 1)] 2)),
  (4119, (K (C [(I 7)]) 1)),
  (4120, (K (C [(I 2)]) 1)),
  (4128, (K (C [(I 5), (.str 0 0), (I 0), (.slice 4137 0 1 1 1 false), (I 9)]) 5)),
  (4129, (K (C [(.str 120 1)]) 1)),
  (4130, (K (C [(.str 120 1)]) 1)),
  (4131, (K (C [(I 7)]) 1)),
  (4132, (K (C [(I 2)]) 1)),
  (4137, (K (C [(.ptr 4138 0)]) 1)),
  (4138, (K (C [(I 14), (.str 0 0), (I 0), (.slice 4139 0 2 2 1 false), (I 11)]) 5)),
  (4139, (K (C [(.ptr 4140 0), (.ptr 4141 0)]) 2)),
  (4140, (K (C [(I 33), (.str 15677 2), (I 0), (.slice 4142 0 2 2 1 false), (I 19)]) 5)),
  (4141, (K (C [(I 5), (.str 0 0), (I 0), .nilslice, (I 24)]) 5)),
  (4142, (K (C [(.ptr 4143 0), (.ptr 4144 0)]) 2)),
  (4143, (K (C [(I 30), (.str 0 0), (I 1), .nilslice, (I 17)]) 5)),
  (4144, (K (C [(I 30), (.str 0 0), (I 1), .nilslice, (I 22)]) 5)),
  (4150, (K (C []) 0)),
  (4152, (K (C [(.slice 4150 0 0 0 1 true), (I 0)]) 2)),
  (4160, (K (C [(.ptr 4108 0)]) 1)),
  (4161, (K (C [(.ptr 4152 0)]) 1)),
  (4162, (K (C [(.ptr 4138 0)]) 1))])⟩
theorem zc : stepsR Tryz.prog [] sm0 1000000 98 [3, 4, 5, 6, 7] [[6, 76, 77, 78], [0, 1, 6, 13, 14, 15, 19, 20, 21]] [4108, 4111, 4114, 4115, 4116, 4119, 4120, 4128, 4129, 4130, 4131, 4132, 4137, 4138, 4139, 4140, 4141, 4142, 4143, 4144, 4150, 4152] [4160, 4161, 4162] [] [] 4160 zy = some (zS.sub (V [(.var 0), (.lit (.ofNat 2))])) := stepsT_spec (T := zST) (by kernel_rfl) (by kernel_rfl)
theorem zt : stepsR Tryz.prog [(.gtr, (.op2 .add .i64 (.var 1) (.lit (.ofNat 1))), (.lit (.ofNat 2000)), false)] sm0 1000000 32 [3, 4, 5, 6, 7] [[6, 76, 77, 78], [0, 1, 6, 13, 14, 15, 19, 20, 21]] [4108, 4111, 4114, 4115, 4116, 4119, 4120, 4128, 4129, 4130, 4131, 4132, 4137, 4138, 4139, 4140, 4141, 4142, 4143, 4144, 4150, 4152] [4160, 4161, 4162] [] [] 4160 zS = some (zS.sub (V [(.var 0), (.op2 .add .i64 (.var 1) (.lit (.ofNat 1)))])) := stepsT_spec (T := zST) (by kernel_rfl) (by kernel_rfl)
noncomputable def zxR : AEnd := (.pan [((.iface 32 (I 120)), false)])
noncomputable def zxrows : List (Nat × AO) := zrows ++ [(4108, (K (C [(I 0), (I 5), (I 0), (I 0), .nilslice, (I 3), (I 1), (.slice 4111 0 2 2 2 true), (.slice 4115 0 2 2 2 false), .nilslice, (.map 4116), (.ptr 4114 0), .nilslice, .nilslice, .nilslice, (I 2001), (I 0), .nilslice]) 18))]
theorem zxfin : runR Tryz.prog [] sm0 1000000 [4108, 4111, 4114, 4115, 4116, 4119, 4120, 4128, 4129, 4130, 4131, 4132, 4137, 4138, 4139, 4140, 4141, 4142, 4143, 4144, 4150, 4152] [] [] [] 4160 (V []) (zS.sub (V [(.var 0), (.lit (.ofNat 2000))])) = some (zxR, heapOf zxrows 4160) := runB_spec (by kernel_rfl)
noncomputable def zxsm : Nat → List AV → AH → Option (AEnd × AH) := callSum 33 zA zrows 4160 zxR zxrows 4160
end Go.Am.WC
