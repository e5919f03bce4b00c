/- hindcastlaw12.WalkCounts answers true at every number, and never panics, where the listed package-level variables hold what the program's text lays. Conditions: none but the row's own. -/
import Derived.Test.YtbakjgolhekmgaaGreatDoorCards
import Derived.Test.YtbakjgolhekmgaaGreatDoorTie
import Derived.Test.YtbakjgolhekmgaaGreatDoorWCon
import Derived.Deep.DeepHandedRow
import Derived.Deep.DeepWitnessRowRef
import Derived.Lib.LaidIn
namespace Go.Proofs.YtbakjgolhekmgaaGreatDoor
open Go.ChangeShapes Go.WideShapes Go.ChangeAt Go.RowKit
namespace Fin
/-- the numbers of a listed table. -/
def numOne (x : DataW Unit) : List Value := match x with
  | .lit l => (match l with
    | .int k n => [.int k n]
    | _ => [])
  | _ => []
def numsOf (d : DataW Unit) : Array Value := (match d with
  | .agg l => l.flatMap numOne
  | _ => []).toArray
/-- a world for the witness: the settled one, with four blocks more (two errors' texts; the ranges of unicode.White_Space; its table), the seven variables holding what their initialisers lay. -/
noncomputable def laidWorld (os : Os) : World :=
  let N := (World.settled Tryz.prog os).heap.size
  let w0 := World.holding Tryz.prog os ⟨#[
    .cells #[.string ⟨#[118, 97, 108, 117, 101, 32, 111, 117, 116, 32, 111, 102, 32, 114, 97, 110, 103, 101]⟩] 246,
    .cells #[.string ⟨#[105, 110, 118, 97, 108, 105, 100, 32, 115, 121, 110, 116, 97, 120]⟩] 246,
    .cells #[.int .u16 9, .int .u16 13, .int .u16 1, .int .u16 32, .int .u16 133, .int .u16 101, .int .u16 160, .int .u16 5760, .int .u16 5600, .int .u16 8192, .int .u16 8202, .int .u16 1, .int .u16 8232, .int .u16 8233, .int .u16 1, .int .u16 8239, .int .u16 8287, .int .u16 48, .int .u16 12288, .int .u16 12288, .int .u16 1] 267,
    .cells #[.slice (some ⟨N + 2, 0, none⟩) 7 7, .slice none 0 0, .int .i64 2] 264], #[], []⟩
  let put (h : Array Obj) (g : Nat) (cs : Array Value) : Array Obj := h.modify g fun
    | .cells _ t frozen => .cells cs t frozen
    | o => o
  let h1 := put w0.heap 1 #[.iface 244 (.pointer (some ⟨N + 1, 0, none⟩))]
  let h2 := put h1 2 #[.iface 244 (.pointer (some ⟨N, 0, none⟩))]
  let h3 := put h2 3 (numsOf Rows.laid_strings_asciiSpace)
  let h4 := put h3 4 #[.pointer (some ⟨N + 3, 0, none⟩)]
  let h5 := put h4 5 (numsOf Rows.laid_internal_strconv_uint64pow10)
  let h6 := put h5 6 (numsOf Rows.laid_math_bits_deBruijn32tab)
  let h7 := put h6 7 (numsOf Rows.laid_math_bits_deBruijn64tab)
  { w0 with heap := h7 }
noncomputable abbrev N0 : Nat := (World.settled Tryz.prog default).heap.size
theorem laid_in (os : Os) (args : Array Value) : LaidIn Tryz.prog ((laidWorld os).forCall (fun _ _ => 0) ⟨#[], args, []⟩).memory Rows.walkCountsRow.laid [6, 7, 5, 2, N0, 1, N0 + 1, 4, N0 + 3, N0 + 2, 3] :=
  LaidIn.of_run _ 12 (by kernel_rfl) (by kernel_rfl) (by kernel_rfl) (by kernel_rfl)
theorem laid_met (os : Os) (args : Array Value) : laidMet Tryz.prog Rows.walkCountsRow.laid ((laidWorld os).forCall (fun _ _ => 0) ⟨#[], args, []⟩).memory := (laid_in os args).met
theorem reads (os : Os) {H : Type} (enc : TypeId × Value → H) : ∃ places, DataW.whole enc Tryz.prog ((laidWorld os).forCall (fun _ _ => 0) ⟨#[], #[.int .i64 0], []⟩).memory Tryz.f3.params.toList Rows.walkCountsSpec.vars false #[Value.int .i64 0].toList 8 = some ([.lit (.int .i64 0)], [], places) :=
  ⟨[], by kernel_rfl⟩
set_option maxRecDepth 100000 in
theorem lifted (os : Os) (started : os.Started) (H : Type) (enc : TypeId × Value → H) (F : Stop.Interp) :
    ReturnsInHanded {} Tryz.checked os 3 .any ((OpenSpec.ofChange Rows.walkCountsSpec).preRow enc Tryz.prog Tryz.f3 Rows.walkCountsRow.domain false Rows.walkCountsRow.laid) (((OpenSpec.ofChange Rows.walkCountsSpec).at F).post enc Tryz.prog Tryz.f3 false true false false) := by
  obtain ⟨places, hx⟩ := reads os enc
  refine returnsInHanded_of_row (C := Tryz.checked) (s := OpenSpec.ofChange Rows.walkCountsSpec) own started (by kernel_rfl) Tryz.func3
    (witness_row_atRef (enc := enc) (C := Tryz.checked) false (laidWorld os) #[.int .i64 0] rfl (by kernel_rfl) (by kernel_rfl) (by kernel_rfl)
      (OpenSpec.preRow_of_cond 8 hx (by kernel_rfl) (fun k hk => by cases hk) (by kernel_rfl) (laid_met os _))) ?_
  intro W base args ds gs before hval hW _ _ _ hL _ _
  exact contract H enc W base args ds gs before hval hW hL
theorem said : Rows.WalkCountsSaid :=
  OpenClaim.holds_of_cond 3 Tryz.f3 rfl rfl rfl rfl rfl rfl rfl ⟨rfl, rfl, rfl, rfl, rfl⟩ rfl rfl rfl rfl rfl (by kernel_rfl) Tryz.func3 (by kernel_rfl)
    (of_decide_eq_true (by kernel_rfl)) (by unfold Func.isWrapper; first | (rw [if_pos (by decide +kernel)]; kernel_rfl) | (rw [if_neg (by decide +kernel)]; exact ⟨rfl, rfl⟩))
    (fun os started H enc _ F => by rw [OpenClaim.pre_eq_preRow]; exact lifted os started H enc F)
/-- No parameter wants a stand-in; the program's own looks. -/
theorem plain (f : FuncId) (fn : Func) (hf : Tryz.pinned.checked.prog.funcNamed "hindcast/hindcastlaw12.WalkCounts" = some f) (hfn : Tryz.pinned.checked.prog.funcs[f]? = some fn) :
    true = Tryz.pinned.checked.prog.looks [] ∧ ∀ (j : Nat) t, fn.params[j]? = some t → Tryz.pinned.checked.prog.wantsStandIn t = false := by
  obtain rfl : f = 3 := Option.some.inj ((show Tryz.prog.funcNamed "hindcast/hindcastlaw12.WalkCounts" = some 3 by kernel_rfl).symm.trans hf) |>.symm
  obtain rfl : fn = Tryz.f3 := (Option.some.inj (Tryz.func3.symm.trans hfn)).symm
  refine ⟨by kernel_rfl, fun j t ht => ?_⟩
  rw [Tryz.params3] at ht
  obtain rfl : t = 2 := by simpa using Array.mem_of_getElem? ht
  exact (show Tryz.prog.wantsStandIn 2 = false by kernel_rfl)
end Fin
/-- THE CARD. -/
theorem walkCounts_card : Rows.WalkCountsCardSaid :=
  Claim7.holds_tied_plain_at .later [] _ _ _ _ Fin.said (fun _ h => by cases h) (by kernel_rfl) (fun _ h => by cases h) walkCounts_row_tie rfl ⟨rfl, rfl⟩ (by kernel_rfl) rfl Fin.plain (by kernel_rfl)
end Go.Proofs.YtbakjgolhekmgaaGreatDoor
