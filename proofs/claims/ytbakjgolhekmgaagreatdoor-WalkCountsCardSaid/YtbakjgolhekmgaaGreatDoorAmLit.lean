/- Words in which states are written down. -/
import Derived.Test.YtbakjgolhekmgaaGreatDoorAmSame
namespace Go.Am

abbrev L {α : Type} : Tr α := .leaf
def T {α : Type} (v : α) : Tr α := .node (some v) .leaf .leaf
def O {α : Type} (l r : Tr α) : Tr α := .node none l r
def N {α : Type} (v : α) (l r : Tr α) : Tr α := .node (some v) l r
noncomputable def C (l : List AV) : Tr AV := Tr.ofList l
noncomputable def sGo : List (Nat × AV) → Tr AV → Tr AV
  | [], t => t
  | (i, v) :: l, t => sGo l (t.set i v)
noncomputable def S (l : List (Nat × AV)) : Tr AV := sGo l .leaf
noncomputable def H (n : Nat) : List (Nat × AO) → AH
  | [] => ⟨.leaf, .leaf, n⟩
  | (b, o) :: l => (H n l).add b o
def I (n : Nat) : AV := .int .i64 (.c (.ofNat n))
def X (e : SX) : AV := .int .i64 (.s e)
def K (t : Tr AV) (n : Nat) : AO := .cells t n false 0 0 true false
/-- parts of a code. -/
def A (c : Code) : Code := match c with
  | .seq a _ => a
  | .cond _ a _ => a
  | .block _ b => b
  | .loop b => b
  | .scope b => b
  | c => c
def B (c : Code) : Code := match c with
  | .seq _ b => b
  | .cond _ _ b => b
  | c => c
def G (l : Nat) (c : Code) : Code := match c with
  | .scope b => match findLabel b l with
    | some r => r
    | none => c
  | c => c
def bodyAt (P : Program) (f : Nat) : Code := match P.funcs[f]? with
  | some fn => match fn.body with
    | some c => c
    | none => .skip
  | none => .skip
def regAt (P : Program) (c : Code) (nt i : Nat) : AIt := match c with
  | .region _ ops _ => .reg ops i ((copers P nt ops.toList ops.toList).drop i)
  | _ => .inBlock 0
def nthT : List (List AIt) → Nat → List AIt
  | [], _ => []
  | t :: _, 0 => t
  | _ :: l, i + 1 => nthT l i
def nthX : List SX → Nat → Option SX
  | [], _ => none
  | e :: _, 0 => some e
  | _ :: l, i + 1 => nthX l i
/-- expressions for the first variables. -/
def V (l : List SX) (k : Nat) : SX := match nthX l k with
  | some e => e
  | none => .var k
end Go.Am
