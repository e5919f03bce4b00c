/- The abstract machine: its values, memory, code and steps. It runs what the model's code is made into on abstract values: addresses by names, capacities not known, whole numbers known or as expressions. -/
import Derived.Calls
import Derived.Recover
namespace Go.Am

/- trees by numbers; a number as a way down -/
inductive Tr (α : Type) where
  | leaf
  | node (v : Option α) (l r : Tr α)

namespace Tr
noncomputable def get {α : Type} (t : Tr α) : Nat → Option α :=
  Tr.rec (motive := fun _ => Nat → Option α) (fun _ => none)
    (fun v _ _ gl gr n => cond (Nat.beq n 0) v (cond (Nat.beq (Nat.mod n 2) 0) (gr (Nat.sub (Nat.div n 2) 1)) (gl (Nat.div n 2)))) t
noncomputable def getP {α : Type} (t : Tr α) : List Bool → Option α :=
  Tr.rec (motive := fun _ => List Bool → Option α) (fun _ => none)
    (fun v _ _ gl gr p => List.casesOn p v (fun b p => Bool.casesOn b (gr p) (gl p))) t
noncomputable def setF {α : Type} (x : Option α) (f : Nat) : Tr α → Nat → Tr α :=
  Nat.rec (motive := fun _ => Tr α → Nat → Tr α) (fun t _ => t)
    (fun _ go t n => Tr.casesOn t
      (cond (Nat.beq n 0) (.node x .leaf .leaf) (cond (Nat.beq (Nat.mod n 2) 0) (.node none .leaf (go .leaf (Nat.sub (Nat.div n 2) 1))) (.node none (go .leaf (Nat.div n 2)) .leaf)))
      (fun v l r => cond (Nat.beq n 0) (.node x l r) (cond (Nat.beq (Nat.mod n 2) 0) (.node v l (go r (Nat.sub (Nat.div n 2) 1))) (.node v (go l (Nat.div n 2)) r)))) f
noncomputable def setP {α : Type} (x : Option α) (p : List Bool) : Tr α → Tr α :=
  List.rec (motive := fun _ => Tr α → Tr α)
    (fun t => Tr.casesOn t (.node x .leaf .leaf) (fun _ l r => .node x l r))
    (fun b _ go t => Tr.casesOn t
      (Bool.casesOn b (.node none .leaf (go .leaf)) (.node none (go .leaf) .leaf))
      (fun v l r => Bool.casesOn b (.node v l (go r)) (.node v (go l) r))) p
noncomputable def put {α : Type} (t : Tr α) (n : Nat) (x : Option α) : Tr α := setF x (Nat.succ n) t n
noncomputable def set {α : Type} (t : Tr α) (n : Nat) (x : α) : Tr α := put t n (some x)
noncomputable def del {α : Type} (t : Tr α) (n : Nat) : Tr α := put t n none
noncomputable def ofListAt {α : Type} : Tr α → Nat → List α → Tr α
  | t, _, [] => t
  | t, i, x :: l => ofListAt (t.set i x) (Nat.succ i) l
noncomputable def ofList {α : Type} (l : List α) : Tr α := ofListAt .leaf 0 l
end Tr
def pathF : Nat → Nat → List Bool
  | 0, _ => []
  | f + 1, n => bif Nat.beq n 0 then [] else bif Nat.beq (Nat.mod n 2) 0 then false :: pathF f (Nat.sub (Nat.div n 2) 1) else true :: pathF f (Nat.div n 2)
def pathOf (n : Nat) : List Bool := pathF (Nat.succ n) n

/- integers, known or as expressions -/
inductive SX where
  | var (i : Nat)
  | lit (n : Int)
  | op2 (o : BinOp) (k : IntKind) (a b : SX)
  | op1 (o : UnOp) (k : IntKind) (a : SX)
  | conv (k : IntKind) (a : SX)
  | mn (a b : SX)
  | mx (a b : SX)
  deriving DecidableEq, Repr, Inhabited
inductive AI where
  | c (n : Int)
  | s (e : SX)
  deriving DecidableEq, Repr, Inhabited
def AI.sx : AI → SX
  | .c n => .lit n
  | .s e => e

def top (k : IntKind) : Nat := match k with
  | .i8 => 128 | .i16 => 32768 | .i32 => 2147483648 | .i64 => 9223372036854775808
  | .u8 => 256 | .u16 => 65536 | .u32 => 4294967296 | .u64 => 18446744073709551616
/-- 'wrap', at once where nothing is to be done. -/
def wr (k : IntKind) (n : Int) : Int := match n with
  | .ofNat m => bif Nat.ble (Nat.succ m) (top k) then .ofNat m else k.wrap (.ofNat m)
  | .negSucc m => bif k.signed && Nat.ble (Nat.succ m) (top k) then .negSucc m else k.wrap (.negSucc m)
def ibin (o : BinOp) (k : IntKind) (x y : Int) : Option Int :=
  match o with
  | .add => some (wr k (Int.add x y))
  | .sub => some (wr k (Int.sub x y))
  | .mul => some (wr k (Int.mul x y))
  | .quo => if y = 0 then none else some (k.wrap (x.tdiv y))
  | .rem => if y = 0 then none else some (x.tmod y)
  | .and => some (k.wrap (BitVec.ofInt k.bits x &&& BitVec.ofInt k.bits y).toNat)
  | .or => some (k.wrap (BitVec.ofInt k.bits x ||| BitVec.ofInt k.bits y).toNat)
  | .xor => some (k.wrap (BitVec.ofInt k.bits x ^^^ BitVec.ofInt k.bits y).toNat)
  | .andNot => some (k.wrap (BitVec.ofInt k.bits x &&& ~~~ BitVec.ofInt k.bits y).toNat)
  | .shl => if y < 0 then none else some (k.wrap (x * 2 ^ (min y.toNat k.bits)))
  | .shr => if y < 0 then none else some (x.fdiv (2 ^ (min y.toNat k.bits)))
  | _ => none
def ieq (x y : Int) : Bool := match x, y with
  | .ofNat a, .ofNat b => Nat.beq a b
  | .negSucc a, .negSucc b => Nat.beq a b
  | _, _ => false
def ile (x y : Int) : Bool := match x, y with
  | .ofNat a, .ofNat b => Nat.ble a b
  | .negSucc a, .negSucc b => Nat.ble b a
  | .negSucc _, .ofNat _ => true
  | .ofNat _, .negSucc _ => false
def icmp (o : BinOp) (x y : Int) : Option Bool :=
  match o with
  | .eql => some (ieq x y)
  | .neq => some (!(ieq x y))
  | .lss => some (!(ile y x))
  | .leq => some (ile x y)
  | .gtr => some (!(ile x y))
  | .geq => some (ile y x)
  | _ => none
def iun (o : UnOp) (k : IntKind) (x : Int) : Option Int :=
  match o with
  | .neg => some (wr k (Int.neg x))
  | .xor => some (k.wrap (BitVec.ofInt k.bits (if k.signed then -1 else k.max) ^^^ BitVec.ofInt k.bits x).toNat)
  | _ => none
def SX.den (ρ : Nat → Int) : SX → Int
  | .var i => ρ i
  | .lit n => n
  | .op2 o k a b => (ibin o k (a.den ρ) (b.den ρ)).getD 0
  | .op1 o k a => (iun o k (a.den ρ)).getD 0
  | .conv k a => k.wrap (a.den ρ)
  | .mn a b => if b.den ρ < a.den ρ then b.den ρ else a.den ρ
  | .mx a b => if b.den ρ > a.den ρ then b.den ρ else a.den ρ
def AI.den (ρ : Nat → Int) : AI → Int
  | .c n => n
  | .s e => e.den ρ

/- what is taken for granted of expressions: comparisons and their answers -/
abbrev Hyp := List (BinOp × SX × SX × Bool)
def Hyp.find : Hyp → BinOp → SX → SX → Option Bool
  | [], _, _, _ => none
  | (o', a', b', r) :: l, o, a, b => if o = o' ∧ a = a' ∧ b = b' then some r else Hyp.find l o a b

/- values; 'bot': whichever -/
inductive AV where
  | bot
  | bool (b : Bool)
  | int (k : IntKind) (a : AI)
  | str (s n : Nat)
  | nilptr
  | ptr (b o : Nat)
  | nilslice
  | slice (b o len cap z : Nat) (ex : Bool)
  | nilmap
  | map (b : Nat)
  | func (fn : Fn) (first captured : List AV)
  | nilfunc
  | iface (t : Nat) (v : AV)
  | nilface
  | agg (cs : List AV)
  | tup (vs : List AV)
  deriving Inhabited
def AV.undef : AV := .tup []
def AV.cells (v : AV) : List AV := match v with
  | .agg cs => cs
  | v => [v]
/-- the value of one cell. -/
def AV.one (v : AV) : Bool := match v with
  | .agg _ | .tup _ | .bot => false
  | _ => true
def ones : List AV → Bool
  | [] => true
  | v :: l => v.one && ones l
def gi (n : Nat) : AV := .int .i64 (.c (.ofNat n))

mutual
def AV.same : AV → AV → Bool
  | .bot, .bot => true
  | .bool a, .bool b => a == b
  | .int k a, .int k' b => decide (k = k') && decide (a = b)
  | .str s n, .str s' n' => Nat.beq s s' && Nat.beq n n'
  | .nilptr, .nilptr => true
  | .ptr b o, .ptr b' o' => Nat.beq b b' && Nat.beq o o'
  | .nilslice, .nilslice => true
  | .slice b o l c z e, .slice b' o' l' c' z' e' => Nat.beq b b' && (Nat.beq o o' && (Nat.beq l l' && (Nat.beq c c' && (Nat.beq z z' && e == e'))))
  | .nilmap, .nilmap => true
  | .map b, .map b' => Nat.beq b b'
  | .func fn a b, .func fn' a' b' => decide (fn = fn') && (AV.sames a a' && AV.sames b b')
  | .nilfunc, .nilfunc => true
  | .iface t v, .iface t' v' => Nat.beq t t' && AV.same v v'
  | .nilface, .nilface => true
  | .agg a, .agg b => AV.sames a b
  | .tup a, .tup b => AV.sames a b
  | _, _ => false
def AV.sames : List AV → List AV → Bool
  | [], [] => true
  | a :: l, b :: m => AV.same a b && AV.sames l m
  | _, _ => false
end

/- texts: the bytes as one number, the first one lowest -/
def enc : List UInt8 → Nat
  | [] => 0
  | b :: l => b.toNat + 256 * enc l
def chr (s i : Nat) : Nat := Nat.mod (Nat.shiftRight s (Nat.mul 8 i)) 256
def cut (s l h : Nat) : Nat := Nat.mod (Nat.shiftRight s (Nat.mul 8 l)) (Nat.pow 2 (Nat.mul 8 (Nat.sub h l)))
def glue (s n t : Nat) : Nat := Nat.add s (Nat.shiftLeft t (Nat.mul 8 n))
def encN : List Nat → Nat
  | [] => 0
  | b :: l => Nat.add b (Nat.mul 256 (encN l))
def decN : Nat → Nat → List AV
  | _, 0 => []
  | s, n + 1 => .int .u8 (.c (.ofNat (Nat.mod s 256))) :: decN (Nat.div s 256) n

def ofVals (f : Value → Option AV) : List Value → Option (List AV)
  | [] => some []
  | v :: l => match f v with
    | some a => match ofVals f l with
      | some m => some (a :: m)
      | none => none
    | none => none
/-- what a value is that names no memory. -/
def ofValF : Nat → Value → Option AV
  | 0, _ => none
  | d + 1, v => match v with
    | .bool b => some (.bool b)
    | .int k n => some (.int k (.c n))
    | .string s => some (.str (enc s.data.toList) s.data.toList.length)
    | .pointer none => some .nilptr
    | .slice none 0 0 => some .nilslice
    | .map none => some .nilmap
    | .nilFunc => some .nilfunc
    | .nilIface => some .nilface
    | .iface t v => match ofValF d v with
      | some a => some (.iface t a)
      | none => none
    | .func fn a b => match ofVals (ofValF d) a.toList, ofVals (ofValF d) b.toList with
      | some x, some y => some (.func fn x y)
      | _, _ => none
    | .agg cs => match ofVals (ofValF d) cs.toList with
      | some l => some (.agg l)
      | none => none
    | .tuple cs => match ofVals (ofValF d) cs.toList with
      | some l => some (.tup l)
      | none => none
    | _ => none
def ofVal (v : Value) : Option AV := ofValF 6 v

/- memory: rows of cells and maps, by their names. 'n': how many cells are known to be there; 'sh': it may lie where another one of its family lies ('co': where in the family it begins); 'pl': nothing of it ever was a text; 'ro': it is only read -/
inductive AO where
  | cells (t : Tr AV) (n : Nat) (sh : Bool) (fam co : Nat) (pl ro : Bool)
  | map (es : List (AV × AV × Nat)) (clock : Nat)
  deriving Inhabited
structure AH where
  t : Tr AO
  f : Tr (List Nat)
  nx : Nat

noncomputable def AH.rd (h : AH) (b o : Nat) : Option AV :=
  match h with
  | ⟨t, _, _⟩ => match t.get b with
    | some (.cells t _ _ _ _ _ _) => t.get o
    | _ => none
noncomputable def rdsIn (t : Tr AV) : Nat → Nat → Option (List AV)
  | _, 0 => some []
  | o, k + 1 => match t.get o with
    | some v => match rdsIn t (Nat.succ o) k with
      | some l => some (v :: l)
      | none => none
    | none => none
noncomputable def AH.rds (h : AH) (b o k : Nat) : Option (List AV) :=
  match k with
  | 0 => some []
  | k + 1 => match h with
    | ⟨t, _, _⟩ => match t.get b with
      | some (.cells t _ _ _ _ _ _) => rdsIn t o (Nat.succ k)
      | _ => none
/-- all members of a family but one, that meet a stretch of it, are forgotten. -/
noncomputable def kill (b lo hi : Nat) : List Nat → Tr AO → Tr AO × List Nat
  | [], t => (t, [])
  | m :: ms, t =>
    match kill b lo hi ms t with
    | (t', ms') =>
      bif Nat.beq m b then (t', m :: ms') else
      match t'.get m with
      | some (.cells _ n _ _ co _ _) => bif Nat.ble hi co || Nat.ble (Nat.add co n) lo then (t', m :: ms') else (t'.del m, ms')
      | _ => (t', ms')
noncomputable def AH.kills (h : AH) (fam b lo hi : Nat) : AH :=
  match h with
  | ⟨t, f, nx⟩ => match f.get fam with
    | none => ⟨t, f, nx⟩
    | some ms => match kill b lo hi ms t with
      | (t', ms') => ⟨t', f.set fam ms', nx⟩
noncomputable def wrsIn : Tr AV → Nat → List AV → Tr AV
  | t, _, [] => t
  | t, o, v :: l => wrsIn (t.set o v) (Nat.succ o) l
noncomputable def AH.over (h : AH) (b : Nat) (o : AO) : AH :=
  match h with
  | ⟨t, f, nx⟩ => ⟨t.set b o, f, nx⟩
noncomputable def AH.wrs (h : AH) (b o : Nat) (vs : List AV) : Option AH :=
  match vs with
  | [] => some h
  | _ :: _ =>
    match h.t.get b with
    | some (.cells t n sh fam co pl ro) =>
      bif !ro && (Nat.ble (Nat.add o vs.length) n && ones vs) then
        bif sh then some ((h.kills fam b (Nat.add co o) (Nat.add (Nat.add co o) vs.length)).over b (.cells (wrsIn t o vs) n sh fam co pl ro))
        else some (h.over b (.cells (wrsIn t o vs) n sh fam co pl ro))
      else none
    | _ => none
noncomputable def AH.mk' (h : AH) (o : AO) : AH :=
  match h with
  | ⟨t, f, nx⟩ => ⟨t.set nx o, f, Nat.succ nx⟩
noncomputable def AH.new (h : AH) (vs : List AV) (pl : Bool) : AH := h.mk' (.cells (Tr.ofList vs) vs.length false 0 0 pl false)

def sizeIn (P : Program) (t : Nat) : Option Nat := match P.info? t with
  | some i => some i.size
  | none => none
def bytesIn (P : Program) (t : Nat) : Option Nat := match P.info? t with
  | some i => some i.bytes
  | none => none
def zeroIn (P : Program) (t : Nat) : Option AV :=
  match P.info? t with
  | some i => match i.zero with
    | some v => ofVal v
    | none => none
  | none => none
/-- how many cells are loaded: 'none': one, as it is. -/
def aggIn (P : Program) (t : Nat) : Option (Option Nat) :=
  match P.underlying t with
  | some (.struct _) | some (.array _ _) => match sizeIn P t with
    | some n => some (some n)
    | none => none
  | some _ => some none
  | none => none
def slit (l : List AV) (off n : Nat) : Option (List AV) := bif Nat.ble (Nat.add off n) l.length then some ((l.drop off).take n) else none
def nth : List AV → Nat → Option AV
  | [], _ => none
  | v :: _, 0 => some v
  | _ :: l, i + 1 => nth l i
def partOf (n : Option Nat) (cs : List AV) (off : Nat) : Option AV :=
  match n with
  | some n => match slit cs off n with
    | some l => some (.agg l)
    | none => none
  | none => nth cs off
noncomputable def loadOf (n : Option Nat) (h : AH) (b o : Nat) : Option AV :=
  match n with
  | some n => match h.rds b o n with
    | some l => some (.agg l)
    | none => none
  | none => h.rd b o
/-- a value whose cells are known. -/
def AV.solid (v : AV) : Bool := match v with
  | .bot | .tup _ => false
  | _ => true
/-- parts laid over cells: where, how many, what. -/
def fillIn : List AV → List (Nat × Nat × AV) → Option (List AV)
  | cells, [] => some cells
  | cells, (off, size, v) :: rest =>
    bif v.solid && (Nat.beq v.cells.length size && Nat.ble (Nat.add off size) cells.length) then
      fillIn (cells.take off ++ (v.cells ++ cells.drop (Nat.add off size))) rest
    else none
def repeatIn (l : List AV) : Nat → List AV
  | 0 => []
  | n + 1 => l ++ repeatIn l n

/-- are two values one? -/
noncomputable def eqIn (P : Program) (hyp : Hyp) (h : AH) : Nat → Nat → AV → AV → Option Bool
  | 0, _, _, _ => none
  | d + 1, t, x, y =>
    match P.underlying t with
    | none => none
    | some u =>
    match u, x, y with
    | .bool, .bool a, .bool b => some (a == b)
    | .int _, .int k a, .int k' b => if k = k' then (match a, b with
      | .c a, .c b => some (ieq a b)
      | a, b => hyp.find .eql a.sx b.sx) else none
    | .string, .str s n, .str s' n' => some (Nat.beq n n' && Nat.beq s s')
    | .pointer _, .nilptr, .nilptr => some true
    | .pointer _, .nilptr, .ptr _ _ => some false
    | .pointer _, .ptr _ _, .nilptr => some false
    | .pointer e, .ptr b o, .ptr b' o' =>
      match sizeIn P e with
      | none => none
      | some z =>
        bif Nat.beq z 0 then none else
        bif Nat.beq b b' then (match h.t.get b with | some _ => some (Nat.beq o o') | none => none) else
        match h.t.get b, h.t.get b' with
        | some (.cells _ n sh fam _ pl _), some (.cells _ n' sh' fam' _ pl' _) => bif (!(sh && sh') || !(Nat.beq fam fam')) && (pl && (pl' && (Nat.blt o n && Nat.blt o' n'))) then some false else none
        | _, _ => none
    | .interface _, .nilface, .nilface => some true
    | .interface _, .nilface, .iface _ _ => some false
    | .interface _, .iface _ _, .nilface => some false
    | .interface _, .iface tx vx, .iface ty vy =>
      bif !(Nat.beq tx ty) then some false else
      match P.info? tx with
      | some i => bif i.comparable then eqIn P hyp h d tx vx vy else none
      | none => none
    | .struct fs, .agg xs, .agg ys => bif P.stoodInHeld t then none else eqFs P hyp h (eqIn P hyp h d) fs.toList xs ys
    | .slice _, .nilslice, .nilslice => some true
    | .slice _, .nilslice, .slice .. => some false
    | .slice _, .slice .., .nilslice => some false
    | .map _ _, .nilmap, .nilmap => some true
    | .map _ _, .nilmap, .map _ => some false
    | .map _ _, .map _, .nilmap => some false
    | .func _ _ _, .nilfunc, .nilfunc => some true
    | .func _ _ _, .nilfunc, .func .. => some false
    | .func _ _ _, .func .., .nilfunc => some false
    | _, _, _ => none
where
  eqFs (P : Program) (hyp : Hyp) (h : AH) (eq : Nat → AV → AV → Option Bool) : List Field → List AV → List AV → Option Bool
    | [], _, _ => some true
    | f :: fs, xs, ys =>
      if f.name = "_" then eqFs P hyp h eq fs xs ys else
      match aggIn P f.type with
      | none => none
      | some n =>
      match partOf n xs f.offset, partOf n ys f.offset with
      | some x, some y => match eq f.type x y with
        | some true => eqFs P hyp h eq fs xs ys
        | r => r
      | _, _ => none

/- code: what an operation is made into, ahead of all runs -/
inductive AX where   -- an operand
  | t (p : List Bool)
  | v (a : AV)
inductive AO' where
  | mv (x : AX)
  | pk (c a b : AX)
  | al (cs : List AV)
  | bx (x : AX)
  | bd (zs : List AV) (ps : List (Nat × Nat × AX))
  | bs (z len : Nat) (zs : List AV) (ps : List (Nat × Nat × AX))
  | ld (n : Option Nat) (a : AX)
  | st (n : Nat) (a x : AX)
  | nc (x : AX)
  | bin (o : BinOp) (x y : AX)
  | eq (neg : Bool) (t : Nat) (c : Bool) (g : Bool) (x y : AX)
  | un (o : UnOp) (x : AX)
  | cv (k : IntKind) (x : AX)
  | s2s (x : AX)
  | s2b (x : AX)
  | b2s (x : AX)
  | mi (t : Nat) (x : AX)
  | mf (fn : Fn) (first cap : List AX)
  | mm
  | ms (z : Nat) (zs : List AV) (l c : AX)
  | sa (n z : Nat) (x : AX) (lo hi mx : Option AX)
  | ss (x : AX) (lo hi : Option AX)
  | sl (z : Nat) (x : AX) (lo hi mx : Option AX)
  | fa (off : Nat) (x : AX)
  | fd (n : Option Nat) (off : Nat) (x : AX)
  | ia (n z : Nat) (x i : AX)
  | ix (z : Nat) (x i : AX)
  | ea (n z : Nat) (p : Option Nat) (x i : AX)
  | es (x i : AX)
  | lk (st : Bool) (zero : AV) (m k : AX) (ok : Bool)
  | up (st : Bool) (m k v : AX)
  | ta (t : Nat) (zero : AV) (x : AX) (ok : Bool)
  | ex (x : AX) (i : Nat)
  | cl (f : AX) (args : List AX)
  | df (f : AX) (args : List AX)
  | pn (x : AX)
  | lnS (x : AX)
  | lnL (x : AX)
  | lnM (x : AX)
  | lenA (n : Nat)
  | cap (x : AX)
  | app (z : Nat) (s x : AX)
  | cpy (z : Nat) (d s : AX)
  | mn (x : AX) (l : List AX)
  | mx (x : AX) (l : List AX)
  | rcv
structure CO where
  dst : Option (List Bool)
  op : AO'
  guard : Option (List Bool × Bool)

def opd (x : Operand) : Option AX := match x with
  | .tmp t => some (.t (pathOf t))
  | .const v => match ofVal v with
    | some a => some (.v a)
    | none => none
  | .global g => bif Nat.blt g 4096 then some (.v (.ptr g 0)) else none
  | .func f => some (.v (.func (.func f) [] []))
def opds : List Operand → Option (List AX)
  | [] => some []
  | x :: l => match opd x with
    | some a => match opds l with
      | some m => some (a :: m)
      | none => none
    | none => none
def opdO : Option Operand → Option (Option AX)
  | none => some none
  | some x => match opd x with
    | some a => some (some a)
    | none => none
def isConst (x : Operand) : Bool := match x with
  | .const _ => true
  | _ => false
/-- the parts of what is built: their places by a list. -/
def partsIn (place : Nat → Option (Nat × Nat)) : List (Nat × Operand) → Option (List (Nat × Nat × AX))
  | [] => some []
  | (i, x) :: l => match place i, opd x with
    | some (off, n), some a => match partsIn place l with
      | some m => some ((off, n, a) :: m)
      | none => none
    | _, _ => none
def placesIn (P : Program) : List Field → Option (List (Nat × Nat))
  | [] => some []
  | f :: l => match sizeIn P f.type, placesIn P l with
    | some n, some m => some ((f.offset, n) :: m)
    | _, _ => none
/-- a bound of what is made or appended. -/
def most : Nat := 1000000

def cop (P : Program) (o : Op) : Option AO' :=
  match o with
  | .move x | .assign x => do pure (.mv (← opd x))
  | .pick c a b => do pure (.pk (← opd c) (← opd a) (← opd b))
  | .alloc e => do
    let z ← zeroIn P e
    bif ones z.cells then pure (.al z.cells) else none
  | .box _ x => do pure (.bx (← opd x))
  | .build t parts => do
    let z ← zeroIn P t
    let z ← (bif ones z.cells then some z else none)
    match P.underlying t with
    | some (.struct fs) =>
      let ps ← placesIn P fs.toList
      pure (.bd z.cells (← partsIn (fun i => ps[i]?) parts.toList))
    | some (.array _ e) =>
      let n ← sizeIn P e
      pure (.bd z.cells (← partsIn (fun i => some (Nat.mul i n, n)) parts.toList))
    | _ => none
  | .buildSlice t len parts =>
    match P.underlying t with
    | some (.slice e) => do
      let z ← sizeIn P e
      let v ← zeroIn P e
      bif Nat.ble (Nat.mul len z) 16777216 && (ones v.cells && Nat.beq v.cells.length z) then
        pure (.bs z len v.cells (← partsIn (fun i => some (Nat.mul i z, z)) parts.toList))
      else none
    | _ => none
  | .load t a => do pure (.ld (← aggIn P t) (← opd a))
  | .store t a x => do pure (.st (← sizeIn P t) (← opd a) (← opd x))
  | .nilCheck x => do pure (.nc (← opd x))
  | .binOp o t x y _ =>
    match o with
    | .eql => do pure (.eq false t (isConst x || isConst y) (P.eqGuardType P.depth t) (← opd x) (← opd y))
    | .neq => do pure (.eq true t (isConst x || isConst y) (P.eqGuardType P.depth t) (← opd x) (← opd y))
    | o => do pure (.bin o (← opd x) (← opd y))
  | .unOp o _ x => do pure (.un o (← opd x))
  | .convert s d x =>
    match P.underlying s, P.underlying d with
    | some (.int _), some (.int k) => do pure (.cv k (← opd x))
    | some .string, some .string => do pure (.s2s (← opd x))
    | some .string, some (.slice e) => match P.underlying e with
      | some (.int .u8) => do pure (.s2b (← opd x))
      | _ => none
    | some (.slice e), some .string => match P.underlying e with
      | some (.int .u8) => do pure (.b2s (← opd x))
      | _ => none
    | _, _ => none
  | .makeInterface t x => match P.underlying t with
    | some (.interface _) => none
    | some _ => do pure (.mi t (← opd x))
    | none => none
  | .makeFunc fn first cap => do pure (.mf fn (← opds first.toList) (← opds cap.toList))
  | .makeMap _ m => match m with
    | none => some .mm
    | some _ => none
  | .makeSlice t l c => match P.underlying t with
    | some (.slice e) => do
      let z ← sizeIn P e
      let w ← bytesIn P e
      let v ← zeroIn P e
      bif Nat.ble w 10000 && (ones v.cells && Nat.beq v.cells.length z) then pure (.ms z v.cells (← opd l) (← opd c)) else none
    | _ => none
  | .slice t x lo hi mx => match P.underlying t with
    | some (.array n e) => do pure (.sa n (← sizeIn P e) (← opd x) (← opdO lo) (← opdO hi) (← opdO mx))
    | some .string => match mx with
      | none => do pure (.ss (← opd x) (← opdO lo) (← opdO hi))
      | some _ => none
    | some (.slice e) => do pure (.sl (← sizeIn P e) (← opd x) (← opdO lo) (← opdO hi) (← opdO mx))
    | _ => none
  | .fieldAddr s x f => match P.underlying s with
    | some (.struct fs) => do
      let f ← fs[f]?
      let n ← sizeIn P f.type
      bif Nat.beq n 0 then none else pure (.fa f.offset (← opd x))
    | _ => none
  | .field t x f => match P.underlying t with
    | some (.struct fs) => do
      let f ← fs[f]?
      pure (.fd (← aggIn P f.type) f.offset (← opd x))
    | _ => none
  | .indexAddr t x i => match P.underlying t with
    | some (.array n e) => do pure (.ia n (← sizeIn P e) (← opd x) (← opd i))
    | some (.slice e) => do pure (.ix (← sizeIn P e) (← opd x) (← opd i))
    | _ => none
  | .index t x i => match P.underlying t with
    | some (.array n e) => do pure (.ea n (← sizeIn P e) (← aggIn P e) (← opd x) (← opd i))
    | some .string => do pure (.es (← opd x) (← opd i))
    | _ => none
  | .lookup t x i ok => match P.underlying t with
    | some (.map kt et) => match P.underlying kt with
      | some (.int _) => do pure (.lk false (← zeroIn P et) (← opd x) (← opd i) ok)
      | some .string => do pure (.lk true (← zeroIn P et) (← opd x) (← opd i) ok)
      | _ => none
    | _ => none
  | .mapUpdate t m k x => match P.underlying t with
    | some (.map kt _) => match P.underlying kt with
      | some (.int _) => do pure (.up false (← opd m) (← opd k) (← opd x))
      | some .string => do pure (.up true (← opd m) (← opd k) (← opd x))
      | _ => none
    | _ => none
  | .typeAssert x _ asserted ok => match P.underlying asserted with
    | some (.interface _) => none
    | some _ => do pure (.ta asserted (← zeroIn P asserted) (← opd x) ok)
    | none => none
  | .extract t i => do pure (.ex (← opd t) i)
  | .call c => match c.callee with
    | .value f => do pure (.cl (← opd f) (← opds c.args.toList))
    | .builtin b => do
      let args ← opds c.args.toList
      match b, c.argTypes.toList, args with
      | .len, [t], [x] => match P.underlying t with
        | some .string => pure (.lnS x)
        | some (.slice _) => pure (.lnL x)
        | some (.map _ _) => pure (.lnM x)
        | some (.array n _) => pure (.lenA n)
        | _ => none
      | .cap, [t], [x] => match P.underlying t with
        | some (.slice _) => pure (.cap x)
        | _ => none
      | .append, [t, t'], [s, x] => match P.underlying t, P.underlying t' with
        | some (.slice e), some u => do
          let z ← sizeIn P e
          let w ← bytesIn P e
          let v ← zeroIn P e
          bif Nat.ble w 10000 && (ones v.cells && Nat.beq v.cells.length z) && (match u with | .slice _ => true | .string => true | _ => false) then pure (.app z s x) else none
        | _, _ => none
      | .copy, t :: _, [d, s] => match P.underlying t with
        | some (.slice e) => do pure (.cpy (← sizeIn P e) d s)
        | _ => none
      | .min, _, x :: l => pure (.mn x l)
      | .max, _, x :: l => pure (.mx x l)
      | .recover, _, _ => pure .rcv
      | _, _, _ => none
    | .invoke _ _ => none
  | .defer c => match c.callee with
    | .value f => do pure (.df (← opd f) (← opds c.args.toList))
    | _ => none
  | .panic x => do pure (.pn (← opd x))
  | _ => none
/-- an operation of a region: where what comes of it goes, the guard. -/
def coper (P : Program) (nt : Nat) (ops : List Oper) (o : Oper) : Option CO :=
  match cop P o.op with
  | none => none
  | some a =>
    match (match o.dst with
      | none => some none
      | some d => bif Nat.blt d nt then some (some (pathOf d)) else none : Option (Option (List Bool))) with
    | none => none
    | some dst => match o.guard with
      | none => some ⟨dst, a, none⟩
      | some (j, b) => match ops[j]? with
        | some oj => match oj.dst with
          | some d => some ⟨dst, a, some (pathOf d, b)⟩
          | none => none
        | none => none
def copers (P : Program) (nt : Nat) (ops : List Oper) : List Oper → List (Option CO)
  | [] => []
  | o :: l => coper P nt ops o :: copers P nt ops l

/- runs of operations -/
noncomputable def ev (tm : Tr AV) (x : AX) : AV := match x with
  | .v a => a
  | .t p => match tm.getP p with
    | some a => a
    | none => .bot
noncomputable def evs (tm : Tr AV) : List AX → List AV
  | [] => []
  | x :: l => ev tm x :: evs tm l
noncomputable def evps (tm : Tr AV) : List (Nat × Nat × AX) → List (Nat × Nat × AV)
  | [] => []
  | (a, b, x) :: l => (a, b, ev tm x) :: evps tm l
def natOf (v : AV) : Option Nat := match v with
  | .int _ a => match a with
    | .c n => match n with
      | .ofNat n => some n
      | _ => none
    | _ => none
  | _ => none
noncomputable def optNat (tm : Tr AV) (x : Option AX) (d : Nat) : Option Nat := match x with
  | none => some d
  | some x => natOf (ev tm x)
noncomputable def optCap (tm : Tr AV) (x : Option AX) (d : Nat) : Option Nat := optNat tm x d
/-- l, h, m of a slice expression: within bounds. -/
noncomputable def bounds (tm : Tr AV) (len cap : Nat) (lo hi mx : Option AX) : Option (Nat × Nat × Nat) :=
  match optNat tm mx cap, optNat tm hi len, optNat tm lo 0 with
  | some m, some h, some l => bif Nat.ble m cap && (Nat.ble h m && (Nat.ble l h && (mx.isNone || hi.isSome))) then some (l, h, m) else none
  | _, _, _ => none

/-- what an operation comes to: a value and memory; a call; .. -/
inductive OR where
  | no
  | v (x : AV) (h : AH)
  | call (f : Nat) (args : List AV) (h : AH)
  | dfr (f : Nat) (args : List AV) (h : AH)
  | pan (x : AV) (h : AH)
  | rcv (h : AH)
def orV (v : Option AV) (h : AH) : OR := match v with
  | some x => .v x h
  | none => .no
def orH (h : Option AH) : OR := match h with
  | some h => .v .undef h
  | none => .no

/-- shifts: by so many as are known. -/
def shIn (o : BinOp) (k : IntKind) (a b : AI) : Option AV :=
  match b with
  | .c b => match a with
    | .c a => match ibin o k a b with
      | some n => some (.int k (.c n))
      | none => none
    | .s e => if b < 0 then none else some (.int k (.s (.op2 o k e (.lit b))))
  | .s _ => none
def findAV (hyp : Hyp) (o : BinOp) (a b : SX) : Option AV :=
  match hyp.find o a b with
  | some r => some (.bool r)
  | none => none
def divIn (o : BinOp) (k : IntKind) (a b : AI) : Option AV :=
  match b with
  | .c n => if n = 0 then none else some (.int k (.s (.op2 o k a.sx b.sx)))
  | .s _ => none
/-- of numbers that are not known. -/
def symIn (hyp : Hyp) (o : BinOp) (k : IntKind) (a b : AI) : Option AV :=
  match o with
  | .eql | .neq | .lss | .leq | .gtr | .geq => findAV hyp o a.sx b.sx
  | .quo | .rem => divIn o k a b
  | .shl | .shr => none
  | _ => some (.int k (.s (.op2 o k a.sx b.sx)))
def intIn (hyp : Hyp) (o : BinOp) (k : IntKind) (a b : AI) : Option AV :=
  match a, b with
  | .c x, .c y => match icmp o x y with
    | some r => some (.bool r)
    | none => match ibin o k x y with
      | some n => some (.int k (.c n))
      | none => none
  | a, b => symIn hyp o k a b
def isSh (o : BinOp) : Bool := match o with
  | .shl | .shr => true
  | _ => false
def binIn (hyp : Hyp) (o : BinOp) (x y : AV) : Option AV :=
  match x, y with
  | .int k a, .int k' b => bif isSh o then shIn o k a b else if k = k' then intIn hyp o k a b else none
  | .str s n, .str s' n' => match o with
    | .add => bif Nat.ble (Nat.add n n') most then some (.str (glue s n s') (Nat.add n n')) else none
    | _ => none
  | _, _ => none
noncomputable def cmpIn (P : Program) (hyp : Hyp) (h : AH) (t : Nat) (c g : Bool) (x y : AV) : Option Bool :=
  match x, y with
  | .int k a, .int k' b => if k = k' then (match a, b with
    | .c a, .c b => some (ieq a b)
    | a, b => hyp.find .eql a.sx b.sx) else none
  | .str s n, .str s' n' => some (Nat.beq n n' && Nat.beq s s')
  | .nilface, .nilface => bif c then eqIn P hyp h 20 t .nilface .nilface else none
  | .agg xs, .agg ys => bif g then none else eqIn P hyp h 20 t (.agg xs) (.agg ys)
  | x, y => eqIn P hyp h 20 t x y
def unIn (o : UnOp) (x : AV) : Option AV :=
  match x with
  | .int k a => match a with
    | .c n => match iun o k n with
      | some m => some (.int k (.c m))
      | none => none
    | .s e => match o with
      | .neg => some (.int k (.s (.op1 .neg k e)))
      | .xor => some (.int k (.s (.op1 .xor k e)))
      | _ => none
  | .bool b => match o with
    | .not => some (.bool (!b))
    | _ => none
  | _ => none
def bytesOf : List AV → Option (List Nat)
  | [] => some []
  | v :: l => match v with
    | .int .u8 (.c (.ofNat n)) => match bytesOf l with
      | some m => bif Nat.blt n 256 then some (n :: m) else none
      | none => none
    | _ => none
/-- entries of a map, by a key of a plain kind. -/
def keyEq (st : Bool) (k a : AV) : Option Bool :=
  bif st then
    match k, a with
    | .str s n, .str s' n' => some (Nat.beq n n' && Nat.beq s s')
    | _, _ => none
  else
    match k, a with
    | .int j (.c x), .int j' (.c y) => if j = j' then some (ieq x y) else none
    | _, _ => none
def keyOk (st : Bool) (k : AV) : Bool :=
  match k with
  | .int _ (.c _) => !st
  | .str _ _ => st
  | _ => false
def findIn (st : Bool) (k : AV) : List (AV × AV × Nat) → Nat → Option (Option (Nat × AV))
  | [], _ => some none
  | (a, v, _) :: es, i =>
    match keyEq st k a with
    | some true => some (some (i, v))
    | some false => findIn st k es (Nat.succ i)
    | none => none
noncomputable def lookIn (st : Bool) (h : AH) (zero : AV) (m k : AV) (ok : Bool) : Option AV :=
  bif keyOk st k then
    match (match m with
      | .nilmap => some []
      | .map b => match h.t.get b with
        | some (.map es _) => some es
        | _ => none
      | _ => none : Option (List (AV × AV × Nat))) with
    | none => none
    | some es => match findIn st k es 0 with
      | none => none
      | some r => match r with
        | some (_, v) => some (bif ok then .tup [v, .bool true] else v)
        | none => some (bif ok then .tup [zero, .bool false] else zero)
  else none
def setVal : List (AV × AV × Nat) → Nat → AV → AV → List (AV × AV × Nat)
  | [], _, _, _ => []
  | (_, _, n) :: es, 0, k, v => (k, v, n) :: es
  | e :: es, i + 1, k, v => e :: setVal es i k v
noncomputable def updIn (st : Bool) (h : AH) (m k v : AV) : Option AH :=
  bif keyOk st k then
    match m with
    | .map b => match h.t.get b with
      | some (.map es clock) => match findIn st k es 0 with
        | none => none
        | some r => match r with
          | some (i, _) => some (h.over b (.map (setVal es i k v) clock))
          | none => some (h.over b (.map (es ++ [(k, v, clock)]) (Nat.succ clock)))
      | _ => none
    | _ => none
  else none
/-- append: a slice, the new elements' cells, how many elements. -/
noncomputable def appIn (h : AH) (z : Nat) (s : AV) (new : List AV) (n : Nat) : OR :=
  match s with
  | .nilslice =>
    bif Nat.beq n 0 then .v .nilslice h else .v (.slice h.nx 0 n n z false) (h.new new true)
  | .slice b o len cap z' ex =>
    bif Nat.beq z z' then
      bif Nat.ble (Nat.add len n) cap then
        match h.wrs b (Nat.add o (Nat.mul len z)) new with
        | some h' => .v (.slice b o (Nat.add len n) cap z ex) h'
        | none => .no
      else
        match h.rds b o (Nat.mul len z) with
        | none => .no
        | some old =>
          bif ex then .v (.slice h.nx 0 (Nat.add len n) (Nat.add len n) z false) (h.new (old ++ new) true)
          else
            match h with
            | ⟨t, f, nx⟩ => match t.get b with
              | some (.cells bt bn sh fam co pl ro) =>
                bif ro then .no else
                let fam' := bif sh then fam else nx
                let ms := bif sh then (match f.get fam with | some ms => ms | none => []) else [b]
                let lo := Nat.add (Nat.add co o) (Nat.mul len z)
                let t1 := bif sh then t else t.set b (.cells bt bn true fam' co pl ro)
                .v (.slice nx 0 (Nat.add len n) (Nat.add len n) z false)
                  (AH.kills ⟨t1.set nx (.cells (Tr.ofList (old ++ new)) (Nat.mul (Nat.add len n) z) true fam' (Nat.add co o) pl false), f.set fam' (nx :: ms), Nat.succ nx⟩ fam' nx lo (Nat.add lo (Nat.mul n z)))
              | _ => .no
    else .no
  | _ => .no
def lenOf (v : AV) : Option Nat := match v with
  | .nilslice => some 0
  | .slice _ _ n _ _ _ => some n
  | .str _ n => some n
  | _ => none
noncomputable def firstIn (h : AH) (z n : Nat) (v : AV) : Option (List AV) := match v with
  | .nilslice => some []
  | .slice b o _ _ _ _ => h.rds b o (Nat.mul n z)
  | .str s _ => some (decN s n)
  | _ => none
def mn2 (x y : AV) : Option AV := match x, y with
  | .int k a, .int _ b => match a, b with
    | .c a, .c b => some (.int k (.c (bif !(ile a b) then b else a)))
    | a, b => some (.int k (.s (.mn a.sx b.sx)))
  | _, _ => none
def mx2 (x y : AV) : Option AV := match x, y with
  | .int k a, .int _ b => match a, b with
    | .c a, .c b => some (.int k (.c (bif !(ile b a) then b else a)))
    | a, b => some (.int k (.s (.mx a.sx b.sx)))
  | _, _ => none
def foldIn (f : AV → AV → Option AV) : AV → List AV → Option AV
  | x, [] => some x
  | x, y :: l => match f x y with
    | some z => foldIn f z l
    | none => none
/-- functions without a body, of which is known what they answer. -/
def indexByte (s c : Nat) : Nat → Nat → Option Nat
  | _, 0 => none
  | i, n + 1 => bif Nat.beq (chr s i) c then some i else indexByte s c (Nat.succ i) n
def externIn (name : String) (args : List AV) : Option AV :=
  if name = "internal/bytealg.IndexByteString" then
    match args with
    | [.str s n, .int .u8 (.c (.ofNat c))] => bif Nat.blt c 256 then (match indexByte s c 0 n with
      | some i => some (gi i)
      | none => some (.int .i64 (.c (.negSucc 0)))) else none
    | _ => none
  else none
/-- a call: of a function with a body, or of one that is known. -/
def hasBody (P : Program) (f : Nat) : Option (Option String) :=
  match P.funcs[f]? with
  | none => none
  | some fn => match fn.body with
    | some _ => if fn.name = "runtime.NumGoroutine" then none else some none
    | none => if fn.name = "internal/bytealg.IndexByteString" ∧ fn.origin = "" then some (some fn.name) else none
noncomputable def callIn (P : Program) (f : AV) (args : List AV) (h : AH) : OR :=
  match f with
  | .func fn first cap => match fn with
    | .func g => match hasBody P g with
      | some none => .call g (first ++ (args ++ cap)) h
      | some (some name) => orV (externIn name (first ++ (args ++ cap))) h
      | none => .no
    | _ => .no
  | _ => .no

noncomputable def xop (P : Program) (hyp : Hyp) (tm : Tr AV) (h : AH) (o : AO') : OR :=
  match o with
  | .mv x => .v (ev tm x) h
  | .pk c a b => match ev tm c with
    | .bool t => .v (bif t then ev tm a else ev tm b) h
    | _ => .no
  | .al cs => .v (.ptr h.nx 0) (h.new cs true)
  | .bx x => match (ev tm x).cells with
    | cs => bif ones cs then .v (.ptr h.nx 0) (h.new cs true) else .no
  | .bd zs ps => match fillIn zs (evps tm ps) with
    | some cs => .v (.agg cs) h
    | none => .no
  | .bs z len zs ps => match fillIn (repeatIn zs len) (evps tm ps) with
    | some cs => bif ones cs then .v (.slice h.nx 0 len len z true) (h.new cs true) else .no
    | none => .no
  | .ld n a => match ev tm a with
    | .ptr b o => orV (loadOf n h b o) h
    | _ => .no
  | .st n a x => match ev tm a with
    | .ptr b o => match (ev tm x).cells with
      | cs => bif Nat.beq cs.length n then orH (h.wrs b o cs) else .no
    | _ => .no
  | .nc x => match ev tm x with
    | .ptr b o => .v (.ptr b o) h
    | .func (.func f) a b => .v (.func (.func f) a b) h
    | .iface t v => .v (.iface t v) h
    | _ => .no
  | .bin o x y => orV (binIn hyp o (ev tm x) (ev tm y)) h
  | .eq neg t c g x y => match cmpIn P hyp h t c g (ev tm x) (ev tm y) with
    | some r => .v (.bool (bif neg then !r else r)) h
    | none => .no
  | .un o x => orV (unIn o (ev tm x)) h
  | .cv k x => match ev tm x with
    | .int _ a => match a with
      | .c n => .v (.int k (.c (wr k n))) h
      | .s e => .v (.int k (.s (.conv k e))) h
    | _ => .no
  | .s2s x => match ev tm x with
    | .str s n => .v (.str s n) h
    | _ => .no
  | .s2b x => match ev tm x with
    | .str s n => .v (.slice h.nx 0 n n 1 false) (h.new (decN s n) false)
    | _ => .no
  | .b2s x => match ev tm x with
    | .nilslice => .v (.str 0 0) h
    | .slice b o len _ z _ => bif Nat.beq z 1 then (match h.rds b o len with
      | some l => (match bytesOf l with
        | some m => .v (.str (encN m) len) h
        | none => .no)
      | none => .no) else .no
    | _ => .no
  | .mi t x => .v (.iface t (ev tm x)) h
  | .mf fn first cap => .v (.func fn (evs tm first) (evs tm cap)) h
  | .mm => .v (.map h.nx) (h.mk' (.map [] 0))
  | .ms z zs l c => match natOf (ev tm l), natOf (ev tm c) with
    | some l, some c => bif Nat.ble l c && Nat.ble c most then .v (.slice h.nx 0 l c z true) (h.new (repeatIn zs c) true) else .no
    | _, _ => .no
  | .sa n z x lo hi mx => match ev tm x with
    | .ptr b o => match h.t.get b with
      | some (.cells _ bn _ _ _ _ _) => bif Nat.ble (Nat.add o (Nat.mul n z)) bn then
          (match bounds tm n n lo hi mx with
          | some (l, h', m) => .v (.slice b (Nat.add o (Nat.mul l z)) (Nat.sub h' l) (Nat.sub m l) z true) h
          | none => .no) else .no
      | _ => .no
    | _ => .no
  | .ss x lo hi => match ev tm x with
    | .str s n => match bounds tm n n lo hi none with
      | some (l, h', _) => .v (.str (cut s l h') (Nat.sub h' l)) h
      | none => .no
    | _ => .no
  | .sl z x lo hi mx => match ev tm x with
    | .nilslice => match bounds tm 0 0 lo hi mx with
      | some _ => .v .nilslice h
      | none => .no
    | .slice b o len cap z' ex => bif Nat.beq z z' then (match bounds tm len cap lo hi mx with
      | some (l, h', m) => .v (.slice b (Nat.add o (Nat.mul l z)) (Nat.sub h' l) (Nat.sub m l) z (ex || mx.isSome)) h
      | none => .no) else .no
    | _ => .no
  | .fa off x => match ev tm x with
    | .ptr b o => .v (.ptr b (Nat.add o off)) h
    | _ => .no
  | .fd n off x => match ev tm x with
    | .agg cs => orV (partOf n cs off) h
    | _ => .no
  | .ia n z x i => match natOf (ev tm i) with
    | some i => match ev tm x with
      | .ptr b o => bif Nat.blt i n then .v (.ptr b (Nat.add o (Nat.mul i z))) h else .no
      | _ => .no
    | none => .no
  | .ix z x i => match natOf (ev tm i) with
    | some i => match ev tm x with
      | .slice b o len _ _ _ => bif Nat.blt i len then .v (.ptr b (Nat.add o (Nat.mul i z))) h else .no
      | _ => .no
    | none => .no
  | .ea n z p x i => match natOf (ev tm i) with
    | some i => match ev tm x with
      | .agg cs => bif Nat.blt i n then orV (partOf p cs (Nat.mul i z)) h else .no
      | _ => .no
    | none => .no
  | .es x i => match natOf (ev tm i) with
    | some i => match ev tm x with
      | .str s n => bif Nat.blt i n then .v (.int .u8 (.c (.ofNat (chr s i)))) h else .no
      | _ => .no
    | none => .no
  | .lk st zero m k ok => orV (lookIn st h zero (ev tm m) (ev tm k) ok) h
  | .up st m k v => orH (updIn st h (ev tm m) (ev tm k) (ev tm v))
  | .ta t zero x ok => match ev tm x with
    | .nilface => bif ok then .v (.tup [zero, .bool false]) h else .no
    | .iface t' v => bif Nat.beq t' t then .v (bif ok then .tup [v, .bool true] else v) h else
      bif ok then .v (.tup [zero, .bool false]) h else .no
    | _ => .no
  | .ex x i => match ev tm x with
    | .tup vs => orV (nth vs i) h
    | _ => .no
  | .cl f args => callIn P (ev tm f) (evs tm args) h
  | .df f args => match callIn P (ev tm f) (evs tm args) h with
    | .call g l h => .dfr g l h
    | _ => .no
  | .pn x => match ev tm x with
    | .iface t v => .pan (.iface t v) h
    | _ => .no
  | .lnS x => match ev tm x with
    | .str _ n => .v (gi n) h
    | _ => .no
  | .lnL x => match ev tm x with
    | .nilslice => .v (gi 0) h
    | .slice _ _ n _ _ _ => .v (gi n) h
    | _ => .no
  | .lnM x => match ev tm x with
    | .map b => match h.t.get b with
      | some (.map es _) => .v (gi es.length) h
      | _ => .no
    | .nilmap => .v (gi 0) h
    | _ => .no
  | .lenA n => .v (gi n) h
  | .cap x => match ev tm x with
    | .nilslice => .v (gi 0) h
    | .slice _ _ _ c _ ex => bif ex then .v (gi c) h else .no
    | _ => .no
  | .app z s x => match ev tm s with
    | s => match lenOf s, lenOf (ev tm x) with
      | some len, some n => bif Nat.ble (Nat.add len n) most then
          (match firstIn h z n (ev tm x) with
          | some new => bif Nat.beq new.length (Nat.mul n z) && ones new then appIn h z s new n else .no
          | none => .no)
        else .no
      | _, _ => .no
  | .cpy z d s => match ev tm d with
    | .nilslice => match lenOf (ev tm s) with
      | some _ => .v (gi 0) h
      | none => .no
    | .slice b o dl _ z' _ => match lenOf (ev tm s) with
      | some sl => match (bif Nat.ble sl dl then sl else dl) with
        | n => match firstIn h z n (ev tm s) with
          | some new => bif Nat.beq z z' && Nat.beq new.length (Nat.mul n z) then
              (match h.wrs b o new with
              | some h' => .v (gi n) h'
              | none => .no) else .no
          | none => .no
      | none => .no
    | _ => .no
  | .mn x l => orV (foldIn mn2 (ev tm x) (evs tm l)) h
  | .mx x l => orV (foldIn mx2 (ev tm x) (evs tm l)) h
  | .rcv => .rcv h

/- frames and steps -/
inductive AIt where
  | code (c : Code)
  | inBlock (id : Nat)
  | inLoop (c : Code)
  | inScope (c : Code)
  | reg (ops : Array Oper) (i : Nat) (l : List (Option CO))
inductive AMode where
  | run
  | returning
  | panicking (chain : List (AV × Bool))
structure AF where
  fn : Nat
  nt : Nat
  tm : Tr AV
  todo : List AIt
  defers : List (Nat × List AV)
  mode : AMode
  deferred : Bool
inductive AEnd where
  | ret (v : AV)
  | pan (chain : List (AV × Bool))
structure St where
  fr : AF
  cs : List AF
  h : AH
inductive AR where
  | no
  | go (s : St)
  | fin (e : AEnd) (h : AH)

noncomputable def putP (tm : Tr AV) (dst : Option (List Bool)) (v : AV) : Tr AV :=
  match dst with
  | none => tm
  | some p => Tr.setP (some v) p tm
noncomputable def argsIn : List AV → Nat → Tr AV → Tr AV
  | [], _, t => t
  | a :: l, i, t => argsIn l (Nat.succ i) (t.set i a)
noncomputable def AF.enter (P : Program) (f : Nat) (args : List AV) (deferred : Bool) : Option AF :=
  match P.funcs[f]? with
  | some fn => match fn.body with
    | some c => some ⟨f, fn.ntmps, argsIn args 0 .leaf, [.code c], [], .run, deferred⟩
    | none => none
  | none => none
def exitIn (id : Nat) : List AIt → Option (List AIt)
  | .inBlock id' :: k => bif Nat.beq id' id then some k else exitIn id k
  | _ :: k => exitIn id k
  | [] => none
def gotoAt (l : Nat) : List AIt → Option (List AIt)
  | .inScope body :: k =>
    match findLabel body l with
    | some rest => some (.code rest :: .inScope body :: k)
    | none => gotoAt l k
  | _ :: k => gotoAt l k
  | [] => none
/-- is an operation wanted, by its guard? -/
noncomputable def wantedIn (tm : Tr AV) (g : Option (List Bool × Bool)) : Option Bool :=
  match g with
  | none => some true
  | some (p, want) => match tm.getP p with
    | some v => match v with
      | .bool b => some (b == want)
      | .tup [] => some false
      | _ => none
    | none => none
/-- a value comes to a frame that waits for it. -/
noncomputable def AF.finish (fr : AF) (v : AV) : Option AF :=
  match fr with
  | ⟨fn, nt, tm, todo, df, mode, d⟩ => match mode with
    | .run => match todo with
      | .reg ops i (some o :: rest) :: k => some ⟨fn, nt, putP tm o.dst v, .reg ops (Nat.succ i) rest :: k, df, .run, d⟩
      | _ => none
    | _ => none
def AF.raise (fr : AF) (c : List (AV × Bool)) : AF :=
  match fr with
  | ⟨fn, nt, tm, todo, df, mode, d⟩ => match mode with
    | .panicking old => ⟨fn, nt, tm, todo, df, .panicking (c ++ old), d⟩
    | _ => ⟨fn, nt, tm, todo, df, .panicking c, d⟩
def settleIn (m : AMode) : AMode := match m with
  | .panicking ((_, true) :: _) => .returning
  | m => m
noncomputable def resIn (P : Program) (h : AH) (tm : Tr AV) : List ResultVar → Option (List AV)
  | [] => some []
  | r :: l => match (match r with
      | .tmp t => tm.get t
      | .cell a t => match tm.get a with
        | some (.ptr b o) => match aggIn P t with
          | some n => loadOf n h b o
          | none => none
        | _ => none : Option AV) with
    | some v => match resIn P h tm l with
      | some m => some (v :: m)
      | none => none
    | none => none
noncomputable def resultIn (P : Program) (h : AH) (fn : Nat) (tm : Tr AV) : Option AV :=
  match P.funcs[fn]? with
  | some fn => match resIn P h tm fn.results.toList with
    | some vs => match vs with
      | [v] => some v
      | vs => some (.tup vs)
    | none => none
  | none => none

/- a region whose order is open -/
inductive Kind where
  | r | a | w
  deriving DecidableEq
def kindOf (o : AO') : Kind := match o with
  | .st .. | .up .. | .cl .. | .df .. | .pn .. | .app .. | .cpy .. | .rcv => .w
  | .al .. | .bx .. | .bs .. | .ms .. | .mm | .s2b .. => .a
  | _ => .r
def maskIn : List Edge → List Nat → Nat → Option Nat
  | [], _, _ => some 0
  | e :: es, ms, i => match maskIn es ms i with
    | none => none
    | some m => match e.ground with
      | .textOnly _ => some m
      | .gcOnly _ => some m
      | _ => bif Nat.blt e.on i then (match ms[e.on]? with
        | some x => some (Nat.lor m (Nat.lor (Nat.shiftLeft 1 e.on) x))
        | none => none) else none
def masksIn : List Oper → List Nat → Nat → Option (List Nat)
  | [], ms, _ => some ms
  | o :: os, ms, i => match maskIn o.after.toList ms i with
    | some m => masksIn os (ms ++ [m]) (Nat.succ i)
    | none => none
def ltIn (ms : List Nat) (i j : Nat) : Bool := match ms[j]? with
  | some m => Nat.beq (Nat.mod (Nat.shiftRight m i) 2) 1
  | none => false
/-- the slots that an operation reads. -/
def namesIn (ops : List Oper) (o : Oper) : List Nat :=
  (match o.guard with
  | some (j, _) => match ops[j]? with
    | some oj => oj.dst.toList
    | none => []
  | none => []) ++ o.op.operands.toList.filterMap fun
    | .tmp t => some t
    | _ => none
/-- each slot is written by one operation at most; who reads it stands in an order to that one. -/
def slotsOk (ops : List Oper) (ms : List Nat) (all : List (Oper × Nat)) : List (Oper × Nat) → Bool
  | [] => true
  | (o, i) :: l =>
    (match o.dst with
    | none => true
    | some d => all.all fun (p : Oper × Nat) => Nat.beq p.2 i || (!(p.1.dst == some d) && (!((namesIn ops p.1).contains d) || (ltIn ms i p.2 || ltIn ms p.2 i))))
    && slotsOk ops ms all l
/-- a plan of an operation: its number; its kind; ahead of it those of the kinds that it does not stand in an order to; may it end all? what is forgotten then. -/
structure Pl where
  i : Nat
  k : Kind
  un : List Nat
  last : Bool
  fg : List Nat
  co : CO
def lastsOk (ms : List Nat) (i : Nat) : Nat → Nat → Bool
  | _, 0 => true
  | j, n + 1 => ltIn ms i j && lastsOk ms i (Nat.succ j) n
/-- those ahead of an operation, of such a kind, that do not stand in an order to it. -/
def unOf (f : Kind → Bool) (ms : List Nat) (i : Nat) : List CO → Nat → List Nat
  | [], _ => []
  | c :: l, j => bif Nat.blt j i && (f (kindOf c.op) && !(ltIn ms j i)) then j :: unOf f ms i l (Nat.succ j) else unOf f ms i l (Nat.succ j)
def isR (k : Kind) : Bool := match k with
  | .r => true
  | _ => false
def isW (k : Kind) : Bool := match k with
  | .w => true
  | _ => false
def notR (k : Kind) : Bool := match k with
  | .r => false
  | _ => true
def dstOf (ops : List Oper) (j : Nat) : Option Nat := match ops[j]? with
  | some o => o.dst
  | none => none
def axsO : Option AX → List AX
  | none => []
  | some x => [x]
def axsP : List (Nat × Nat × AX) → List AX
  | [] => []
  | (_, _, x) :: l => x :: axsP l
/-- the operands of an operation. -/
def axs (a : AO') : List AX := match a with
  | .mv x | .bx x | .nc x | .un _ x | .cv _ x | .s2s x | .s2b x | .b2s x | .mi _ x | .fa _ x | .fd _ _ x | .ta _ _ x _ | .ex x _ | .pn x | .lnS x | .lnL x | .lnM x | .cap x | .ld _ x => [x]
  | .pk a b c => [a, b, c]
  | .al _ | .mm | .lenA _ | .rcv => []
  | .bd _ ps => axsP ps
  | .bs _ _ _ ps => axsP ps
  | .st _ a b | .bin _ a b | .eq _ _ _ _ a b | .ms _ _ a b | .ia _ _ a b | .ix _ a b | .ea _ _ _ a b | .es a b | .lk _ _ a b _ | .app _ a b | .cpy _ a b => [a, b]
  | .mf _ a b => a ++ b
  | .sa _ _ x lo hi mx | .sl _ x lo hi mx => x :: (axsO lo ++ (axsO hi ++ axsO mx))
  | .ss x lo hi => x :: (axsO lo ++ axsO hi)
  | .up _ a b c => [a, b, c]
  | .cl f l | .df f l => f :: l
  | .mn x l | .mx x l => x :: l
def covered (names : List Nat) : List AX → Bool
  | [] => true
  | x :: l => (match x with
    | .v _ => true
    | .t p => names.any fun t => decide (pathOf t = p)) && covered names l
def coveredG (names : List Nat) (g : Option (List Bool × Bool)) : Bool := match g with
  | none => true
  | some (p, _) => names.any fun t => decide (pathOf t = p)
def notA (k : Kind) : Bool := match k with
  | .a => false
  | _ => true
def isAl (o : Op) : Bool := match o with
  | .alloc _ | .box .. | .buildSlice .. | .makeMap .. | .makeSlice .. | .convert .. => true
  | _ => false
def planOne (ops : List Oper) (ms : List Nat) (total : Nat) (cos : List CO) (co : CO) (i : Nat) : Option Pl :=
  bif (match ops[i]? with
    | some o => (covered (namesIn ops o) (axs co.op) && coveredG (namesIn ops o) co.guard) && (isAl o.op || notA (kindOf co.op))
    | none => false) then
    match kindOf co.op with
    | .w => match unOf notR ms i cos 0 with
      | [] => match unOf isR ms i cos 0 with
        | un => some ⟨i, .w, un, lastsOk ms i (Nat.succ i) (Nat.sub total (Nat.succ i)), un.filterMap (dstOf ops), co⟩
      | _ => none
    | .a => some ⟨i, .a, [], false, [], co⟩
    | .r => some ⟨i, .r, unOf isW ms i cos 0, false, [], co⟩
  else none
def plansIn (ops : List Oper) (ms : List Nat) (total : Nat) (cos : List CO) : List CO → Nat → Option (List Pl)
  | [], _ => some []
  | c :: l, i => match planOne ops ms total cos c i with
    | none => none
    | some p => match plansIn ops ms total cos l (Nat.succ i) with
      | some ps => some (p :: ps)
      | none => none
def allSome : List (Option CO) → Option (List CO)
  | [] => some []
  | c :: l => match c with
    | none => none
    | some c => match allSome l with
      | some m => some (c :: m)
      | none => none
def planOf (P : Program) (nt : Nat) (ops : Array Oper) : Option (List Pl) :=
  match masksIn ops.toList [] 0 with
  | none => none
  | some ms => bif slotsOk ops.toList ms ops.toList.zipIdx ops.toList.zipIdx then
      match allSome (copers P nt ops.toList ops.toList) with
      | some cos => plansIn ops.toList ms ops.toList.length cos cos 0
      | none => none
    else none

structure DS where
  tm : Tr AV
  h : AH
  pa : List (Nat × AO)
  defers : List (Nat × List AV)
  rs : List (Nat × AO' × Tr AV × AV)
  ws : List (Nat × AH)
inductive DR where
  | no
  | go (d : DS)
  | pan (tm : Tr AV) (chain : List (AV × Bool)) (h : AH) (defers : List (Nat × List AV))
def mem (i : Nat) : List Nat → Bool
  | [] => false
  | j :: l => Nat.beq i j || mem i l
noncomputable def again (P : Program) (hyp : Hyp) (h : AH) (o : AO') (tm : Tr AV) (v : AV) : Bool :=
  match xop P hyp tm h o with
  | .v v' _ => AV.same v' v
  | _ => false
noncomputable def againAll (P : Program) (hyp : Hyp) (h : AH) (un : List Nat) : List (Nat × AO' × Tr AV × AV) → Bool
  | [] => true
  | (j, o, tm, v) :: l => (!(mem j un) || again P hyp h o tm v) && againAll P hyp h un l
noncomputable def aheadAll (P : Program) (hyp : Hyp) (o : AO') (tm : Tr AV) (v : AV) (un : List Nat) : List (Nat × AH) → Bool
  | [] => true
  | (w, h) :: l => (!(mem w un) || again P hyp h o tm v) && aheadAll P hyp o tm v un l
noncomputable def forgetIn : List Nat → Tr AV → Tr AV
  | [], tm => tm
  | d :: l, tm => forgetIn l (tm.del d)
/-- new rows, each by its name. -/
noncomputable def AH.puts (h : AH) : List (Nat × AO) → AH
  | [] => h
  | (b, o) :: l => (AH.puts h l).over b o
noncomputable def drawW (P : Program) (hyp : Hyp) (p : Pl) (d : DS) (v : AV) (h' : AH) (df : List (Nat × List AV)) : DR :=
  match d with
  | ⟨tm, h, _, _, rs, ws⟩ => bif againAll P hyp h' p.un rs then .go ⟨putP tm p.co.dst v, h', [], df, rs, (p.i, h) :: ws⟩ else .no
noncomputable def drawD (p : Pl) (d : DS) (c : List (AV × Bool)) (h' : AH) : DR :=
  bif p.last then .pan (forgetIn p.fg d.tm) c h' d.defers else .no
noncomputable def drawOne (P : Program) (hyp : Hyp) (call : Nat → List AV → AH → Option (AEnd × AH)) (nx0 : Nat) (p : Pl) (d : DS) : DR :=
  match wantedIn d.tm p.co.guard with
  | none => .no
  | some false => match d with
    | ⟨tm, h, pa, df, rs, ws⟩ => .go ⟨putP tm p.co.dst .undef, h, pa, df, (p.i, .mv (.v .undef), tm, .undef) :: rs, ws⟩
  | some true =>
    match p.k with
    | .w =>
      match xop P hyp d.tm (d.h.puts d.pa) p.co.op with
      | .v v h' => drawW P hyp p d v h' d.defers
      | .dfr g args h' => drawW P hyp p d .undef h' ((g, args) :: d.defers)
      | .call f args h' => match call f args h' with
        | some (.ret v, h'') => drawW P hyp p d v h'' d.defers
        | some (.pan c, h'') => drawD p d c h''
        | none => .no
      | .pan v h' => drawD p d [(v, false)] h'
      | _ => .no
    | .a =>
      match xop P hyp d.tm ⟨.leaf, .leaf, Nat.add nx0 p.i⟩ p.co.op with
      | .v v h' => match h'.t.get (Nat.add nx0 p.i) with
        | some o => match d with
          | ⟨tm, h, pa, df, rs, ws⟩ => .go ⟨putP tm p.co.dst v, h, (Nat.add nx0 p.i, o) :: pa, df, rs, ws⟩
        | none => .no
      | _ => .no
    | .r =>
      match xop P hyp d.tm d.h p.co.op with
      | .v v _ => match d with
        | ⟨tm, h, pa, df, rs, ws⟩ => bif aheadAll P hyp p.co.op tm v p.un ws then .go ⟨putP tm p.co.dst v, h, pa, df, (p.i, p.co.op, tm, v) :: rs, ws⟩ else .no
      | _ => .no
noncomputable def drawAll (P : Program) (hyp : Hyp) (call : Nat → List AV → AH → Option (AEnd × AH)) (nx0 : Nat) : List Pl → DS → DR
  | [], d => .go d
  | p :: l, d => match drawOne P hyp call nx0 p d with
    | .go d' => drawAll P hyp call nx0 l d'
    | r => r
noncomputable def drawIn (P : Program) (hyp : Hyp) (call : Nat → List AV → AH → Option (AEnd × AH)) (ps : List Pl) (tm : Tr AV) (h : AH) (df : List (Nat × List AV)) : DR :=
  match h with
  | ⟨t, f, nx⟩ => drawAll P hyp call nx ps ⟨tm, ⟨t, f, Nat.add nx ps.length⟩, [], df, [], []⟩

def recoverIn : List AF → Option (AV × List AF)
  | c :: cs => match c with
    | ⟨fn, nt, tm, todo, df, mode, d⟩ => match mode with
      | .panicking ((v, false) :: older) => some (v, ⟨fn, nt, tm, todo, df, .panicking ((v, true) :: older), d⟩ :: cs)
      | _ => none
  | [] => none

/-- the operations of a region in their order, as far as that goes without a call. -/
inductive RG where
  | no
  | done (tm : Tr AV) (h : AH) (df : List (Nat × List AV)) (cs : List AF)
  | call (tm : Tr AV) (i : Nat) (l : List (Option CO)) (df : List (Nat × List AV)) (cs : List AF) (f : Nat) (args : List AV) (h : AH)
  | pan (tm : Tr AV) (i : Nat) (l : List (Option CO)) (df : List (Nat × List AV)) (cs : List AF) (v : AV) (h : AH)
noncomputable def regIn (P : Program) (hyp : Hyp) (dfd : Bool) (l : List (Option CO)) : Nat → Tr AV → AH → List (Nat × List AV) → List AF → RG :=
  List.rec (motive := fun _ => Nat → Tr AV → AH → List (Nat × List AV) → List AF → RG)
    (fun _ tm h df cs => .done tm h df cs)
    (fun c rest go i tm h df cs => Option.casesOn c .no (fun o =>
      match wantedIn tm o.guard with
      | none => .no
      | some false => go (Nat.succ i) (putP tm o.dst .undef) h df cs
      | some true =>
        match xop P hyp tm h o.op with
        | .no => .no
        | .v v h' => go (Nat.succ i) (putP tm o.dst v) h' df cs
        | .dfr g args h' => go (Nat.succ i) (putP tm o.dst .undef) h' ((g, args) :: df) cs
        | .call f args h' => .call tm i (some o :: rest) df cs f args h'
        | .pan v h' => .pan tm i (some o :: rest) df cs v h'
        | .rcv h' =>
          bif dfd then
            match cs with
            | [] => .no
            | c :: cs' => match recoverIn (c :: cs') with
              | some (v, cs'') => go (Nat.succ i) (putP tm o.dst v) h' df cs''
              | none => go (Nat.succ i) (putP tm o.dst .nilface) h' df (c :: cs')
          else go (Nat.succ i) (putP tm o.dst .nilface) h' df cs)) l

noncomputable def stepReg (P : Program) (sm : Nat → List AV → AH → Option (AEnd × AH)) (fn nt : Nat) (dfd : Bool) (ops : Array Oper) (k : List AIt) (r : RG) : AR :=
  match r with
  | .no => .no
  | .done tm h df cs => .go ⟨⟨fn, nt, tm, k, df, .run, dfd⟩, cs, h⟩
  | .call tm i l df cs f args h => match sm f args h with
    | some (.ret v, h') => match AF.finish ⟨fn, nt, tm, .reg ops i l :: k, df, .run, dfd⟩ v with
      | some fr => .go ⟨fr, cs, h'⟩
      | none => .no
    | some (.pan c, h') => .go ⟨AF.raise ⟨fn, nt, tm, .reg ops i l :: k, df, .run, dfd⟩ c, cs, h'⟩
    | none => match AF.enter P f args false with
      | some fr' => .go ⟨fr', ⟨fn, nt, tm, .reg ops i l :: k, df, .run, dfd⟩ :: cs, h⟩
      | none => .no
  | .pan tm i l df cs v h => .go ⟨⟨fn, nt, tm, .reg ops i l :: k, df, .panicking [(v, false)], dfd⟩, cs, h⟩

noncomputable def stepRun (P : Program) (hyp : Hyp) (sm call : Nat → List AV → AH → Option (AEnd × AH)) (fn nt : Nat) (tm : Tr AV) (todo : List AIt) (df : List (Nat × List AV)) (dfd : Bool) (cs : List AF) (h : AH) : AR :=
  match todo with
  | [] => .go ⟨⟨fn, nt, tm, [], df, .returning, dfd⟩, cs, h⟩
  | it :: k =>
    match it with
    | .inBlock _ => .go ⟨⟨fn, nt, tm, k, df, .run, dfd⟩, cs, h⟩
    | .inScope _ => .go ⟨⟨fn, nt, tm, k, df, .run, dfd⟩, cs, h⟩
    | .inLoop body => .go ⟨⟨fn, nt, tm, .code body :: .inLoop body :: k, df, .run, dfd⟩, cs, h⟩
    | .reg ops i l => stepReg P sm fn nt dfd ops k (regIn P hyp dfd l i tm h df cs)
    | .code c =>
      match c with
      | .ret => .go ⟨⟨fn, nt, tm, [], df, .returning, dfd⟩, cs, h⟩
      | .skip => .go ⟨⟨fn, nt, tm, k, df, .run, dfd⟩, cs, h⟩
      | .label _ => .go ⟨⟨fn, nt, tm, k, df, .run, dfd⟩, cs, h⟩
      | .seq a b => .go ⟨⟨fn, nt, tm, .code a :: .code b :: k, df, .run, dfd⟩, cs, h⟩
      | .cond c thn els => match c with
        | .tmp t => match tm.get t with
          | some (.bool b) => .go ⟨⟨fn, nt, tm, .code (bif b then thn else els) :: k, df, .run, dfd⟩, cs, h⟩
          | _ => .no
        | .const (.bool b) => .go ⟨⟨fn, nt, tm, .code (bif b then thn else els) :: k, df, .run, dfd⟩, cs, h⟩
        | _ => .no
      | .block id body => .go ⟨⟨fn, nt, tm, .code body :: .inBlock id :: k, df, .run, dfd⟩, cs, h⟩
      | .loop body => .go ⟨⟨fn, nt, tm, .code body :: .inLoop body :: k, df, .run, dfd⟩, cs, h⟩
      | .scope body => .go ⟨⟨fn, nt, tm, .code body :: .inScope body :: k, df, .run, dfd⟩, cs, h⟩
      | .exit id => match exitIn id k with
        | some k' => .go ⟨⟨fn, nt, tm, k', df, .run, dfd⟩, cs, h⟩
        | none => .no
      | .goto l => match gotoAt l k with
        | some k' => .go ⟨⟨fn, nt, tm, k', df, .run, dfd⟩, cs, h⟩
        | none => .no
      | .region _ ops draw =>
        bif draw then
          match planOf P nt ops with
          | none => .no
          | some ps => match drawIn P hyp call ps tm h df with
            | .go d => match d with
              | ⟨tm', h', pa, df', _, _⟩ => .go ⟨⟨fn, nt, tm', k, df', .run, dfd⟩, cs, h'.puts pa⟩
            | .pan tm' c h' df' => .go ⟨⟨fn, nt, tm', [], df', .panicking c, dfd⟩, cs, h'⟩
            | .no => .no
        else stepReg P sm fn nt dfd ops k (regIn P hyp dfd (copers P nt ops.toList ops.toList) 0 tm h df cs)
      | _ => .no

noncomputable def stepDefer (P : Program) (fr : AF) (cs : List AF) (h : AH) (d : Nat × List AV) : AR :=
  match AF.enter P d.1 d.2 true with
  | some fr' => .go ⟨fr', fr :: cs, h⟩
  | none => .no
def AF.settle (c : AF) : AF := match c with
  | ⟨fn, nt, tm, todo, df, mode, d⟩ => ⟨fn, nt, tm, todo, df, settleIn mode, d⟩
noncomputable def stepIn (P : Program) (hyp : Hyp) (sm call : Nat → List AV → AH → Option (AEnd × AH)) (s : St) : AR :=
  match s with
  | ⟨fr, cs, h⟩ => match fr with
    | ⟨fn, nt, tm, todo, df, mode, dfd⟩ =>
      match mode with
      | .run => stepRun P hyp sm call fn nt tm todo df dfd cs h
      | .returning =>
        match df with
        | d :: ds => stepDefer P ⟨fn, nt, tm, todo, ds, .returning, dfd⟩ cs h d
        | [] => match resultIn P h fn tm with
          | none => .no
          | some v => match cs with
            | [] => bif dfd then .no else .fin (.ret v) h
            | c :: cs =>
              bif dfd then .go ⟨c.settle, cs, h⟩ else
              match c.finish v with
              | some c' => .go ⟨c', cs, h⟩
              | none => .no
      | .panicking chain =>
        match df with
        | d :: ds => stepDefer P ⟨fn, nt, tm, todo, ds, .panicking chain, dfd⟩ cs h d
        | [] => match cs with
          | [] => bif dfd then .no else .fin (.pan chain) h
          | c :: cs => .go ⟨c.raise chain, cs, h⟩

/-- a call: by what is known of it, or by its run. -/
noncomputable def callS (sm call : Nat → List AV → AH → Option (AEnd × AH)) (f : Nat) (args : List AV) (h : AH) : Option (AEnd × AH) := match sm f args h with
  | some r => some r
  | none => call f args h
noncomputable def run (P : Program) (hyp : Hyp) (sm : Nat → List AV → AH → Option (AEnd × AH)) (n : Nat) : St → Option (AEnd × AH) :=
  Nat.rec (motive := fun _ => St → Option (AEnd × AH)) (fun _ => none)
    (fun _ go s => match stepIn P hyp sm (callS sm fun f args h => match AF.enter P f args false with | some fr => go ⟨fr, [], h⟩ | none => none) s with
      | .go s' => go s'
      | .fin e h => some (e, h)
      | .no => none) n
noncomputable def callOf (P : Program) (hyp : Hyp) (sm : Nat → List AV → AH → Option (AEnd × AH)) (n : Nat) (f : Nat) (args : List AV) (h : AH) : Option (AEnd × AH) :=
  match AF.enter P f args false with
  | some fr => run P hyp sm n ⟨fr, [], h⟩
  | none => none
noncomputable def steps (P : Program) (hyp : Hyp) (sm : Nat → List AV → AH → Option (AEnd × AH)) (fuel : Nat) (n : Nat) : St → Option St :=
  Nat.rec (motive := fun _ => St → Option St) (fun s => some s)
    (fun _ go s => match stepIn P hyp sm (callS sm (callOf P hyp sm fuel)) s with
      | .go s' => go s'
      | _ => none) n

end Go.Am
