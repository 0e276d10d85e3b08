/- The engine, part 1: what a call's contract says, and the abstract machine's operations. For every program. -/
import Derived.Test.YtbkmbiccdhnibaaE0
import Derived.Laws.Entries
import Derived.WalkArith
set_option linter.unusedVariables false
namespace Go.Eng
open Go.RowKit

def cxA (w : World) (Z : Nat → Prop) : Cx := ⟨w.heap, Z, fun _ => none, fun _ => none, fun _ => False⟩

/-- What lies there when a call is back. -/
structure Ret (w0 : World) (Z0 : Nat → Prop) (T : Option Tok) (cx : Cx) (w : World) : Prop where
  h : cx.h = w.heap
  tk : cx.tk = fun t => if t = 0 then T else none
  U : cx.U = fun g => g = 0
  Zlt : ∀ b, cx.Z b → b < w.heap.size
  Znew : ∀ b, cx.Z b → Z0 b ∨ w0.heap.size ≤ b
  tok : ∀ T0, T = some T0 → T0.g = 0 ∧ (cx.ρ 0 = none → T0.cs = []) ∧ ∀ b, cx.ρ 0 = some b → TokAt (cxA w cx.Z) T0 b ∧ w0.heap.size ≤ b ∧ ¬ cx.Z b
  below : Below w0.heap.size w0 w

/-- Is it a function with a body? -/
def Ent (P : Program) (f : FuncId) : Prop := ∃ fn c, P.funcs[f]? = some fn ∧ fn.body = some c ∧ (fn.name == "runtime.NumGoroutine") = false
/-- The contract of a call: at these arguments it returns this; a row of its own making may come with it (token 0). -/
def ACall (P : Program) (f : FuncId) (args : List AV) (r : AV) (T : Option Tok) : Prop :=
  Ent P f ∧ ∀ (w : World) (vargs : Array Value) (Z0 : Nat → Prop), (∀ b, Z0 b → b < w.heap.size) → RepL (cxA w Z0) args vargs.toList →
    Calls P f vargs w fun e w' => ∃ v cx, e = .returned v ∧ Ret w Z0 T cx w' ∧ Rep cx r v

inductive M where
  | ret
  | fail
  | getE (i : Nat) (k : AV → M)
  | getT (t : Nat) (k : Option Tok → M)
  | putE (i : Nat) (x : AV) (k : M)
  | putT (t : Nat) (T : Tok) (k : M)
  | call (b : Bool) (f : FuncId) (args : List AV) (N : Nat) (dst : Option Tmp) (st : Nat)

def AS.setE (s : AS) (i : Nat) (x : AV) : AS := { s with env := fun j => if j = i then x else s.env j }
def AS.setT (s : AS) (t : Nat) (T : Tok) : AS := { s with tk := fun j => if j = t then some T else s.tk j }

/-! ### Small words -/
def AV.cells? : AV → Option (List AV)
  | .agg cs => some cs
  | .tup _ => none
  | .dead => none
  | x => some [x]
def setAll {α : Type} (cs : List α) (off : Nat) : List α → List α
  | [] => cs
  | x :: r => setAll (cs.set off x) (off + 1) r
def absV : Value → AV
  | .bool b => .bool b
  | .int k n => .int k n
  | .string s => .str (bytesOf s)
  | .slice none 0 0 => .nilS
  | .pointer none => .nilP
  | _ => .dead
/-- A type's zero, cells, bytes. -/
def ti (P : Program) (t : TypeId) : Option (Option Value × Nat × Nat) := (P.info? t).map fun i => (i.zero, i.size, i.bytes)
def zcells (z : Value) : List AV := z.cells.toList.map absV
/-- A type's zero cells, their number, its bytes. -/
def zc (P : Program) (t : TypeId) : Option (List AV × Nat × Nat) :=
  match ti P t with
  | some (some z, size, by_) => if z.cells.size = size ∧ z.cells.all (·.oneCell') = true then some (zcells z, size, by_) else none
  | _ => none
def afill (place : Nat → Option (Nat × Nat)) (cells : List AV) : List (Nat × AV) → Option (List AV)
  | [] => some cells
  | (i, x) :: rest =>
    match place i with
    | none => none
    | some (off, size) =>
      match x.cells? with
      | none => none
      | some cs => if cs.length = size ∧ off + size ≤ cells.length then afill place (setAll cells off cs) rest else none
def places (P : Program) (fields : Array Field) : Option (List (Nat × Nat)) := fields.toList.mapM fun f => (ti P f.type).map fun i => (f.offset, i.2.1)
/-- n elements, each zero. -/
def zrep (z : List AV) (n : Nat) : List AV := (List.range (n * z.length)).map fun i => z.getD (i % z.length) .dead
def u8s (l : List Int) : List AV := l.map (AV.int .u8)
def intsOf : List AV → Option (List Int)
  | [] => some []
  | .int .u8 n :: r => (intsOf r).map (n :: ·)
  | _ => none
def u8n (l : List Int) : List Int := l.map fun n => ((n.toNat % 256 : Nat) : Int)
mutual
def AV.closed : AV → Bool
  | .own .. | .arr .. | .addr .. => false
  | .sl _ cs => closedL cs
  | .ptr cs _ => closedL cs
  | .fn _ cs => closedL cs
  | .agg cs => closedL cs
  | .tup cs => closedL cs
  | _ => true
def closedL : List AV → Bool
  | [] => true
  | x :: r => x.closed && closedL r
end
mutual
/-- Does it name no memory that is not its own? -/
def AV.noSl : AV → Bool
  | .sl n cs => n == 0 && cs.isEmpty
  | .ptr .. => false
  | .fn _ cs => noSlL cs
  | .agg cs => noSlL cs
  | .tup cs => noSlL cs
  | _ => true
def noSlL : List AV → Bool
  | [] => true
  | x :: r => x.noSl && noSlL r
end
mutual
/-- Row 0 of a call's is row d, stamp st, of the caller's. -/
def AV.ren (d st : Nat) : AV → AV
  | .own t g off n => if t = 0 ∧ g = 0 then .own d st off n else .dead
  | .arr t g off n => if t = 0 ∧ g = 0 then .arr d st off n else .dead
  | .addr t g off => if t = 0 ∧ g = 0 then .addr d st off else .dead
  | .fn _ _ => .dead
  | .sl n cs => if closedL cs = true then .sl n cs else .dead
  | .ptr cs off => if closedL cs = true then .ptr cs off else .dead
  | .agg cs => .agg (renL d st cs)
  | .tup cs => .tup (renL d st cs)
  | x => x
def renL (d st : Nat) : List AV → List AV
  | [] => []
  | x :: r => x.ren d st :: renL d st r
end
/-- Are two variables of a type equal, cell by cell? -/
def aeq (P : Program) : Nat → TypeId → List AV → List AV → Option Bool
  | 0, _, _, _ => none
  | d + 1, t, cs, ds =>
    match P.underlying t with
    | some .bool => (match cs, ds with | [.bool a], [.bool b] => some (a == b) | _, _ => none)
    | some (.int _) => (match cs, ds with | [.int k a], [.int k' b] => if k = k' then some (a == b) else none | _, _ => none)
    | some .string => (match cs, ds with | [.str a], [.str b] => some (a == b) | _, _ => none)
    | some (.struct fs) => if P.stoodInHeld t = false then
        fs.toList.foldr (fun f acc => if f.name = "_" then none else match ti P f.type with
          | some (_, size, _) => (match aeq P d f.type ((cs.drop f.offset).take size) ((ds.drop f.offset).take size), acc with
            | some a, some b => some (a && b)
            | _, _ => none)
          | none => none) (some true) else none
    | some (.array n e) => (match ti P e with
        | some (_, size, _) => (List.range n).foldr (fun i acc => match aeq P d e ((cs.drop (i * size)).take size) ((ds.drop (i * size)).take size), acc with
            | some a, some b => some (a && b)
            | _, _ => none) (some true)
        | none => none)
    | _ => none

/-! ### Operations -/
def out (N : Nat) (dst : Option Tmp) (x : AV) : M :=
  match dst with
  | some d => if d < N then .putE d x .ret else .fail
  | none => .ret
def ev (N : Nat) (o : Operand) (k : AV → M) : M :=
  match o with
  | .tmp t => if t < N then .getE t k else .fail
  | .const v => k (absV v)
  | .func f => k (.fn f [])
  | .global _ => .fail
def evL (N : Nat) : List Operand → (List AV → M) → M
  | [], k => k []
  | o :: r, k => ev N o fun x => evL N r fun xs => k (x :: xs)
def evP (N : Nat) : List (Nat × Operand) → (List (Nat × AV) → M) → M
  | [], k => k []
  | (i, o) :: r, k => ev N o fun x => evP N r fun xs => k ((i, x) :: xs)
/-- A new row (or box) for slot d. -/
def mk (N : Nat) (dst : Option Tmp) (st sz : Nat) (cs : List AV) (x : Nat → AV) : M :=
  match dst with
  | some d => if d < N then .putT d ⟨st, sz, cs⟩ (.putE d (x d) .ret) else .fail
  | none => .fail
def row? (t g : Nat) (k : Tok → M) : M := .getT t fun o =>
  match o with
  | some T => if T.g = g then k T else .fail
  | none => .fail
def isRow : TypeDesc → Bool
  | .struct _ => true
  | .array _ _ => true
  | _ => false
/-- The variable of a type that lies at a place among cells. -/
def ldV (P : Program) (t : TypeId) (cs : List AV) (off : Nat) : Option AV :=
  match P.underlying t, ti P t with
  | some d, some (_, size, _) => if isRow d = true then (if off + size ≤ cs.length then some (.agg ((cs.drop off).take size)) else none) else (if off < cs.length then some (cs.getD off .dead) else none)
  | _, _ => none
def ldCells (P : Program) (t : TypeId) (cs : List AV) (off : Nat) (k : AV → M) : M :=
  match ldV P t cs off with
  | some x => k x
  | none => .fail
def load (P : Program) (t : TypeId) (x : AV) (k : AV → M) : M :=
  match x with
  | .addr tk g off => row? tk g fun T => ldCells P t T.cs off k
  | .ptr cs off => ldCells P t cs off k
  | _ => .fail
def store (P : Program) (t : TypeId) (x y : AV) (k : M) : M :=
  match x, y.cells?, ti P t with
  | .addr tk g off, some cs, some (_, size, _) => row? tk g fun T => if cs.length = size ∧ off + size ≤ T.cs.length then .putT tk { T with cs := setAll T.cs off cs } k else .fail
  | _, _, _ => .fail
def aint (op : BinOp) (k1 : IntKind) (a : Int) (k2 : IntKind) (b : Int) (k : AV → M) : M :=
  match op with
  | .shl => if 0 ≤ b then k (.int k1 (k1.wrap (a * 2 ^ (min b.toNat k1.bits)))) else .fail
  | .shr => if 0 ≤ b then k (.int k1 (a.fdiv (2 ^ (min b.toNat k1.bits)))) else .fail
  | op => if k1 = k2 then
      match op with
      | .add => k (.int k1 (k1.wrap (a + b)))
      | .sub => k (.int k1 (k1.wrap (a - b)))
      | .mul => k (.int k1 (k1.wrap (a * b)))
      | .quo => if b ≠ 0 then k (.int k1 (k1.wrap (a.tdiv b))) else .fail
      | .rem => if b ≠ 0 then k (.int k1 (a.tmod b)) else .fail
      | .and => k (.int k1 (bits .and k1 a b))
      | .or => k (.int k1 (bits .or k1 a b))
      | .xor => k (.int k1 (bits .xor k1 a b))
      | .andNot => k (.int k1 (bits .andNot k1 a b))
      | .eql => k (.bool (a == b))
      | .neq => k (.bool (a != b))
      | .lss => k (.bool (decide (a < b)))
      | .leq => k (.bool (decide (a ≤ b)))
      | .gtr => k (.bool (decide (a > b)))
      | .geq => k (.bool (decide (a ≥ b)))
      | _ => .fail
    else .fail
/-- Is it surely nil (or not)? -/
def isNilS : AV → Option Bool
  | .nilS => some true
  | .em b => some b
  | .sl n _ => if n = 0 then none else some false
  | _ => none
def isNilP : AV → Option Bool
  | .nilP => some true
  | .addr .. => some false
  | .ptr .. => some false
  | _ => none
def rowT (P : Program) (t : TypeId) : Bool := match P.underlying t with
  | some d => isRow d
  | none => false
def eqOf (op : BinOp) (b : Bool) (k : AV → M) : M :=
  match op with
  | .eql => k (.bool b)
  | .neq => k (.bool (!b))
  | _ => .fail
def bin (P : Program) (op : BinOp) (t : TypeId) (x y : AV) (k : AV → M) : M :=
  match x with
  | .int k1 a => match y with
    | .int k2 b => aint op k1 a k2 b k
    | _ => .fail
  | .str a => match y with
    | .str b => match op with
      | .add => if a.length + b.length ≤ 4611686018427387904 then k (.str (a ++ b)) else .fail
      | .eql => k (.bool (a == b))
      | .neq => k (.bool (!(a == b)))
      | _ => .fail
    | _ => .fail
  | .bool a => match y, P.underlying t with
    | .bool b, some .bool => eqOf op (a == b) k
    | _, _ => .fail
  | .agg xs => match y with
    | .agg ys => if P.eqGuardType P.depth t = false ∧ rowT P t = true then (match aeq P 6 t xs ys with | some b => eqOf op b k | none => .fail) else .fail
    | _ => .fail
  | x => match y, P.underlying t with
    | .nilS, some (.slice _) => (match isNilS x with | some b => eqOf op b k | none => .fail)
    | .nilP, some (.pointer _) => (match isNilP x with | some b => eqOf op b k | none => .fail)
    | _, _ => .fail
def aun (op : UnOp) (x : AV) (k : AV → M) : M :=
  match op, x with
  | .not, .bool b => k (.bool (!b))
  | .neg, .int kd n => k (.int kd (kd.wrap (0 - n)))
  | _, _ => .fail
/-- The cells of a slice. -/
def cellsOf (x : AV) (k : Nat → List AV → M) : M :=
  match x with
  | .nilS => k 0 []
  | .sl n cs => k n cs
  | .own t g off n => row? t g fun T => k n ((T.cs.drop off).take (n * T.sz))
  | _ => .fail
def conv (P : Program) (N : Nat) (dst : Option Tmp) (st : Nat) (s d : TypeId) (x : AV) : M :=
  match P.underlying s, P.underlying d, x with
  | some _, some (.int kd), .int _ n => out N dst (.int kd (kd.wrap n))
  | some _, some .string, .str l => out N dst (.str l)
  | some .string, some (.slice e), .str l => (match P.underlying e, ti P e with
    | some (.int .u8), some (_, 1, _) => mk N dst st 1 (u8s l) fun d => .own d st 0 l.length
    | _, _ => .fail)
  | some (.slice e), some .string, x => (match P.underlying e with
    | some (.int .u8) => cellsOf x fun n cs => (match intsOf cs with
      | some l => if l.length = n then out N dst (.str (u8n l)) else .fail
      | none => .fail)
    | _ => .fail)
  | some (.slice e), some (.slice _), .own tk g off n => if s = d then (match P.underlying e with
    | some (.int .u8) => row? tk g fun T => if 0 < n then .putT tk T (out N dst (.own tk g off n)) else .fail
    | _ => .fail) else .fail
  | _, _, _ => .fail
def intOf? : AV → Option Int
  | .int _ n => some n
  | _ => none
/-- A slice expression's bounds: low, high, and the bound for both. -/
def loOf : Option AV → Option Int
  | none => some 0
  | some v => intOf? v
def bounds (n : Nat) (lo hi mx : Option AV) (k : Nat → Nat → Nat → M) : M :=
  match loOf lo with
  | none => .fail
  | some l => match mx, hi with
    | none, none => if 0 ≤ l ∧ l ≤ n then k l.toNat n n else .fail
    | none, some (.int _ h) => if 0 ≤ l ∧ l ≤ h ∧ h ≤ n then k l.toNat h.toNat n else .fail
    | some (.int _ m), some (.int _ h) => if 0 ≤ l ∧ l ≤ h ∧ h ≤ m ∧ m ≤ n then k l.toNat h.toNat m.toNat else .fail
    | _, _ => .fail
def slice (P : Program) (N : Nat) (dst : Option Tmp) (t : TypeId) (x : AV) (lo hi mx : Option AV) : M :=
  match P.underlying t, x with
  | some .string, .str s => if mx.isSome then .fail else bounds s.length lo hi none fun l h _ => out N dst (.str ((s.take h).drop l))
  | some (.slice e), .nilS => (match ti P e with
    | some _ => bounds 0 lo hi mx fun _ _ _ => out N dst .nilS
    | none => .fail)
  | some (.slice e), .sl n cs => (match ti P e with
    | some (_, size, _) => if cs.length = n * size then bounds n lo hi mx fun l h _ => out N dst (.sl (h - l) ((cs.take (h * size)).drop (l * size))) else .fail
    | none => .fail)
  | some (.slice e), .own tk g off n => (match ti P e with
    | some (_, size, _) => row? tk g fun T => if T.sz = size then bounds n lo hi mx fun l h _ => out N dst (.own tk g (off + l * size) (h - l)) else .fail
    | none => .fail)
  | some (.array n e), .addr tk g off => (match ti P e, hi, mx with
    | some (_, size, _), none, none => bounds n lo none none fun l h _ => if l < h then out N dst (.arr tk g (off + l * size) (h - l)) else .fail
    | _, _, _ => .fail)
  | some (.array n e), .ptr cs off => (match ti P e with
    | some (_, size, _) => if off + n * size ≤ cs.length then bounds n lo hi mx fun l h _ => out N dst (.sl (h - l) ((cs.drop (off + l * size)).take ((h - l) * size))) else .fail
    | none => .fail)
  | _, _ => .fail
def fieldAddr (P : Program) (t : TypeId) (x : AV) (f : Nat) (k : AV → M) : M :=
  match P.underlying t with
  | some (.struct fields) => (match fields[f]? with
    | some fd => (match ti P fd.type with
      | some (_, size, _) => if size = 0 then .fail else (match x with
        | .addr tk g off => k (.addr tk g (off + fd.offset))
        | .ptr cs off => k (.ptr cs (off + fd.offset))
        | _ => .fail)
      | none => .fail)
    | none => .fail)
  | _ => .fail
def part (P : Program) (t : TypeId) (cs : List AV) (off : Nat) (k : AV → M) : M := ldCells P t cs off k
def field (P : Program) (t : TypeId) (x : AV) (f : Nat) (k : AV → M) : M :=
  match P.underlying t, x with
  | some (.struct fields), .agg cs => (match fields[f]? with
    | some fd => part P fd.type cs fd.offset k
    | none => .fail)
  | _, _ => .fail
def indexAddr (P : Program) (t : TypeId) (x ix : AV) (k : AV → M) : M :=
  match ix with
  | .int _ i => (match P.underlying t, x with
    | some (.slice e), .own tk g off n => (match ti P e with
      | some (_, size, _) => row? tk g fun _ => if 0 ≤ i ∧ i < n then k (.addr tk g (off + i.toNat * size)) else .fail
      | none => .fail)
    | some (.slice e), .arr tk g off n => (match ti P e with
      | some (_, size, _) => row? tk g fun _ => if 0 ≤ i ∧ i < n then k (.addr tk g (off + i.toNat * size)) else .fail
      | none => .fail)
    | some (.slice e), .sl n cs => (match ti P e with
      | some (_, size, _) => if 0 ≤ i ∧ i < n ∧ 0 < cs.length then k (.ptr cs (i.toNat * size)) else .fail
      | none => .fail)
    | some (.array n e), .addr tk g off => (match ti P e with
      | some (_, size, _) => if 0 ≤ i ∧ i < n then k (.addr tk g (off + i.toNat * size)) else .fail
      | none => .fail)
    | some (.array n e), .ptr cs off => (match ti P e with
      | some (_, size, _) => if 0 ≤ i ∧ i < n then k (.ptr cs (off + i.toNat * size)) else .fail
      | none => .fail)
    | _, _ => .fail)
  | _ => .fail
def index (P : Program) (t : TypeId) (x ix : AV) (k : AV → M) : M :=
  match ix with
  | .int _ i => (match P.underlying t, x with
    | some .string, .str s => if 0 ≤ i ∧ i < s.length then k (.int .u8 (s.getD i.toNat 0)) else .fail
    | some (.array n e), .agg cs => (match ti P e with
      | some (_, size, _) => if 0 ≤ i ∧ i < n then part P e cs (i.toNat * size) k else .fail
      | none => .fail)
    | _, _ => .fail)
  | _ => .fail
def lenB (P : Program) (t : TypeId) (x : AV) (k : AV → M) : M :=
  match P.underlying t, x with
  | some .string, .str s => k (.int .i64 s.length)
  | some (.slice _), .nilS => k (.int .i64 0)
  | some (.slice _), .sl n _ => k (.int .i64 n)
  | some (.slice _), .own _ _ _ n => k (.int .i64 n)
  | some (.slice _), .arr _ _ _ n => k (.int .i64 n)
  | some (.array n _), _ => k (.int .i64 n)
  | _, _ => .fail
/-- What an append's second argument yields. -/
def srcOf (P : Program) (tx : TypeId) (size : Nat) (x : AV) (k : Nat → List AV → M) : M :=
  match P.underlying tx, x with
  | some .string, .str l => if size = 1 then k l.length (u8s l) else .fail
  | some (.slice _), x => cellsOf x fun n cs => if cs.length = n * size then k n cs else .fail
  | _, _ => .fail
def appendB (P : Program) (N : Nat) (dst : Option Tmp) (st : Nat) (t tx : TypeId) (x y : AV) : M :=
  match P.underlying t with
  | some (.slice e) => (match zc P e with
    | some (_, size, by_) => if 0 < size then srcOf P tx size y fun m cs => (match x with
      | .nilS => if m * by_ ≤ 140737488355328 ∧ m ≤ 4611686018427387904 then mk N dst st size cs fun d => .own d st 0 m else .fail
      | .own tk g off n => row? tk g fun T => if off = 0 ∧ T.sz = size ∧ T.cs.length = n * size ∧ (n + m) * by_ ≤ 140737488355328 ∧ n + m ≤ 4611686018427387904 then
          .putT tk ⟨st, size, T.cs ++ cs⟩ (out N dst (.own tk st 0 (n + m))) else .fail
      | .arr tk g off n => row? tk g fun T => if 0 < m ∧ off + n * size ≤ T.cs.length ∧ (n + m) * by_ ≤ 140737488355328 ∧ n + m ≤ 4611686018427387904 then
          mk N dst st size ((T.cs.drop off).take (n * size) ++ cs) fun d => .own d st 0 (n + m) else .fail
      | _ => .fail) else .fail
    | none => .fail)
  | _ => .fail
def copyB (P : Program) (N : Nat) (dst : Option Tmp) (t tx : TypeId) (x y : AV) : M :=
  match P.underlying t with
  | some (.slice e) => (match ti P e with
    | some (_, size, _) => srcOf P tx size y fun m cs => (match x with
      | .own tk g off n => row? tk g fun T => if T.sz = size ∧ off + n * size ≤ T.cs.length then
          .putT tk { T with cs := setAll T.cs off (cs.take (min m n * size)) } (out N dst (.int .i64 (min m n : Nat))) else .fail
      | _ => .fail)
    | _ => .fail)
  | _ => .fail
def minmax (mx : Bool) (xs : List AV) (k : AV → M) : M :=
  match xs with
  | [.int k1 a, .int k2 b] => if k1 = k2 then k (.int k1 (if mx = true then (if b > a then b else a) else (if b < a then b else a))) else .fail
  | _ => .fail
/-- A call's arguments, as the callee sees them. -/
def cl : AV → AV
  | .nilS => .sl 0 []
  | x => x
def reifyC (x : AV) (k : AV → M) : M :=
  match x with
  | .nilS => k (.sl 0 [])
  | .own t g off n => row? t g fun T => if closedL ((T.cs.drop off).take (n * T.sz)) = true then k (.sl n ((T.cs.drop off).take (n * T.sz))) else .fail
  | .arr t g off n => row? t g fun T => if off + n * T.sz ≤ T.cs.length ∧ closedL ((T.cs.drop off).take (n * T.sz)) = true then k (.sl n ((T.cs.drop off).take (n * T.sz))) else .fail
  | x => if x.closed = true then k x else .fail
def reifyL : List AV → (List AV → M) → M
  | [], k => k []
  | x :: r, k => reifyC x fun y => reifyL r fun ys => k (y :: ys)
def reify (x : AV) (k : AV → M) : M :=
  match x with
  | .agg cs => reifyL cs fun ys => k (.agg ys)
  | .addr t g off => row? t g fun T => if closedL T.cs = true then k (.ptr T.cs off) else .fail
  | x => reifyC x k
def reifyA : List AV → (List AV → M) → M
  | [], k => k []
  | x :: r, k => reify x fun y => reifyA r fun ys => k (y :: ys)
/-- A call's answer comes in. -/
def back (N : Nat) (dst : Option Tmp) (st : Nat) (r : AV) (T : Option Tok) : M :=
  match T with
  | none => if r.closed = true then out N dst r else .fail
  | some T => match dst with
    | some d => if d < N then .putT d { T with g := st } (.putE d (r.ren d st) .ret) else .fail
    | none => .fail
def clA (x : AV) : AV :=
  match x with
  | .agg cs => .agg (cs.map cl)
  | x => cl x
def callV (N : Nat) (dst : Option Tmp) (st : Nat) (f : AV) (args : List AV) : M :=
  match f with
  | .fn f caps => if closedL (args ++ caps) = true then .call false f ((args ++ caps).map clA) N dst st
    else reifyA (args ++ caps) fun ys => .call true f ys N dst st
  | _ => .fail
def aop (P : Program) (N st : Nat) (o : Oper) : M :=
  match o.op with
  | .move x => ev N x (out N o.dst)
  | .assign x => ev N x (out N o.dst)
  | .pick c a b => ev N c fun x => (match x with | .bool t => if t = true then ev N a (out N o.dst) else ev N b (out N o.dst) | _ => .fail)
  | .alloc t => (match zc P t with | some (z, _, _) => mk N o.dst st 1 z fun d => .addr d st 0 | none => .fail)
  | .box t x => ev N x fun x => (match x.cells? with | some cs => mk N o.dst st 1 cs fun d => .addr d st 0 | none => .fail)
  | .build t parts => evP N parts.toList fun ps => (match P.underlying t, zc P t with
    | some (.struct fields), some (z, _, _) => (match places P fields with
      | some pl => (match afill (pl[·]?) z ps with | some cs => out N o.dst (.agg cs) | none => .fail)
      | none => .fail)
    | some (.array _ e), some (z, _, _) => (match ti P e with
      | some (_, size, _) => (match afill (fun i => some (i * size, size)) z ps with | some cs => out N o.dst (.agg cs) | none => .fail)
      | none => .fail)
    | _, _ => .fail)
  | .buildSlice t len parts => evP N parts.toList fun ps => (match P.underlying t with
    | some (.slice e) => (match zc P e with
      | some (z, size, _) => if len * size ≤ 16777216 then
          (match afill (fun i => some (i * size, size)) (zrep z len) ps with | some cs => mk N o.dst st size cs fun d => .own d st 0 len | none => .fail) else .fail
      | none => .fail)
    | _ => .fail)
  | .load t x => ev N x fun x => load P t x (out N o.dst)
  | .store t x y => ev N x fun x => ev N y fun y => (match o.dst with | none => store P t x y .ret | some _ => .fail)
  | .nilCheck x => ev N x fun x => (match x with | .addr t g off => out N o.dst (.addr t g off) | .ptr cs off => out N o.dst (.ptr cs off) | _ => .fail)
  | .binOp op t x y _ => ev N x fun x => ev N y fun y => bin P op t x y (out N o.dst)
  | .unOp op _ x => ev N x fun x => aun op x (out N o.dst)
  | .convert s d x => ev N x fun x => conv P N o.dst st s d x
  | .makeFunc fn first caps => evL N caps.toList fun cs => (match fn with | .func f => if first.size = 0 then out N o.dst (.fn f cs) else .fail | _ => .fail)
  | .makeSlice t l c => ev N l fun l => ev N c fun c => (match l, c, P.underlying t with
    | .int .i64 l, .int .i64 c, some (.slice e) => (match zc P e with
      | some (z, size, by_) => if 0 ≤ l ∧ l ≤ c ∧ (by_ : Int) * c ≤ 140737488355328 ∧ c ≤ 4611686018427387904 ∧ 0 < size then mk N o.dst st size (zrep z l.toNat) fun d => .own d st 0 l.toNat else .fail
      | none => .fail)
    | _, _, _ => .fail)
  | .slice t x lo hi mx => ev N x fun x => evL N lo.toList fun lo => evL N hi.toList fun hi => evL N mx.toList fun mx => slice P N o.dst t x lo.head? hi.head? mx.head?
  | .fieldAddr t x f => ev N x fun x => fieldAddr P t x f (out N o.dst)
  | .field t x f => ev N x fun x => field P t x f (out N o.dst)
  | .indexAddr t x ix => ev N x fun x => ev N ix fun ix => indexAddr P t x ix (out N o.dst)
  | .index t x ix => ev N x fun x => ev N ix fun ix => index P t x ix (out N o.dst)
  | .extract t i => ev N t fun t => (match t with | .tup cs => if i < cs.length then out N o.dst (cs.getD i .dead) else .fail | _ => .fail)
  | .call c => evL N c.args.toList fun xs => (match c.callee with
    | .value f => ev N f fun f => callV N o.dst st f xs
    | .builtin .len => (match xs, c.argTypes[0]? with | [x], some t => lenB P t x (out N o.dst) | _, _ => .fail)
    | .builtin .append => (match xs, c.argTypes[0]?, c.argTypes[1]? with | [x, y], some t, some tx => appendB P N o.dst st t tx x y | _, _, _ => .fail)
    | .builtin .copy => (match xs, c.argTypes[0]?, c.argTypes[1]? with | [x, y], some t, some tx => copyB P N o.dst t tx x y | _, _, _ => .fail)
    | .builtin .min => minmax false xs (out N o.dst)
    | .builtin .max => minmax true xs (out N o.dst)
    | _ => .fail)
  | _ => .fail

/-! ### What running one is -/
inductive M.Runs (P : Program) : M → AS → AS → Prop
  | ret (s : AS) : Runs P .ret s s
  | getE (i : Nat) (k : AV → M) (s s' : AS) (h : Runs P (k (s.env i)) s s') : Runs P (.getE i k) s s'
  | getT (t : Nat) (k : Option Tok → M) (s s' : AS) (h : Runs P (k (s.tk t)) s s') : Runs P (.getT t k) s s'
  | putE (i : Nat) (x : AV) (k : M) (s s' : AS) (h : Runs P k (s.setE i x) s') : Runs P (.putE i x k) s s'
  | putT (t : Nat) (T : Tok) (k : M) (s s' : AS) (h : Runs P k (s.setT t T) s') : Runs P (.putT t T k) s s'
  | call (b : Bool) (f : FuncId) (args : List AV) (N : Nat) (dst : Option Tmp) (st : Nat) (s s' : AS) (r : AV) (T : Option Tok) (hc : ACall P f args r T)
      (hb : b = true → r.noSl = true ∧ ∀ T0, T = some T0 → noSlL T0.cs = true) (h : Runs P (back N dst st r T) s s') : Runs P (.call b f args N dst st) s s'
/-- A call that is not entered yet. -/
def CallWp (P : Program) (b : Bool) (f : FuncId) (args : List AV) (N : Nat) (dst : Option Tmp) (st : Nat) (s : AS) (K : AS → Prop) : Prop :=
  ∃ r T s', ACall P f args r T ∧ (b = true → r.noSl = true ∧ ∀ T0, T = some T0 → noSlL T0.cs = true) ∧ (back N dst st r T).Runs P s s' ∧ K s'
def M.wp (P : Program) : M → AS → (AS → Prop) → Prop
  | .ret, s, K => K s
  | .fail, _, _ => False
  | .getE i k, s, K => (k (s.env i)).wp P s K
  | .getT t k, s, K => (k (s.tk t)).wp P s K
  | .putE i x k, s, K => k.wp P (s.setE i x) K
  | .putT t T k, s, K => k.wp P (s.setT t T) K
  | .call b f args N dst st, s, K => CallWp P b f args N dst st s K
theorem M.wp_runs {P : Program} : ∀ {m : M} {s : AS} {K : AS → Prop}, m.wp P s K → ∃ s', m.Runs P s s' ∧ K s'
  | .ret, s, K, h => ⟨s, .ret s, h⟩
  | .fail, _, _, h => h.elim
  | .getE i k, s, K, h => let ⟨s', r, hk⟩ := M.wp_runs (m := k (s.env i)) h; ⟨s', .getE i k s s' r, hk⟩
  | .getT t k, s, K, h => let ⟨s', r, hk⟩ := M.wp_runs (m := k (s.tk t)) h; ⟨s', .getT t k s s' r, hk⟩
  | .putE i x k, s, K, h => let ⟨s', r, hk⟩ := M.wp_runs (m := k) h; ⟨s', .putE i x k s s' r, hk⟩
  | .putT t T k, s, K, h => let ⟨s', r, hk⟩ := M.wp_runs (m := k) h; ⟨s', .putT t T k s s' r, hk⟩
  | .call b f args N dst st, s, K, h => let ⟨r, T, s', hc, hb, rr, hk⟩ := h; ⟨s', .call b f args N dst st s s' r T hc hb rr, hk⟩
/-- A call is met by its contract. -/
theorem call_intro {P : Program} {b : Bool} {f : FuncId} {args : List AV} {N : Nat} {dst : Option Tmp} {st : Nat} {s : AS} {K : AS → Prop} {r : AV} {T : Option Tok} (hc : ACall P f args r T)
    (hb : b = true → r.noSl = true ∧ ∀ T0, T = some T0 → noSlL T0.cs = true) (h : (back N dst st r T).wp P s K) : CallWp P b f args N dst st s K :=
  let ⟨s', rr, hk⟩ := M.wp_runs h
  ⟨r, T, s', hc, hb, rr, hk⟩
end Go.Eng
