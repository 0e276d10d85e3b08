/- GEa: the texts E0, E1, E2, E3, E4, E5, E6, one behind the other. -/
import Derived.Calls
import Derived.Below
import Derived.Control
import Derived.Laws.Sem
import Derived.Laws.Entries
import Derived.WalkArith
import Derived.Laws.Append
import Derived.Laws.IdiomCopy
import Derived.Laws.Cells
import Derived.Laws.Slices
import Derived.Deep.MidRow
import Derived.Deep.AppendSrc
import Derived.Laws.IdiomStrings
import Derived.Laws.BytesString
import Derived.Laws.MakeOwn
import Derived.Laws.Small
import Derived.Laws.Pointers
import Derived.Laws.Cover3
import Derived.DeepKeys
import Derived.Conc.MuLone
set_option linter.unusedVariables false
set_option linter.unusedSimpArgs false

/- The engine, part 0: abstract values, what they stand for in a world, and how that is kept when the world changes. For every program. -/
set_option linter.unusedVariables false
namespace Go.Eng

/-- An abstract value: what a slot holds. A slice is known by its cells; 'own' is a slice of a row that the call made itself and may still change. -/
inductive AV where
  | bool (b : Bool)
  | int (k : IntKind) (n : Int)
  | str (l : List Int)
  | nilS
  | nilP
  | em (b : Bool)
  | sl (n : Nat) (cs : List AV)
  | own (t g off n : Nat)
  | arr (t g off n : Nat)
  | addr (t g off : Nat)
  | ptr (cs : List AV) (off : Nat)
  | fn (f : FuncId) (caps : List AV)
  | agg (cs : List AV)
  | tup (cs : List AV)
  | dead
  deriving Inhabited

/-- A row of the call's own: its stamp, the cells of an element, its cells. -/
structure Tok where
  g : Nat
  sz : Nat
  cs : List AV

/-- What an abstract value is read in: the heap, the blocks that stay as they are, the rows of one's own, the stamps in use. -/
structure Cx where
  h : Array Obj
  Z : Nat → Prop
  ρ : Nat → Option Nat
  tk : Nat → Option Tok
  U : Nat → Prop

abbrev cell1 (v : Value) : Bool := v.oneCell'

def bytesOf (s : ByteArray) : List Int := s.data.toList.map fun b => (b.toNat : Int)

inductive Rep (cx : Cx) : AV → Value → Prop
  | bool (b : Bool) : Rep cx (.bool b) (.bool b)
  | int (k : IntKind) (n : Int) : Rep cx (.int k n) (.int k n)
  | str (s : ByteArray) (l : List Int) (h : bytesOf s = l) : Rep cx (.str l) (.string s)
  | nilS : Rep cx .nilS (.slice none 0 0)
  | nilP : Rep cx .nilP (.pointer none)
  | em (b : Bool) (a : Option Addr) (c : Nat) (h : a.isNone = b) : Rep cx (.em b) (.slice a 0 c)
  | sl0 (a : Option Addr) (c : Nat) : Rep cx (.sl 0 []) (.slice a 0 c)
  | sl (n : Nat) (cs : List AV) (ad : Addr) (c : Nat) (arr : Array Value) (el : TypeId) (fz : Nat × Nat) (hz : cx.Z ad.block) (hb : cx.h[ad.block]? = some (.cells arr el fz))
      (hs : ad.spot = none) (hn : n ≤ c) (hl : ad.off + cs.length ≤ arr.size) (h1 : ∀ (i : Nat) (v : Value), i < cs.length → arr[ad.off + i]? = some v → cell1 v = true)
      (h : ∀ (i : Nat) (x : AV) (v : Value), cs[i]? = some x → arr[ad.off + i]? = some v → Rep cx x v) : Rep cx (.sl n cs) (.slice (some ad) n c)
  | own (t g off n : Nat) (a : Option Addr) (c : Nat) (hu : cx.U g) (hn : n ≤ c)
      (h : ∀ T, cx.tk t = some T → T.g = g → (n = 0 ∧ c = 0) ∨ ∃ b arr el fz, cx.ρ t = some b ∧ a = some ⟨b, off, none⟩ ∧ cx.h[b]? = some (.cells arr el fz) ∧ off + c * T.sz ≤ arr.size) :
      Rep cx (.own t g off n) (.slice a n c)
  | arr (t g off n : Nat) (a : Option Addr) (hu : cx.U g)
      (h : ∀ T, cx.tk t = some T → T.g = g → ∃ b, cx.ρ t = some b ∧ a = some ⟨b, off, none⟩) :
      Rep cx (.arr t g off n) (.slice a n n)
  | addr (t g off : Nat) (ad : Addr) (hu : cx.U g) (h : ∀ T, cx.tk t = some T → T.g = g → ∃ b, cx.ρ t = some b ∧ ad = ⟨b, off, none⟩) : Rep cx (.addr t g off) (.pointer (some ad))
  | ptr (cs : List AV) (off : Nat) (ad : Addr) (base : Nat) (arr : Array Value) (el : TypeId) (fz : Nat × Nat) (hz : cx.Z ad.block) (hb : cx.h[ad.block]? = some (.cells arr el fz))
      (hs : ad.spot = none) (ho : ad.off = base + off) (hl : base + cs.length ≤ arr.size) (h1 : ∀ (i : Nat) (v : Value), i < cs.length → arr[base + i]? = some v → cell1 v = true)
      (h : ∀ (i : Nat) (x : AV) (v : Value), cs[i]? = some x → arr[base + i]? = some v → Rep cx x v) : Rep cx (.ptr cs off) (.pointer (some ad))
  | fn (f : FuncId) (caps : List AV) (vs : Array Value) (hl : caps.length = vs.size) (h : ∀ (i : Nat) (x : AV) (v : Value), caps[i]? = some x → vs[i]? = some v → Rep cx x v) : Rep cx (.fn f caps) (.func (.func f) #[] vs)
  | agg (cs : List AV) (vs : Array Value) (hl : cs.length = vs.size) (h1 : ∀ (i : Nat) (v : Value), vs[i]? = some v → cell1 v = true) (h : ∀ (i : Nat) (x : AV) (v : Value), cs[i]? = some x → vs[i]? = some v → Rep cx x v) : Rep cx (.agg cs) (.agg vs)
  | tup (cs : List AV) (vs : Array Value) (hl : cs.length = vs.size) (h : ∀ (i : Nat) (x : AV) (v : Value), cs[i]? = some x → vs[i]? = some v → Rep cx x v) : Rep cx (.tup cs) (.tuple vs)
  | dead (v : Value) : Rep cx .dead v

def RepL (cx : Cx) (cs : List AV) (vs : List Value) : Prop := cs.length = vs.length ∧ ∀ (i : Nat) (x : AV) (v : Value), cs[i]? = some x → vs[i]? = some v → Rep cx x v

theorem RepL.nil (cx : Cx) : RepL cx [] [] := ⟨rfl, fun i x v h => by simp at h⟩
theorem RepL.cons {cx : Cx} {x : AV} {v : Value} {cs : List AV} {vs : List Value} (h : Rep cx x v) (k : RepL cx cs vs) : RepL cx (x :: cs) (v :: vs) := by
  refine ⟨by simp [k.1], fun i y u hy hu => ?_⟩
  cases i with
  | zero => simp at hy hu; subst hy; subst hu; exact h
  | succ i => simp at hy hu; exact k.2 i y u hy hu
theorem RepL.uncons {cx : Cx} {x : AV} {cs : List AV} {vs : List Value} (h : RepL cx (x :: cs) vs) : ∃ v vs', vs = v :: vs' ∧ Rep cx x v ∧ RepL cx cs vs' := by
  cases vs with
  | nil => simp [RepL] at h
  | cons v vs' =>
    refine ⟨v, vs', rfl, h.2 0 x v rfl rfl, by simpa using h.1, fun i y u hy hu => h.2 (i + 1) y u (by simpa using hy) (by simpa using hu)⟩
theorem RepL.append {cx : Cx} {cs ds : List AV} {vs us : List Value} (h : RepL cx cs vs) (k : RepL cx ds us) : RepL cx (cs ++ ds) (vs ++ us) := by
  refine ⟨by simp [h.1, k.1], fun i y u hy hu => ?_⟩
  by_cases hi : i < cs.length
  · rw [List.getElem?_append_left hi] at hy
    rw [List.getElem?_append_left (by rw [← h.1]; exact hi)] at hu
    exact h.2 i y u hy hu
  · rw [List.getElem?_append_right (by omega)] at hy
    rw [List.getElem?_append_right (by rw [← h.1]; omega)] at hu
    rw [← h.1] at hu
    exact k.2 _ y u hy hu
theorem RepL.take {cx : Cx} {cs : List AV} {vs : List Value} (h : RepL cx cs vs) (n : Nat) : RepL cx (cs.take n) (vs.take n) := by
  refine ⟨by simp [h.1], fun i y u hy hu => ?_⟩
  rw [List.getElem?_take] at hy hu
  split at hy
  · rename_i hi; rw [if_pos hi] at hu; exact h.2 i y u hy hu
  · cases hy
theorem RepL.drop {cx : Cx} {cs : List AV} {vs : List Value} (h : RepL cx cs vs) (n : Nat) : RepL cx (cs.drop n) (vs.drop n) := by
  refine ⟨by simp [h.1], fun i y u hy hu => ?_⟩
  rw [List.getElem?_drop] at hy hu
  exact h.2 _ y u hy hu
theorem RepL.get {cx : Cx} {cs : List AV} {vs : List Value} (h : RepL cx cs vs) {i : Nat} {v : Value} (hv : vs[i]? = some v) : Rep cx (cs.getD i .dead) v := by
  have hi : i < vs.length := (List.getElem?_eq_some_iff.1 hv).1
  rw [← h.1] at hi
  have hx : cs[i]? = some cs[i] := List.getElem?_eq_getElem hi
  rw [List.getD_eq_getElem?_getD, hx]
  exact h.2 i _ v hx hv
theorem RepL.set {cx : Cx} {cs : List AV} {vs : List Value} (h : RepL cx cs vs) (i : Nat) {x : AV} {v : Value} (hx : Rep cx x v) : RepL cx (cs.set i x) (vs.set i v) := by
  refine ⟨by simp [h.1], fun j y u hy hu => ?_⟩
  rw [List.getElem?_set] at hy hu
  by_cases e : i = j
  · subst e
    rw [if_pos rfl] at hy hu
    split at hy
    · rename_i hi
      rw [if_pos (by rw [← h.1]; exact hi)] at hu
      cases hy; cases hu; exact hx
    · cases hy
  · rw [if_neg e] at hy hu
    exact h.2 j y u hy hu

/-- What must hold that what was read is read again in another world. -/
structure Tr (cx cx' : Cx) : Prop where
  Z : ∀ b, cx.Z b → cx'.Z b ∧ cx'.h[b]? = cx.h[b]?
  U : ∀ g, cx.U g → cx'.U g
  tk : ∀ t T', cx'.tk t = some T' → cx.U T'.g → ∃ T, cx.tk t = some T ∧ T.g = T'.g ∧ T.sz = T'.sz ∧ cx'.ρ t = cx.ρ t
  row : ∀ t T T' b arr el fz, cx.tk t = some T → cx'.tk t = some T' → T.g = T'.g → cx.U T.g → cx.ρ t = some b → cx.h[b]? = some (.cells arr el fz) → ∃ arr' el' fz', cx'.h[b]? = some (.cells arr' el' fz') ∧ arr.size ≤ arr'.size

theorem Tr.of {cx cx' : Cx} (Z : ∀ b, cx.Z b → cx'.Z b ∧ cx'.h[b]? = cx.h[b]?) (U : ∀ g, cx.U g → cx'.U g) (tk : ∀ t T', cx'.tk t = some T' → cx.U T'.g → ∃ T, cx.tk t = some T ∧ T.g = T'.g ∧ T.sz = T'.sz ∧ cx'.ρ t = cx.ρ t)
    (row : ∀ t T b arr el fz, cx.tk t = some T → cx.ρ t = some b → cx.h[b]? = some (.cells arr el fz) → ∃ arr' el' fz', cx'.h[b]? = some (.cells arr' el' fz') ∧ arr.size ≤ arr'.size) : Tr cx cx' :=
  ⟨Z, U, tk, fun t T _ b arr el fz e _ _ _ e2 e3 => row t T b arr el fz e e2 e3⟩
theorem Tr.refl (cx : Cx) : Tr cx cx := ⟨fun _ h => ⟨h, rfl⟩, fun _ h => h, fun t T' h _ => ⟨T', h, rfl, rfl, rfl⟩, fun _ _ _ _ arr el fz _ _ _ _ _ h => ⟨arr, el, fz, h, Nat.le_refl _⟩⟩
theorem Tr.trans {a b c : Cx} (h : Tr a b) (k : Tr b c) : Tr a c where
  Z := fun x hx => ⟨(k.Z x (h.Z x hx).1).1, (k.Z x (h.Z x hx).1).2.trans (h.Z x hx).2⟩
  U := fun g hg => k.U g (h.U g hg)
  tk := fun t T' e hu => by
    obtain ⟨T1, e1, e2, e3, e4⟩ := k.tk t T' e (h.U _ hu)
    obtain ⟨T0, f1, f2, f3, f4⟩ := h.tk t T1 e1 (by rw [e2]; exact hu)
    exact ⟨T0, f1, f2.trans e2, f3.trans e3, e4.trans f4⟩
  row := fun t T T' x arr el fz e e' hg hu hx hh => by
    obtain ⟨T1, e1, e2, e3, e4⟩ := k.tk t T' e' (h.U _ (by rw [← hg]; exact hu))
    have hg1 : T.g = T1.g := hg.trans e2.symm
    obtain ⟨T0, f1, f2, f3, f4⟩ := h.tk t T1 e1 (by rw [← hg1]; exact hu)
    obtain ⟨arr1, el1, fz1, g1, g2⟩ := h.row t T T1 x arr el fz e e1 hg1 hu hx hh
    obtain ⟨arr2, el2, fz2, g3, g4⟩ := k.row t T1 T' x arr1 el1 fz1 e1 e' e2 (h.U _ (by rw [← hg1]; exact hu)) (f4.trans hx) g1
    exact ⟨arr2, el2, fz2, g3, Nat.le_trans g2 g4⟩

theorem Rep.tr {cx cx' : Cx} (T : Tr cx cx') {x : AV} {v : Value} (h : Rep cx x v) : Rep cx' x v := by
  induction h with
  | bool b => exact .bool b
  | int k n => exact .int k n
  | str s l h => exact .str s l h
  | nilS => exact .nilS
  | nilP => exact .nilP
  | em b a c h => exact .em b a c h
  | sl0 a c => exact .sl0 a c
  | sl n cs ad c arr el fz hz hb hs hn hl h1 h ih => exact .sl n cs ad c arr el fz (T.Z _ hz).1 ((T.Z _ hz).2.trans hb) hs hn hl h1 ih
  | own t g off n a c hu hn h =>
    refine .own t g off n a c (T.U _ hu) hn fun T' h' hg => ?_
    obtain ⟨T0, e0, eg, es, er⟩ := T.tk t T' h' (by rw [hg]; exact hu)
    rcases h T0 e0 (by rw [eg, hg]) with h0 | ⟨b, arr, el, fz, h1, h2, h3, h4⟩
    · exact .inl h0
    · obtain ⟨arr', el', fz', h5, h6⟩ := T.row t T0 T' b arr el fz e0 h' eg (by rw [eg, hg]; exact hu) h1 h3
      exact .inr ⟨b, arr', el', fz', er.trans h1, h2, h5, by rw [← es]; omega⟩
  | arr t g off n a hu h =>
    refine .arr t g off n a (T.U _ hu) fun T' h' hg => ?_
    obtain ⟨T0, e0, eg, es, er⟩ := T.tk t T' h' (by rw [hg]; exact hu)
    obtain ⟨b, h1, h2⟩ := h T0 e0 (by rw [eg, hg])
    exact ⟨b, er.trans h1, h2⟩
  | addr t g off ad hu h =>
    refine .addr t g off ad (T.U _ hu) fun T' h' hg => ?_
    obtain ⟨T0, e0, eg, es, er⟩ := T.tk t T' h' (by rw [hg]; exact hu)
    obtain ⟨b, h1, h2⟩ := h T0 e0 (by rw [eg, hg])
    exact ⟨b, er.trans h1, h2⟩
  | ptr cs off ad base arr el fz hz hb hs ho hl h1 h ih => exact .ptr cs off ad base arr el fz (T.Z _ hz).1 ((T.Z _ hz).2.trans hb) hs ho hl h1 ih
  | fn f caps vs hl h ih => exact .fn f caps vs hl ih
  | agg cs vs hl h1 h ih => exact .agg cs vs hl h1 ih
  | tup cs vs hl h ih => exact .tup cs vs hl ih
  | dead v => exact .dead v

theorem RepL.tr {cx cx' : Cx} (T : Tr cx cx') {cs : List AV} {vs : List Value} (h : RepL cx cs vs) : RepL cx' cs vs := ⟨h.1, fun i x v hx hv => (h.2 i x v hx hv).tr T⟩

/-- The abstract state: the slots, the rows of one's own, a stamp from which on none is in use. -/
structure AS where
  env : Nat → AV
  tk : Nat → Option Tok
  nx : Nat

/-- What a call found: the heap's size, which blocks it may not touch, which it was handed to read, which to change; how its arguments are read. -/
structure Fr where
  w0 : World
  prot : Nat → Prop
  Z0 : Nat → Prop
  sh : Nat → Prop
  base : Cx
  hprot : ∀ b, b < w0.heap.size → prot b ∨ sh b

/-- No cell of the row is frozen, nor will one be that lies ahead of its end. -/
def FzOk (n : Nat) (fz : Nat × Nat) : Prop := fz.1 = fz.2 ∨ n ≤ fz.1
theorem FzOk.ok {n : Nat} {fz : Nat × Nat} (h : FzOk n fz) {i : Nat} (hi : i < n) : ¬ (fz.1 ≤ i ∧ i < fz.2) := by unfold FzOk at h; omega
/-- A row of one's own, as it lies. -/
def TokAt (cx : Cx) (T : Tok) (b : Nat) : Prop :=
  ∃ arr el fz, cx.h[b]? = some (.cells arr el fz) ∧ (FzOk arr.size fz) ∧ (∀ (i : Nat) (v : Value), arr[i]? = some v → cell1 v = true) ∧ T.cs.length ≤ arr.size ∧
    ∀ (i : Nat) (x : AV) (v : Value), T.cs[i]? = some x → arr[i]? = some v → Rep cx x v

structure SimC (N : Nat) (F : Fr) (s : AS) (cx : Cx) (a : Act) (w : World) : Prop where
  h : cx.h = w.heap
  tk : cx.tk = s.tk
  size : a.tmps.size = N
  defers : a.defers = []
  env : ∀ i, i < N → Rep cx (s.env i) (a.tmps.getD i undef)
  none_ : ∀ t T, cx.tk t = some T → cx.ρ t = none → T.cs = []
  row : ∀ t T b, cx.tk t = some T → cx.ρ t = some b → TokAt cx T b
  stamp : ∀ t T, cx.tk t = some T → cx.U T.g
  inj : ∀ t t' T T' b, cx.tk t = some T → cx.tk t' = some T' → cx.ρ t = some b → cx.ρ t' = some b → t = t'
  apart : ∀ t T b, cx.tk t = some T → cx.ρ t = some b → ¬ cx.Z b
  free : ∀ t T b, cx.tk t = some T → cx.ρ t = some b → ¬ F.prot b
  Zlt : ∀ b, cx.Z b → b < w.heap.size
  Z0 : ∀ b, F.Z0 b → cx.Z b
  Znew : ∀ b, cx.Z b → F.Z0 b ∨ F.w0.heap.size ≤ b ∨ F.sh b
  tr : Tr F.base cx
  os : w.os = F.w0.os
  tape : w.tape = F.w0.tape
  output : w.output = F.w0.output
  grow : F.w0.heap.size ≤ w.heap.size
  prot : ∀ b, F.prot b → b < F.w0.heap.size ∧ w.heap[b]? = F.w0.heap[b]?

def Sim (N : Nat) (F : Fr) (U : Nat → Prop) (s : AS) (a : Act) (w : World) : Prop := ∃ cx, cx.U = U ∧ SimC N F s cx a w

end Go.Eng

/- The engine, part 1: what a call's contract says, and the abstract machine's operations. For every program. -/
set_option linter.unusedVariables false
namespace Go.Eng
open Go.RowKit

def cxA (w : World) (Z : Nat → Prop) : Cx := ⟨w.heap, Z, fun _ => none, fun _ => none, fun _ => False⟩

/-- What lies there when a call is back. -/
structure Ret (w0 : World) (Z0 : Nat → Prop) (T : Option Tok) (cx : Cx) (w : World) : Prop where
  h : cx.h = w.heap
  tk : cx.tk = fun t => if t = 0 then T else none
  U : cx.U = fun g => g = 0
  Zlt : ∀ b, cx.Z b → b < w.heap.size
  Znew : ∀ b, cx.Z b → Z0 b ∨ w0.heap.size ≤ b
  tok : ∀ T0, T = some T0 → T0.g = 0 ∧ (cx.ρ 0 = none → T0.cs = []) ∧ ∀ b, cx.ρ 0 = some b → TokAt (cxA w cx.Z) T0 b ∧ w0.heap.size ≤ b ∧ ¬ cx.Z b
  below : Below w0.heap.size w0 w

/-- Is it a function with a body? -/
def Ent (P : Program) (f : FuncId) : Prop := ∃ fn c, P.funcs[f]? = some fn ∧ fn.body = some c ∧ (fn.name == "runtime.NumGoroutine") = false
/-- The contract of a call: at these arguments it returns this; a row of its own making may come with it (token 0). -/
def ACall (P : Program) (f : FuncId) (args : List AV) (r : AV) (T : Option Tok) : Prop :=
  Ent P f ∧ ∀ (w : World) (vargs : Array Value) (Z0 : Nat → Prop), (∀ b, Z0 b → b < w.heap.size) → RepL (cxA w Z0) args vargs.toList →
    Calls P f vargs w fun e w' => ∃ v cx, e = .returned v ∧ Ret w Z0 T cx w' ∧ Rep cx r v

/-- The contract of a function that the model runs at one stroke. -/
def XCall (P : Program) (f : FuncId) (args : List AV) (r : AV) (T : Option Tok) : Prop :=
  ∀ (w : World) (vargs : Array Value) (Z0 : Nat → Prop), (∀ b, Z0 b → b < w.heap.size) → RepL (cxA w Z0) args vargs.toList →
    ∃ v w' cx, (callFunc f vargs).run P w = .ok (.value v) w' ∧ Ret w Z0 T cx w' ∧ Rep cx r v
def ACallX (P : Program) (f : FuncId) (args : List AV) (r : AV) (T : Option Tok) : Prop := ACall P f args r T ∨ XCall P f args r T
inductive M where
  | ret
  | fail
  | getE (i : Nat) (k : AV → M)
  | getT (t : Nat) (k : Option Tok → M)
  | putE (i : Nat) (x : AV) (k : M)
  | putT (t : Nat) (T : Tok) (k : M)
  | call (b : Bool) (f : FuncId) (args : List AV) (N : Nat) (dst : Option Tmp) (st : Nat)

def AS.setE (s : AS) (i : Nat) (x : AV) : AS := { s with env := fun j => if j = i then x else s.env j }
def AS.setT (s : AS) (t : Nat) (T : Tok) : AS := { s with tk := fun j => if j = t then some T else s.tk j }

/-! ### Small words -/
def AV.cells? : AV → Option (List AV)
  | .agg cs => some cs
  | .tup _ => none
  | .dead => none
  | x => some [x]
def setAll {α : Type} (cs : List α) (off : Nat) : List α → List α
  | [] => cs
  | x :: r => setAll (cs.set off x) (off + 1) r
def absV : Value → AV
  | .bool b => .bool b
  | .int k n => .int k n
  | .string s => .str (bytesOf s)
  | .slice none 0 0 => .nilS
  | .pointer none => .nilP
  | _ => .dead
/-- A type's zero, cells, bytes. -/
def ti (P : Program) (t : TypeId) : Option (Option Value × Nat × Nat) := (P.info? t).map fun i => (i.zero, i.size, i.bytes)
def zcells (z : Value) : List AV := z.cells.toList.map absV
/-- A type's zero cells, their number, its bytes. -/
def zc (P : Program) (t : TypeId) : Option (List AV × Nat × Nat) :=
  match ti P t with
  | some (some z, size, by_) => if z.cells.size = size ∧ z.cells.all (·.oneCell') = true then some (zcells z, size, by_) else none
  | _ => none
def afill (place : Nat → Option (Nat × Nat)) (cells : List AV) : List (Nat × AV) → Option (List AV)
  | [] => some cells
  | (i, x) :: rest =>
    match place i with
    | none => none
    | some (off, size) =>
      match x.cells? with
      | none => none
      | some cs => if cs.length = size ∧ off + size ≤ cells.length then afill place (setAll cells off cs) rest else none
def places (P : Program) (fields : Array Field) : Option (List (Nat × Nat)) := fields.toList.mapM fun f => (ti P f.type).map fun i => (f.offset, i.2.1)
/-- n elements, each zero. -/
def zrep (z : List AV) (n : Nat) : List AV := (List.range (n * z.length)).map fun i => z.getD (i % z.length) .dead
def u8s (l : List Int) : List AV := l.map (AV.int .u8)
def intsOf : List AV → Option (List Int)
  | [] => some []
  | .int .u8 n :: r => (intsOf r).map (n :: ·)
  | _ => none
def u8n (l : List Int) : List Int := l.map fun n => ((n.toNat % 256 : Nat) : Int)
mutual
def AV.closed : AV → Bool
  | .own .. | .arr .. | .addr .. => false
  | .sl _ cs => closedL cs
  | .ptr cs _ => closedL cs
  | .fn _ cs => closedL cs
  | .agg cs => closedL cs
  | .tup cs => closedL cs
  | _ => true
def closedL : List AV → Bool
  | [] => true
  | x :: r => x.closed && closedL r
end
mutual
/-- Does it name no memory that is not its own? -/
def AV.noSl : AV → Bool
  | .sl n cs => n == 0 && cs.isEmpty
  | .ptr .. => false
  | .fn _ cs => noSlL cs
  | .agg cs => noSlL cs
  | .tup cs => noSlL cs
  | _ => true
def noSlL : List AV → Bool
  | [] => true
  | x :: r => x.noSl && noSlL r
end
mutual
/-- Row 0 of a call's is row d, stamp st, of the caller's. -/
def AV.ren (d st : Nat) : AV → AV
  | .own t g off n => if t = 0 ∧ g = 0 then .own d st off n else .dead
  | .arr t g off n => if t = 0 ∧ g = 0 then .arr d st off n else .dead
  | .addr t g off => if t = 0 ∧ g = 0 then .addr d st off else .dead
  | .fn _ _ => .dead
  | .sl n cs => if closedL cs = true then .sl n cs else .dead
  | .ptr cs off => if closedL cs = true then .ptr cs off else .dead
  | .agg cs => .agg (renL d st cs)
  | .tup cs => .tup (renL d st cs)
  | x => x
def renL (d st : Nat) : List AV → List AV
  | [] => []
  | x :: r => x.ren d st :: renL d st r
end
/-- Are two variables of a type equal, cell by cell? -/
def aeq (P : Program) : Nat → TypeId → List AV → List AV → Option Bool
  | 0, _, _, _ => none
  | d + 1, t, cs, ds =>
    match P.underlying t with
    | some .bool => (match cs, ds with | [.bool a], [.bool b] => some (a == b) | _, _ => none)
    | some (.int _) => (match cs, ds with | [.int k a], [.int k' b] => if k = k' then some (a == b) else none | _, _ => none)
    | some .string => (match cs, ds with | [.str a], [.str b] => some (a == b) | _, _ => none)
    | some (.struct fs) => if P.stoodInHeld t = false then
        fs.toList.foldr (fun f acc => if f.name = "_" then none else match ti P f.type with
          | some (_, size, _) => (match aeq P d f.type ((cs.drop f.offset).take size) ((ds.drop f.offset).take size), acc with
            | some a, some b => some (a && b)
            | _, _ => none)
          | none => none) (some true) else none
    | some (.array n e) => (match ti P e with
        | some (_, size, _) => (List.range n).foldr (fun i acc => match aeq P d e ((cs.drop (i * size)).take size) ((ds.drop (i * size)).take size), acc with
            | some a, some b => some (a && b)
            | _, _ => none) (some true)
        | none => none)
    | _ => none

/-! ### Operations -/
def out (N : Nat) (dst : Option Tmp) (x : AV) : M :=
  match dst with
  | some d => if d < N then .putE d x .ret else .fail
  | none => .ret
def ev (N : Nat) (o : Operand) (k : AV → M) : M :=
  match o with
  | .tmp t => if t < N then .getE t k else .fail
  | .const v => k (absV v)
  | .func f => k (.fn f [])
  | .global _ => .fail
def evL (N : Nat) : List Operand → (List AV → M) → M
  | [], k => k []
  | o :: r, k => ev N o fun x => evL N r fun xs => k (x :: xs)
def evP (N : Nat) : List (Nat × Operand) → (List (Nat × AV) → M) → M
  | [], k => k []
  | (i, o) :: r, k => ev N o fun x => evP N r fun xs => k ((i, x) :: xs)
/-- A new row (or box) for slot d. -/
def mk (N : Nat) (dst : Option Tmp) (st sz : Nat) (cs : List AV) (x : Nat → AV) : M :=
  match dst with
  | some d => if d < N then .putT d ⟨st, sz, cs⟩ (.putE d (x d) .ret) else .fail
  | none => .fail
def row? (t g : Nat) (k : Tok → M) : M := .getT t fun o =>
  match o with
  | some T => if T.g = g then k T else .fail
  | none => .fail
def isRow : TypeDesc → Bool
  | .struct _ => true
  | .array _ _ => true
  | _ => false
/-- The variable of a type that lies at a place among cells. -/
def ldV (P : Program) (t : TypeId) (cs : List AV) (off : Nat) : Option AV :=
  match P.underlying t, ti P t with
  | some d, some (_, size, _) => if isRow d = true then (if off + size ≤ cs.length then some (.agg ((cs.drop off).take size)) else none) else (if off < cs.length then some (cs.getD off .dead) else none)
  | _, _ => none
def ldCells (P : Program) (t : TypeId) (cs : List AV) (off : Nat) (k : AV → M) : M :=
  match ldV P t cs off with
  | some x => k x
  | none => .fail
def load (P : Program) (t : TypeId) (x : AV) (k : AV → M) : M :=
  match x with
  | .addr tk g off => row? tk g fun T => ldCells P t T.cs off k
  | .ptr cs off => ldCells P t cs off k
  | _ => .fail
def store (P : Program) (t : TypeId) (x y : AV) (k : M) : M :=
  match x, y.cells?, ti P t with
  | .addr tk g off, some cs, some (_, size, _) => row? tk g fun T => if cs.length = size ∧ off + size ≤ T.cs.length then .putT tk { T with cs := setAll T.cs off cs } k else .fail
  | _, _, _ => .fail
def aint (op : BinOp) (k1 : IntKind) (a : Int) (k2 : IntKind) (b : Int) (k : AV → M) : M :=
  match op with
  | .shl => if 0 ≤ b then k (.int k1 (k1.wrap (a * 2 ^ (min b.toNat k1.bits)))) else .fail
  | .shr => if 0 ≤ b then k (.int k1 (a.fdiv (2 ^ (min b.toNat k1.bits)))) else .fail
  | op => if k1 = k2 then
      match op with
      | .add => k (.int k1 (k1.wrap (a + b)))
      | .sub => k (.int k1 (k1.wrap (a - b)))
      | .mul => k (.int k1 (k1.wrap (a * b)))
      | .quo => if b ≠ 0 then k (.int k1 (k1.wrap (a.tdiv b))) else .fail
      | .rem => if b ≠ 0 then k (.int k1 (a.tmod b)) else .fail
      | .and => k (.int k1 (bits .and k1 a b))
      | .or => k (.int k1 (bits .or k1 a b))
      | .xor => k (.int k1 (bits .xor k1 a b))
      | .andNot => k (.int k1 (bits .andNot k1 a b))
      | .eql => k (.bool (a == b))
      | .neq => k (.bool (a != b))
      | .lss => k (.bool (decide (a < b)))
      | .leq => k (.bool (decide (a ≤ b)))
      | .gtr => k (.bool (decide (a > b)))
      | .geq => k (.bool (decide (a ≥ b)))
      | _ => .fail
    else .fail
/-- Is it surely nil (or not)? -/
def isNilS : AV → Option Bool
  | .nilS => some true
  | .em b => some b
  | .sl n _ => if n = 0 then none else some false
  | _ => none
def isNilP : AV → Option Bool
  | .nilP => some true
  | .addr .. => some false
  | .ptr .. => some false
  | _ => none
def rowT (P : Program) (t : TypeId) : Bool := match P.underlying t with
  | some d => isRow d
  | none => false
def eqOf (op : BinOp) (b : Bool) (k : AV → M) : M :=
  match op with
  | .eql => k (.bool b)
  | .neq => k (.bool (!b))
  | _ => .fail
def bin (P : Program) (op : BinOp) (t : TypeId) (x y : AV) (k : AV → M) : M :=
  match x with
  | .int k1 a => match y with
    | .int k2 b => aint op k1 a k2 b k
    | _ => .fail
  | .str a => match y with
    | .str b => match op with
      | .add => if a.length + b.length ≤ 4611686018427387904 then k (.str (a ++ b)) else .fail
      | .eql => k (.bool (a == b))
      | .neq => k (.bool (!(a == b)))
      | _ => .fail
    | _ => .fail
  | .bool a => match y, P.underlying t with
    | .bool b, some .bool => eqOf op (a == b) k
    | _, _ => .fail
  | .agg xs => match y with
    | .agg ys => if P.eqGuardType P.depth t = false ∧ rowT P t = true then (match aeq P 6 t xs ys with | some b => eqOf op b k | none => .fail) else .fail
    | _ => .fail
  | x => match y, P.underlying t with
    | .nilS, some (.slice _) => (match isNilS x with | some b => eqOf op b k | none => .fail)
    | .nilP, some (.pointer _) => (match isNilP x with | some b => eqOf op b k | none => .fail)
    | _, _ => .fail
def aun (op : UnOp) (x : AV) (k : AV → M) : M :=
  match op, x with
  | .not, .bool b => k (.bool (!b))
  | .neg, .int kd n => k (.int kd (kd.wrap (0 - n)))
  | _, _ => .fail
/-- The cells of a slice. -/
def cellsOf (x : AV) (k : Nat → List AV → M) : M :=
  match x with
  | .nilS => k 0 []
  | .sl n cs => k n cs
  | .own t g off n => row? t g fun T => k n ((T.cs.drop off).take (n * T.sz))
  | _ => .fail
def conv (P : Program) (N : Nat) (dst : Option Tmp) (st : Nat) (s d : TypeId) (x : AV) : M :=
  match P.underlying s, P.underlying d, x with
  | some _, some (.int kd), .int _ n => out N dst (.int kd (kd.wrap n))
  | some _, some .string, .str l => out N dst (.str l)
  | some .string, some (.slice e), .str l => (match P.underlying e, ti P e with
    | some (.int .u8), some (_, 1, _) => mk N dst st 1 (u8s l) fun d => .own d st 0 l.length
    | _, _ => .fail)
  | some (.slice e), some .string, x => (match P.underlying e with
    | some (.int .u8) => cellsOf x fun n cs => (match intsOf cs with
      | some l => if l.length = n then out N dst (.str (u8n l)) else .fail
      | none => .fail)
    | _ => .fail)
  | some (.slice e), some (.slice _), .own tk g off n => if s = d then (match P.underlying e with
    | some (.int .u8) => row? tk g fun T => if 0 < n then .putT tk T (out N dst (.own tk g off n)) else .fail
    | _ => .fail) else .fail
  | _, _, _ => .fail
def intOf? : AV → Option Int
  | .int _ n => some n
  | _ => none
/-- A slice expression's bounds: low, high, and the bound for both. -/
def loOf : Option AV → Option Int
  | none => some 0
  | some v => intOf? v
def bounds (n : Nat) (lo hi mx : Option AV) (k : Nat → Nat → Nat → M) : M :=
  match loOf lo with
  | none => .fail
  | some l => match mx, hi with
    | none, none => if 0 ≤ l ∧ l ≤ n then k l.toNat n n else .fail
    | none, some (.int _ h) => if 0 ≤ l ∧ l ≤ h ∧ h ≤ n then k l.toNat h.toNat n else .fail
    | some (.int _ m), some (.int _ h) => if 0 ≤ l ∧ l ≤ h ∧ h ≤ m ∧ m ≤ n then k l.toNat h.toNat m.toNat else .fail
    | _, _ => .fail
def slice (P : Program) (N : Nat) (dst : Option Tmp) (t : TypeId) (x : AV) (lo hi mx : Option AV) : M :=
  match P.underlying t, x with
  | some .string, .str s => if mx.isSome then .fail else bounds s.length lo hi none fun l h _ => out N dst (.str ((s.take h).drop l))
  | some (.slice e), .nilS => (match ti P e with
    | some _ => bounds 0 lo hi mx fun _ _ _ => out N dst .nilS
    | none => .fail)
  | some (.slice e), .sl n cs => (match ti P e with
    | some (_, size, _) => if cs.length = n * size then bounds n lo hi mx fun l h _ => out N dst (.sl (h - l) ((cs.take (h * size)).drop (l * size))) else .fail
    | none => .fail)
  | some (.slice e), .own tk g off n => (match ti P e with
    | some (_, size, _) => row? tk g fun T => if T.sz = size then bounds n lo hi mx fun l h _ => out N dst (.own tk g (off + l * size) (h - l)) else .fail
    | none => .fail)
  | some (.array n e), .addr tk g off => (match ti P e, hi, mx with
    | some (_, size, _), none, none => bounds n lo none none fun l h _ => if l < h then out N dst (.arr tk g (off + l * size) (h - l)) else .fail
    | _, _, _ => .fail)
  | some (.array n e), .ptr cs off => (match ti P e with
    | some (_, size, _) => if off + n * size ≤ cs.length then bounds n lo hi mx fun l h _ => out N dst (.sl (h - l) ((cs.drop (off + l * size)).take ((h - l) * size))) else .fail
    | none => .fail)
  | _, _ => .fail
def fieldAddr (P : Program) (t : TypeId) (x : AV) (f : Nat) (k : AV → M) : M :=
  match P.underlying t with
  | some (.struct fields) => (match fields[f]? with
    | some fd => (match ti P fd.type with
      | some (_, size, _) => if size = 0 then .fail else (match x with
        | .addr tk g off => k (.addr tk g (off + fd.offset))
        | .ptr cs off => k (.ptr cs (off + fd.offset))
        | _ => .fail)
      | none => .fail)
    | none => .fail)
  | _ => .fail
def part (P : Program) (t : TypeId) (cs : List AV) (off : Nat) (k : AV → M) : M := ldCells P t cs off k
def field (P : Program) (t : TypeId) (x : AV) (f : Nat) (k : AV → M) : M :=
  match P.underlying t, x with
  | some (.struct fields), .agg cs => (match fields[f]? with
    | some fd => part P fd.type cs fd.offset k
    | none => .fail)
  | _, _ => .fail
def indexAddr (P : Program) (t : TypeId) (x ix : AV) (k : AV → M) : M :=
  match ix with
  | .int _ i => (match P.underlying t, x with
    | some (.slice e), .own tk g off n => (match ti P e with
      | some (_, size, _) => row? tk g fun _ => if 0 ≤ i ∧ i < n then k (.addr tk g (off + i.toNat * size)) else .fail
      | none => .fail)
    | some (.slice e), .arr tk g off n => (match ti P e with
      | some (_, size, _) => row? tk g fun _ => if 0 ≤ i ∧ i < n then k (.addr tk g (off + i.toNat * size)) else .fail
      | none => .fail)
    | some (.slice e), .sl n cs => (match ti P e with
      | some (_, size, _) => if 0 ≤ i ∧ i < n ∧ 0 < cs.length then k (.ptr cs (i.toNat * size)) else .fail
      | none => .fail)
    | some (.array n e), .addr tk g off => (match ti P e with
      | some (_, size, _) => if 0 ≤ i ∧ i < n then k (.addr tk g (off + i.toNat * size)) else .fail
      | none => .fail)
    | some (.array n e), .ptr cs off => (match ti P e with
      | some (_, size, _) => if 0 ≤ i ∧ i < n then k (.ptr cs (off + i.toNat * size)) else .fail
      | none => .fail)
    | _, _ => .fail)
  | _ => .fail
def index (P : Program) (t : TypeId) (x ix : AV) (k : AV → M) : M :=
  match ix with
  | .int _ i => (match P.underlying t, x with
    | some .string, .str s => if 0 ≤ i ∧ i < s.length then k (.int .u8 (s.getD i.toNat 0)) else .fail
    | some (.array n e), .agg cs => (match ti P e with
      | some (_, size, _) => if 0 ≤ i ∧ i < n then part P e cs (i.toNat * size) k else .fail
      | none => .fail)
    | _, _ => .fail)
  | _ => .fail
def lenB (P : Program) (t : TypeId) (x : AV) (k : AV → M) : M :=
  match P.underlying t, x with
  | some .string, .str s => k (.int .i64 s.length)
  | some (.slice _), .nilS => k (.int .i64 0)
  | some (.slice _), .sl n _ => k (.int .i64 n)
  | some (.slice _), .own _ _ _ n => k (.int .i64 n)
  | some (.slice _), .arr _ _ _ n => k (.int .i64 n)
  | some (.array n _), _ => k (.int .i64 n)
  | _, _ => .fail
/-- What an append's second argument yields. -/
def srcOf (P : Program) (tx : TypeId) (size : Nat) (x : AV) (k : Nat → List AV → M) : M :=
  match P.underlying tx, x with
  | some .string, .str l => if size = 1 then k l.length (u8s l) else .fail
  | some (.slice _), x => cellsOf x fun n cs => if cs.length = n * size then k n cs else .fail
  | _, _ => .fail
def appendB (P : Program) (N : Nat) (dst : Option Tmp) (st : Nat) (t tx : TypeId) (x y : AV) : M :=
  match P.underlying t with
  | some (.slice e) => (match zc P e with
    | some (_, size, by_) => if 0 < size then srcOf P tx size y fun m cs => (match x with
      | .nilS => if m * by_ ≤ 140737488355328 ∧ m ≤ 4611686018427387904 then mk N dst st size cs fun d => .own d st 0 m else .fail
      | .own tk g off n => row? tk g fun T => if off = 0 ∧ T.sz = size ∧ T.cs.length = n * size ∧ (n + m) * by_ ≤ 140737488355328 ∧ n + m ≤ 4611686018427387904 then
          .putT tk ⟨st, size, T.cs ++ cs⟩ (out N dst (.own tk st 0 (n + m))) else .fail
      | .arr tk g off n => row? tk g fun T => if 0 < m ∧ off + n * size ≤ T.cs.length ∧ (n + m) * by_ ≤ 140737488355328 ∧ n + m ≤ 4611686018427387904 then
          mk N dst st size ((T.cs.drop off).take (n * size) ++ cs) fun d => .own d st 0 (n + m) else .fail
      | _ => .fail) else .fail
    | none => .fail)
  | _ => .fail
def copyB (P : Program) (N : Nat) (dst : Option Tmp) (t tx : TypeId) (x y : AV) : M :=
  match P.underlying t with
  | some (.slice e) => (match ti P e with
    | some (_, size, _) => srcOf P tx size y fun m cs => (match x with
      | .own tk g off n => row? tk g fun T => if T.sz = size ∧ off + n * size ≤ T.cs.length then
          .putT tk { T with cs := setAll T.cs off (cs.take (min m n * size)) } (out N dst (.int .i64 (min m n : Nat))) else .fail
      | _ => .fail)
    | _ => .fail)
  | _ => .fail
def minmax (mx : Bool) (xs : List AV) (k : AV → M) : M :=
  match xs with
  | [.int k1 a, .int k2 b] => if k1 = k2 then k (.int k1 (if mx = true then (if b > a then b else a) else (if b < a then b else a))) else .fail
  | _ => .fail
/-- A call's arguments, as the callee sees them. -/
def cl : AV → AV
  | .nilS => .sl 0 []
  | x => x
def reifyC (x : AV) (k : AV → M) : M :=
  match x with
  | .nilS => k (.sl 0 [])
  | .own t g off n => row? t g fun T => if closedL ((T.cs.drop off).take (n * T.sz)) = true then k (.sl n ((T.cs.drop off).take (n * T.sz))) else .fail
  | .arr t g off n => row? t g fun T => if off + n * T.sz ≤ T.cs.length ∧ closedL ((T.cs.drop off).take (n * T.sz)) = true then k (.sl n ((T.cs.drop off).take (n * T.sz))) else .fail
  | x => if x.closed = true then k x else .fail
def reifyL : List AV → (List AV → M) → M
  | [], k => k []
  | x :: r, k => reifyC x fun y => reifyL r fun ys => k (y :: ys)
def reify (x : AV) (k : AV → M) : M :=
  match x with
  | .agg cs => reifyL cs fun ys => k (.agg ys)
  | .addr t g off => row? t g fun T => if closedL T.cs = true then k (.ptr T.cs off) else .fail
  | x => reifyC x k
def reifyA : List AV → (List AV → M) → M
  | [], k => k []
  | x :: r, k => reify x fun y => reifyA r fun ys => k (y :: ys)
/-- A call's answer comes in. -/
def back (N : Nat) (dst : Option Tmp) (st : Nat) (r : AV) (T : Option Tok) : M :=
  match T with
  | none => if r.closed = true then out N dst r else .fail
  | some T => match dst with
    | some d => if d < N then .putT d { T with g := st } (.putE d (r.ren d st) .ret) else .fail
    | none => .fail
def clA (x : AV) : AV :=
  match x with
  | .agg cs => .agg (cs.map cl)
  | x => cl x
def callV (N : Nat) (dst : Option Tmp) (st : Nat) (f : AV) (args : List AV) : M :=
  match f with
  | .fn f caps => if closedL (args ++ caps) = true then .call false f ((args ++ caps).map clA) N dst st
    else reifyA (args ++ caps) fun ys => .call true f ys N dst st
  | _ => .fail
def aop (P : Program) (N st : Nat) (o : Oper) : M :=
  match o.op with
  | .move x => ev N x (out N o.dst)
  | .assign x => ev N x (out N o.dst)
  | .pick c a b => ev N c fun x => (match x with | .bool t => if t = true then ev N a (out N o.dst) else ev N b (out N o.dst) | _ => .fail)
  | .alloc t => (match zc P t with | some (z, _, _) => mk N o.dst st 1 z fun d => .addr d st 0 | none => .fail)
  | .box t x => ev N x fun x => (match x.cells? with | some cs => mk N o.dst st 1 cs fun d => .addr d st 0 | none => .fail)
  | .build t parts => evP N parts.toList fun ps => (match P.underlying t, zc P t with
    | some (.struct fields), some (z, _, _) => (match places P fields with
      | some pl => (match afill (pl[·]?) z ps with | some cs => out N o.dst (.agg cs) | none => .fail)
      | none => .fail)
    | some (.array _ e), some (z, _, _) => (match ti P e with
      | some (_, size, _) => (match afill (fun i => some (i * size, size)) z ps with | some cs => out N o.dst (.agg cs) | none => .fail)
      | none => .fail)
    | _, _ => .fail)
  | .buildSlice t len parts => evP N parts.toList fun ps => (match P.underlying t with
    | some (.slice e) => (match zc P e with
      | some (z, size, _) => if len * size ≤ 16777216 then
          (match afill (fun i => some (i * size, size)) (zrep z len) ps with | some cs => mk N o.dst st size cs fun d => .own d st 0 len | none => .fail) else .fail
      | none => .fail)
    | _ => .fail)
  | .load t x => ev N x fun x => load P t x (out N o.dst)
  | .store t x y => ev N x fun x => ev N y fun y => (match o.dst with | none => store P t x y .ret | some _ => .fail)
  | .nilCheck x => ev N x fun x => (match x with | .addr t g off => out N o.dst (.addr t g off) | .ptr cs off => out N o.dst (.ptr cs off) | _ => .fail)
  | .binOp op t x y _ => ev N x fun x => ev N y fun y => bin P op t x y (out N o.dst)
  | .unOp op _ x => ev N x fun x => aun op x (out N o.dst)
  | .convert s d x => ev N x fun x => conv P N o.dst st s d x
  | .makeFunc fn first caps => evL N caps.toList fun cs => (match fn with | .func f => if first.size = 0 then out N o.dst (.fn f cs) else .fail | _ => .fail)
  | .makeSlice t l c => ev N l fun l => ev N c fun c => (match l, c, P.underlying t with
    | .int .i64 l, .int .i64 c, some (.slice e) => (match zc P e with
      | some (z, size, by_) => if 0 ≤ l ∧ l ≤ c ∧ (by_ : Int) * c ≤ 140737488355328 ∧ c ≤ 4611686018427387904 ∧ 0 < size then mk N o.dst st size (zrep z l.toNat) fun d => .own d st 0 l.toNat else .fail
      | none => .fail)
    | _, _, _ => .fail)
  | .slice t x lo hi mx => ev N x fun x => evL N lo.toList fun lo => evL N hi.toList fun hi => evL N mx.toList fun mx => slice P N o.dst t x lo.head? hi.head? mx.head?
  | .fieldAddr t x f => ev N x fun x => fieldAddr P t x f (out N o.dst)
  | .field t x f => ev N x fun x => field P t x f (out N o.dst)
  | .indexAddr t x ix => ev N x fun x => ev N ix fun ix => indexAddr P t x ix (out N o.dst)
  | .index t x ix => ev N x fun x => ev N ix fun ix => index P t x ix (out N o.dst)
  | .extract t i => ev N t fun t => (match t with | .tup cs => if i < cs.length then out N o.dst (cs.getD i .dead) else .fail | _ => .fail)
  | .call c => evL N c.args.toList fun xs => (match c.callee with
    | .value f => ev N f fun f => callV N o.dst st f xs
    | .builtin .len => (match xs, c.argTypes[0]? with | [x], some t => lenB P t x (out N o.dst) | _, _ => .fail)
    | .builtin .append => (match xs, c.argTypes[0]?, c.argTypes[1]? with | [x, y], some t, some tx => appendB P N o.dst st t tx x y | _, _, _ => .fail)
    | .builtin .copy => (match xs, c.argTypes[0]?, c.argTypes[1]? with | [x, y], some t, some tx => copyB P N o.dst t tx x y | _, _, _ => .fail)
    | .builtin .min => minmax false xs (out N o.dst)
    | .builtin .max => minmax true xs (out N o.dst)
    | _ => .fail)
  | _ => .fail

/-! ### What running one is -/
inductive M.Runs (P : Program) : M → AS → AS → Prop
  | ret (s : AS) : Runs P .ret s s
  | getE (i : Nat) (k : AV → M) (s s' : AS) (h : Runs P (k (s.env i)) s s') : Runs P (.getE i k) s s'
  | getT (t : Nat) (k : Option Tok → M) (s s' : AS) (h : Runs P (k (s.tk t)) s s') : Runs P (.getT t k) s s'
  | putE (i : Nat) (x : AV) (k : M) (s s' : AS) (h : Runs P k (s.setE i x) s') : Runs P (.putE i x k) s s'
  | putT (t : Nat) (T : Tok) (k : M) (s s' : AS) (h : Runs P k (s.setT t T) s') : Runs P (.putT t T k) s s'
  | call (b : Bool) (f : FuncId) (args : List AV) (N : Nat) (dst : Option Tmp) (st : Nat) (s s' : AS) (r : AV) (T : Option Tok) (hc : ACallX P f args r T)
      (hb : b = true → r.noSl = true ∧ ∀ T0, T = some T0 → noSlL T0.cs = true) (h : Runs P (back N dst st r T) s s') : Runs P (.call b f args N dst st) s s'
/-- A call that is not entered yet. -/
def CallWp (P : Program) (b : Bool) (f : FuncId) (args : List AV) (N : Nat) (dst : Option Tmp) (st : Nat) (s : AS) (K : AS → Prop) : Prop :=
  ∃ r T s', ACallX P f args r T ∧ (b = true → r.noSl = true ∧ ∀ T0, T = some T0 → noSlL T0.cs = true) ∧ (back N dst st r T).Runs P s s' ∧ K s'
def M.wp (P : Program) : M → AS → (AS → Prop) → Prop
  | .ret, s, K => K s
  | .fail, _, _ => False
  | .getE i k, s, K => (k (s.env i)).wp P s K
  | .getT t k, s, K => (k (s.tk t)).wp P s K
  | .putE i x k, s, K => k.wp P (s.setE i x) K
  | .putT t T k, s, K => k.wp P (s.setT t T) K
  | .call b f args N dst st, s, K => CallWp P b f args N dst st s K
theorem M.wp_runs {P : Program} : ∀ {m : M} {s : AS} {K : AS → Prop}, m.wp P s K → ∃ s', m.Runs P s s' ∧ K s'
  | .ret, s, K, h => ⟨s, .ret s, h⟩
  | .fail, _, _, h => h.elim
  | .getE i k, s, K, h => let ⟨s', r, hk⟩ := M.wp_runs (m := k (s.env i)) h; ⟨s', .getE i k s s' r, hk⟩
  | .getT t k, s, K, h => let ⟨s', r, hk⟩ := M.wp_runs (m := k (s.tk t)) h; ⟨s', .getT t k s s' r, hk⟩
  | .putE i x k, s, K, h => let ⟨s', r, hk⟩ := M.wp_runs (m := k) h; ⟨s', .putE i x k s s' r, hk⟩
  | .putT t T k, s, K, h => let ⟨s', r, hk⟩ := M.wp_runs (m := k) h; ⟨s', .putT t T k s s' r, hk⟩
  | .call b f args N dst st, s, K, h => let ⟨r, T, s', hc, hb, rr, hk⟩ := h; ⟨s', .call b f args N dst st s s' r T hc hb rr, hk⟩
/-- A call is met by its contract. -/
theorem call_intro {P : Program} {b : Bool} {f : FuncId} {args : List AV} {N : Nat} {dst : Option Tmp} {st : Nat} {s : AS} {K : AS → Prop} {r : AV} {T : Option Tok} (hc : ACall P f args r T)
    (hb : b = true → r.noSl = true ∧ ∀ T0, T = some T0 → noSlL T0.cs = true) (h : (back N dst st r T).wp P s K) : CallWp P b f args N dst st s K :=
  let ⟨s', rr, hk⟩ := M.wp_runs h
  ⟨r, T, s', .inl hc, hb, rr, hk⟩
/-- A call of what the model runs at one stroke. -/
theorem call_introX {P : Program} {b : Bool} {f : FuncId} {args : List AV} {N : Nat} {dst : Option Tmp} {st : Nat} {s : AS} {K : AS → Prop} {r : AV} {T : Option Tok} (hc : XCall P f args r T)
    (hb : b = true → r.noSl = true ∧ ∀ T0, T = some T0 → noSlL T0.cs = true) (h : (back N dst st r T).wp P s K) : CallWp P b f args N dst st s K :=
  let ⟨s', rr, hk⟩ := M.wp_runs h
  ⟨r, T, s', .inr hc, hb, rr, hk⟩
end Go.Eng

/- The engine, part 2: how a state stays in step with the world. For every program. -/
set_option linter.unusedVariables false
namespace Go.Eng
open Go.RowKit

variable {P : Program} {N : Nat} {F : Fr} {s s' : AS} {cx : Cx} {a : Act} {w : World}

theorem put_get (a : Act) (d : Nat) (v : Value) (i : Nat) (hd : d < a.tmps.size) : (a.put (some d) v).tmps.getD i undef = if i = d then v else a.tmps.getD i undef := by
  unfold Act.put
  simp only [Array.getD_eq_getD_getElem?, Array.getElem?_setIfInBounds]
  by_cases e : d = i
  · subst e; simp [hd]
  · rw [if_neg e, if_neg (fun h => e h.symm)]

theorem SimC.putE (h : SimC N F s cx a w) {d : Nat} (hd : d < N) {x : AV} {v : Value} (hx : Rep cx x v) : SimC N F (s.setE d x) cx (a.put (some d) v) w := by
  refine { h with tk := h.tk, size := by simpa [Act.put] using h.size, defers := h.defers, env := fun i hi => ?_ }
  rw [put_get a d v i (by rw [h.size]; exact hd)]
  show Rep cx (if i = d then x else s.env i) _
  by_cases e : i = d
  · rw [if_pos e, if_pos e]; exact hx
  · rw [if_neg e, if_neg e]; exact h.env i hi

theorem SimC.putD (h : SimC N F s cx a w) (dst : Option Tmp) (v : Value) (hd : dst = none) : SimC N F s cx (a.put dst v) w := by subst hd; exact h

theorem TokAt.tr {cx cx' : Cx} (T : Tr cx cx') {k : Tok} {b : Nat} (h : TokAt cx k b) (hb : cx'.h[b]? = cx.h[b]?) : TokAt cx' k b := by
  obtain ⟨arr, el, fz, h1, h2, h3, h4, h5⟩ := h
  exact ⟨arr, el, fz, hb.trans h1, h2, h3, h4, fun i x v hx hv => (h5 i x v hx hv).tr T⟩

/-- The world's heap is what it was. -/
theorem SimC.world (h : SimC N F s cx a w) {w' : World} (hh : w'.heap = w.heap) (ho : w'.os = w.os) (ht : w'.tape = w.tape) (hp : w'.output = w.output) : SimC N F s cx a w' :=
  { h := h.h.trans hh.symm, tk := h.tk, size := h.size, defers := h.defers, env := h.env, none_ := h.none_, row := h.row, stamp := h.stamp, inj := h.inj, apart := h.apart, free := h.free
    Zlt := fun b hb => by rw [hh]; exact h.Zlt b hb
    tr := h.tr, Z0 := h.Z0, Znew := h.Znew, os := ho.trans h.os, tape := ht.trans h.tape, output := hp.trans h.output
    grow := by rw [hh]; exact h.grow
    prot := fun b hb => by rw [hh]; exact h.prot b hb }

def Cx.withU (cx : Cx) (U : Nat → Prop) : Cx := { cx with U := U }
theorem Tr.withU (cx : Cx) (U : Nat → Prop) (hU : ∀ g, cx.U g → U g) : Tr cx (cx.withU U) :=
  Tr.of (fun _ h => ⟨h, rfl⟩) (hU) (fun t T' h _ => ⟨T', h, rfl, rfl, rfl⟩) (fun _ _ _ arr el fz _ _ h => ⟨arr, el, fz, h, Nat.le_refl _⟩)
theorem SimC.moreU (h : SimC N F s cx a w) (U : Nat → Prop) (hU : ∀ g, cx.U g → U g) : SimC N F s (cx.withU U) a w :=
  { h with tr := h.tr.trans (Tr.withU cx U hU), env := fun i hi => (h.env i hi).tr (Tr.withU cx U hU), row := fun t T b ht hb => (h.row t T b ht hb).tr (Tr.withU cx U hU) rfl, stamp := fun t T ht => hU _ (h.stamp t T ht) }
theorem Sim.moreU {U U' : Nat → Prop} (h : Sim N F U s a w) (hU : ∀ g, U g → U' g) : Sim N F U' s a w := by
  obtain ⟨cx, rfl, h⟩ := h
  exact ⟨cx.withU U', rfl, h.moreU U' hU⟩

/-- Where a row of one's own lies. -/
theorem SimC.blk (h : SimC N F s cx a w) {t : Nat} {T : Tok} {b : Nat} (ht : cx.tk t = some T) (hb : cx.ρ t = some b) : b < w.heap.size := by
  obtain ⟨arr, el, fz, h1, _⟩ := h.row t T b ht hb
  rw [h.h] at h1
  exact (Array.getElem?_eq_some_iff.1 h1).1

def Cx.newTok (cx : Cx) (w' : World) (d : Nat) (b : Option Nat) (T : Tok) : Cx :=
  { h := w'.heap, Z := cx.Z, ρ := fun i => if i = d then b else cx.ρ i, tk := fun i => if i = d then some T else cx.tk i, U := fun g => cx.U g ∨ g = T.g }

/-- A new row of one's own. -/
theorem SimC.newTok (h : SimC N F s cx a w) (d : Nat) (T : Tok) (arr : Array Value) (el : TypeId) (fz : Nat × Nat) (w' : World) (hh : w'.heap = w.heap.push (.cells arr el fz)) (ho : w'.os = w.os)
    (ht : w'.tape = w.tape) (hp : w'.output = w.output) (hst : ¬ cx.U T.g) (hfz : FzOk arr.size fz) (h1 : ∀ (i : Nat) (v : Value), arr[i]? = some v → cell1 v = true)
    (hl : T.cs.length ≤ arr.size) (hr : ∀ (i : Nat) (x : AV) (v : Value), T.cs[i]? = some x → arr[i]? = some v → Rep cx x v) :
    Tr cx (cx.newTok w' d (some w.heap.size) T) ∧ SimC N F (s.setT d T) (cx.newTok w' d (some w.heap.size) T) a w' := by
  have hlt : ∀ b : Nat, b < w.heap.size → w'.heap[b]? = w.heap[b]? := fun b hb => by rw [hh, Array.getElem?_push, if_neg (by omega)]
  have hnew : w'.heap[w.heap.size]? = some (.cells arr el fz) := by rw [hh, Array.getElem?_push, if_pos rfl]
  have hsz : w'.heap.size = w.heap.size + 1 := by rw [hh]; simp
  have hTr : Tr cx (cx.newTok w' d (some w.heap.size) T) := by
    refine Tr.of (fun b hb => ⟨hb, ?_⟩) (fun g hg => .inl hg) (fun t T' e hu => ?_) (fun t T0 b arr0 el0 fz0 e1 e2 e3 => ⟨arr0, el0, fz0, ?_, Nat.le_refl _⟩)
    · show w'.heap[b]? = _
      rw [hlt b (h.Zlt b hb), h.h]
    · simp only [Cx.newTok] at e
      split at e
      · cases e; exact absurd hu hst
      · rename_i hne; exact ⟨T', e, rfl, rfl, by simp [Cx.newTok, hne]⟩
    · show w'.heap[b]? = _
      rw [hlt b (h.blk e1 e2), ← h.h]; exact e3
  refine ⟨hTr, ?_⟩
  refine { h := rfl, tk := ?_, size := h.size, defers := h.defers, env := fun i hi => (h.env i hi).tr hTr, none_ := fun t T0 e1 e2 => ?_, row := fun t T0 b e1 e2 => ?_, stamp := fun t T0 e => ?_, inj := fun t t' T0 T1 b e1 e2 e3 e4 => ?_, apart := fun t T0 b e1 e2 => ?_, free := fun t T0 b e1 e2 => ?_, Zlt := fun b hb => ?_, tr := h.tr.trans hTr, Z0 := h.Z0, Znew := h.Znew, os := ho.trans h.os, tape := ht.trans h.tape, output := hp.trans h.output, grow := by have := h.grow; omega, prot := fun b hb => ?_ }
  · funext i; simp [Cx.newTok, AS.setT, h.tk]
  · simp only [Cx.newTok] at e1 e2
    split at e1
    · rename_i hd; rw [if_pos hd] at e2; cases e2
    · rename_i hd; rw [if_neg hd] at e2; exact h.none_ t T0 e1 e2
  · simp only [Cx.newTok] at e1 e2
    split at e1
    · rename_i hd
      rw [if_pos hd] at e2
      cases e1; cases e2
      exact ⟨arr, el, fz, hnew, hfz, h1, hl, fun i x v hx hv => (hr i x v hx hv).tr hTr⟩
    · rename_i hd
      rw [if_neg hd] at e2
      exact (h.row t T0 b e1 e2).tr hTr (by show w'.heap[b]? = _; rw [hlt b (h.blk e1 e2), h.h])
  · simp only [Cx.newTok] at e
    split at e
    · cases e; exact .inr rfl
    · exact .inl (h.stamp t T0 e)
  · simp only [Cx.newTok] at e1 e2 e3 e4
    split at e1
    · rename_i hd
      rw [if_pos hd] at e3
      cases e3
      split at e2
      · rename_i hd'; rw [hd, hd']
      · rename_i hd'
        rw [if_neg hd'] at e4
        have := h.blk e2 e4
        omega
    · rename_i hd
      rw [if_neg hd] at e3
      split at e2
      · rename_i hd'
        rw [if_pos hd'] at e4
        cases e4
        have := h.blk e1 e3
        omega
      · rename_i hd'
        rw [if_neg hd'] at e4
        exact h.inj t t' T0 T1 b e1 e2 e3 e4
  · simp only [Cx.newTok] at e1 e2
    split at e1
    · rename_i hd
      rw [if_pos hd] at e2
      cases e2
      intro hz
      exact absurd (h.Zlt _ hz) (by omega)
    · rename_i hd
      rw [if_neg hd] at e2
      exact h.apart t T0 b e1 e2
  · simp only [Cx.newTok] at e1 e2
    split at e1
    · rename_i hd
      rw [if_pos hd] at e2
      cases e2
      intro hz
      have := (h.prot _ hz).1
      have := h.grow
      omega
    · rename_i hd
      rw [if_neg hd] at e2
      exact h.free t T0 b e1 e2
  · have := h.Zlt b hb; omega
  · have hp := h.prot b hb
    have := h.grow
    exact ⟨hp.1, by rw [hlt b (by omega)]; exact hp.2⟩

/-- A row that is none yet. -/
theorem SimC.lazyTok (h : SimC N F s cx a w) (d : Nat) (T : Tok) (w' : World) (hh : w'.heap = w.heap) (ho : w'.os = w.os)
    (ht : w'.tape = w.tape) (hp : w'.output = w.output) (hst : ¬ cx.U T.g) (hc : T.cs = []) :
    Tr cx (cx.newTok w' d none T) ∧ SimC N F (s.setT d T) (cx.newTok w' d none T) a w' := by
  have hTr : Tr cx (cx.newTok w' d none T) := by
    refine Tr.of (fun b hb => ⟨hb, ?_⟩) (fun g hg => .inl hg) (fun t T' e hu => ?_) (fun t T0 b arr0 el0 fz0 e1 e2 e3 => ⟨arr0, el0, fz0, ?_, Nat.le_refl _⟩)
    · show w'.heap[b]? = _
      rw [hh, h.h]
    · simp only [Cx.newTok] at e
      split at e
      · cases e; exact absurd hu hst
      · rename_i hne; exact ⟨T', e, rfl, rfl, by simp [Cx.newTok, hne]⟩
    · show w'.heap[b]? = _
      rw [hh, ← h.h]; exact e3
  refine ⟨hTr, ?_⟩
  refine { h := rfl, tk := ?_, size := h.size, defers := h.defers, env := fun i hi => (h.env i hi).tr hTr, none_ := fun t T0 e1 e2 => ?_, row := fun t T0 b e1 e2 => ?_, stamp := fun t T0 e => ?_, inj := fun t t' T0 T1 b e1 e2 e3 e4 => ?_, apart := fun t T0 b e1 e2 => ?_, free := fun t T0 b e1 e2 => ?_, Zlt := fun b hb => by rw [hh]; exact h.Zlt b hb, tr := h.tr.trans hTr, Z0 := h.Z0, Znew := h.Znew, os := ho.trans h.os, tape := ht.trans h.tape, output := hp.trans h.output, grow := by rw [hh]; exact h.grow, prot := fun b hb => by rw [hh]; exact h.prot b hb }
  · funext i; simp [Cx.newTok, AS.setT, h.tk]
  · simp only [Cx.newTok] at e1 e2
    split at e1
    · cases e1; exact hc
    · rename_i hd; rw [if_neg hd] at e2; exact h.none_ t T0 e1 e2
  · simp only [Cx.newTok] at e1 e2
    split at e1
    · rename_i hd; rw [if_pos hd] at e2; cases e2
    · rename_i hd
      rw [if_neg hd] at e2
      exact (h.row t T0 b e1 e2).tr hTr (by show w'.heap[b]? = _; rw [hh, h.h])
  · simp only [Cx.newTok] at e
    split at e
    · cases e; exact .inr rfl
    · exact .inl (h.stamp t T0 e)
  · simp only [Cx.newTok] at e1 e2 e3 e4
    split at e1
    · rename_i hd; rw [if_pos hd] at e3; cases e3
    · rename_i hd
      rw [if_neg hd] at e3
      split at e2
      · rename_i hd'; rw [if_pos hd'] at e4; cases e4
      · rename_i hd'
        rw [if_neg hd'] at e4
        exact h.inj t t' T0 T1 b e1 e2 e3 e4
  · simp only [Cx.newTok] at e1 e2
    split at e1
    · rename_i hd; rw [if_pos hd] at e2; cases e2
    · rename_i hd; rw [if_neg hd] at e2; exact h.apart t T0 b e1 e2
  · simp only [Cx.newTok] at e1 e2
    split at e1
    · rename_i hd; rw [if_pos hd] at e2; cases e2
    · rename_i hd; rw [if_neg hd] at e2; exact h.free t T0 b e1 e2

def Cx.updTok (cx : Cx) (w' : World) (d : Nat) (T : Tok) : Cx :=
  { h := w'.heap, Z := cx.Z, ρ := cx.ρ, tk := fun i => if i = d then some T else cx.tk i, U := fun g => cx.U g ∨ g = T.g }

/-- A row of one's own is written. -/
theorem SimC.updTok (h : SimC N F s cx a w) {d b : Nat} {T T' : Tok} (e1 : cx.tk d = some T) (e2 : cx.ρ d = some b) (arr arr' : Array Value) (el el' : TypeId) (fz fz' : Nat × Nat)
    (hb : w.heap[b]? = some (.cells arr el fz)) (w' : World) (hb' : w'.heap[b]? = some (.cells arr' el' fz')) (hh : ∀ k, k ≠ b → w'.heap[k]? = w.heap[k]?) (hsz : w'.heap.size = w.heap.size) (ho : w'.os = w.os)
    (ht : w'.tape = w.tape) (hp : w'.output = w.output) (hg : T'.g = T.g ∨ ¬ cx.U T'.g) (hs : T'.sz = T.sz) (ha : arr.size ≤ arr'.size) (hfz : FzOk arr'.size fz')
    (h1 : ∀ (i : Nat) (v : Value), arr'[i]? = some v → cell1 v = true) (hl : T'.cs.length ≤ arr'.size) (hr : ∀ (i : Nat) (x : AV) (v : Value), T'.cs[i]? = some x → arr'[i]? = some v → Rep cx x v) :
    Tr cx (cx.updTok w' d T') ∧ SimC N F (s.setT d T') (cx.updTok w' d T') a w' := by
  have hTr : Tr cx (cx.updTok w' d T') := by
    refine Tr.of (fun k hk => ⟨hk, ?_⟩) (fun g hg => .inl hg) (fun t T0 e hu => ?_) (fun t T0 k arr0 el0 fz0 f1 f2 f3 => ?_)
    · show w'.heap[k]? = _
      rw [hh k (fun e => h.apart d T b e1 e2 (e ▸ hk)), h.h]
    · simp only [Cx.updTok] at e
      split at e
      · rename_i hd
        cases e
        rcases hg with hg | hg
        · exact ⟨T, by rw [hd]; exact e1, hg.symm, hs.symm, rfl⟩
        · exact absurd hu hg
      · exact ⟨T0, e, rfl, rfl, rfl⟩
    · by_cases e : k = b
      · subst e
        rw [h.h, hb] at f3
        cases f3
        exact ⟨arr', el', fz', hb', ha⟩
      · exact ⟨arr0, el0, fz0, by show w'.heap[k]? = _; rw [hh k e, ← h.h]; exact f3, Nat.le_refl _⟩
  refine ⟨hTr, ?_⟩
  refine { h := rfl, tk := ?_, size := h.size, defers := h.defers, env := fun i hi => (h.env i hi).tr hTr, none_ := fun t T0 f1 f2 => ?_, row := fun t T0 k f1 f2 => ?_, stamp := fun t T0 e => ?_, inj := fun t t' T0 T1 k f1 f2 f3 f4 => ?_, apart := fun t T0 k f1 f2 => ?_, free := fun t T0 k f1 f2 => ?_, Zlt := fun k hk => by rw [hsz]; exact h.Zlt k hk, tr := h.tr.trans hTr, Z0 := h.Z0, Znew := h.Znew, os := ho.trans h.os, tape := ht.trans h.tape, output := hp.trans h.output, grow := by rw [hsz]; exact h.grow, prot := fun k hk => ?_ }
  · funext i; simp [Cx.updTok, AS.setT, h.tk]
  · simp only [Cx.updTok] at f1 f2
    split at f1
    · rename_i hd; rw [hd, e2] at f2; cases f2
    · exact h.none_ t T0 f1 f2
  · simp only [Cx.updTok] at f1 f2
    split at f1
    · rename_i hd
      rw [hd, e2] at f2
      cases f1; cases f2
      exact ⟨arr', el', fz', hb', hfz, h1, hl, fun i x v hx hv => (hr i x v hx hv).tr hTr⟩
    · rename_i hd
      refine (h.row t T0 k f1 f2).tr hTr (by show w'.heap[k]? = _; rw [hh k (fun e => hd (h.inj t d T0 T k f1 e1 f2 (by rw [e]; exact e2))), h.h])
  · simp only [Cx.updTok] at e
    split at e
    · cases e; exact .inr rfl
    · exact .inl (h.stamp t T0 e)
  · simp only [Cx.updTok] at f1 f2 f3 f4
    have g1 : ∃ T2, cx.tk t = some T2 := by
      split at f1
      · rename_i hd; exact ⟨T, by rw [hd]; exact e1⟩
      · exact ⟨T0, f1⟩
    have g2 : ∃ T2, cx.tk t' = some T2 := by
      split at f2
      · rename_i hd; exact ⟨T, by rw [hd]; exact e1⟩
      · exact ⟨T1, f2⟩
    obtain ⟨Ta, g1⟩ := g1
    obtain ⟨Tb, g2⟩ := g2
    exact h.inj t t' Ta Tb k g1 g2 f3 f4
  · simp only [Cx.updTok] at f1 f2
    split at f1
    · rename_i hd; exact h.apart t T k (by rw [hd]; exact e1) f2
    · exact h.apart t T0 k f1 f2
  · simp only [Cx.updTok] at f1 f2
    split at f1
    · rename_i hd; exact h.free t T k (by rw [hd]; exact e1) f2
    · exact h.free t T0 k f1 f2
  · have hq := h.prot k hk
    exact ⟨hq.1, by rw [hh k (fun e => h.free d T b e1 e2 (e ▸ hk))]; exact hq.2⟩

/-! ### Operands -/
theorem bytes_ext {s : ByteArray} : s.data.toList.length = s.size := by rw [Array.length_toList]; rfl
theorem rep_absV (cx : Cx) (v : Value) : Rep cx (absV v) v := by
  unfold absV
  split <;> first | constructor | skip
  exact rfl
theorem ev_runs {o : Operand} {k : AV → M} (h : SimC N F s cx a w) (hr : (ev N o k).Runs P s s') : ∃ x, (k x).Runs P s s' ∧ Rep cx x (a.eval o) := by
  cases o with
  | tmp t =>
    simp only [ev] at hr
    split at hr
    · rename_i ht
      cases hr
      rename_i hr
      exact ⟨_, hr, h.env t ht⟩
    · cases hr
  | const v => exact ⟨_, hr, rep_absV cx v⟩
  | global g => cases hr
  | func f => exact ⟨_, hr, .fn f [] #[] rfl (fun i x v hx => by simp at hx)⟩
theorem evL_runs (h : SimC N F s cx a w) : ∀ {os : List Operand} {k : List AV → M}, (evL N os k).Runs P s s' → ∃ xs, (k xs).Runs P s s' ∧ RepL cx xs (os.map a.eval)
  | [], k, hr => ⟨[], hr, RepL.nil cx⟩
  | o :: os, k, hr => by
    obtain ⟨x, hr, hx⟩ := ev_runs h hr
    obtain ⟨xs, hr, hxs⟩ := evL_runs h hr
    exact ⟨x :: xs, hr, .cons hx hxs⟩
theorem evP_runs (h : SimC N F s cx a w) : ∀ {os : List (Nat × Operand)} {k : List (Nat × AV) → M}, (evP N os k).Runs P s s' →
    ∃ xs, (k xs).Runs P s s' ∧ xs.map Prod.fst = os.map Prod.fst ∧ RepL cx (xs.map Prod.snd) (os.map fun o => a.eval o.2)
  | [], k, hr => ⟨[], hr, rfl, RepL.nil cx⟩
  | (i, o) :: os, k, hr => by
    obtain ⟨x, hr, hx⟩ := ev_runs h hr
    obtain ⟨xs, hr, he, hxs⟩ := evP_runs h hr
    exact ⟨(i, x) :: xs, hr, by simp [he], .cons hx hxs⟩
theorem row_runs {t g : Nat} {k : Tok → M} (h : SimC N F s cx a w) (hr : (row? t g k).Runs P s s') : ∃ T, cx.tk t = some T ∧ T.g = g ∧ (k T).Runs P s s' := by
  unfold row? at hr
  cases hr
  rename_i hr
  rw [← h.tk] at hr
  cases e : cx.tk t with
  | none => rw [e] at hr; cases hr
  | some T =>
    rw [e] at hr
    simp only at hr
    split at hr
    · rename_i hg; exact ⟨T, rfl, hg, hr⟩
    · cases hr

/-! ### An operation that only reckons -/
def Nx (N : Nat) (F : Fr) (U : Nat → Prop) (s' : AS) (next : Act → World → Prop) : Prop := ∀ a' w', Sim N F U s' a' w' → next a' w'

theorem done_out {o : Oper} {next : Act → World → Prop} {Q : Exit → Act → World → Prop} {x : AV} {v : Value} {w' : World} (h : SimC N F s cx a w') (hrun : (execOp a.eval o).run P w = .ok (.value v) w')
    (hr : (out N o.dst x).Runs P s s') (hx : Rep cx x v) {U : Nat → Prop} (hU : ∀ g, cx.U g → U g) (hn : Nx N F U s' next) : o.wp P a w next Q := by
  unfold Oper.wp
  rw [hrun, Oper.upon_value]
  unfold out at hr
  cases hd : o.dst with
  | none =>
    rw [hd] at hr
    cases hr
    exact hn _ _ (Sim.moreU ⟨cx, rfl, h⟩ hU)
  | some d =>
    rw [hd] at hr
    simp only at hr
    split at hr
    · rename_i hlt
      cases hr
      rename_i hr
      cases hr
      exact hn _ _ (Sim.moreU ⟨cx, rfl, h.putE hlt hx⟩ hU)
    · cases hr
/-- One that makes a row (or a box). -/
theorem done_mk {o : Oper} {next : Act → World → Prop} {Q : Exit → Act → World → Prop} {st sz : Nat} {cs : List AV} {x : Nat → AV} {v : Value} {w' : World} (h : SimC N F s cx a w)
    (hr : (mk N o.dst st sz cs x).Runs P s s') (hst : ¬ cx.U st) (arr : Array Value) (el : TypeId) (fz : Nat × Nat) (hh : w'.heap = w.heap.push (.cells arr el fz)) (ho : w'.os = w.os)
    (ht : w'.tape = w.tape) (hp : w'.output = w.output) (hfz : FzOk arr.size fz) (h1 : ∀ (i : Nat) (v : Value), arr[i]? = some v → cell1 v = true)
    (hl : cs.length ≤ arr.size) (hc : ∀ (i : Nat) (x : AV) (v : Value), cs[i]? = some x → arr[i]? = some v → Rep cx x v)
    (hrun : (execOp a.eval o).run P w = .ok (.value v) w') (hx : ∀ d cx', cx'.tk d = some ⟨st, sz, cs⟩ → cx'.ρ d = some w.heap.size → cx'.U st → cx'.h[w.heap.size]? = some (.cells arr el fz) → Rep cx' (x d) v)
    (hn : Nx N F (fun g => cx.U g ∨ g = st) s' next) : o.wp P a w next Q := by
  unfold Oper.wp
  rw [hrun, Oper.upon_value]
  unfold mk at hr
  cases hd : o.dst with
  | none => rw [hd] at hr; cases hr
  | some d =>
    rw [hd] at hr
    simp only at hr
    split at hr
    · rename_i hlt
      cases hr
      rename_i hr
      cases hr
      rename_i hr
      cases hr
      have hk := h.newTok d ⟨st, sz, cs⟩ arr el fz w' hh ho ht hp hst hfz h1 hl hc
      refine hn _ _ ⟨_, rfl, hk.2.putE hlt (hx d _ ?_ ?_ ?_ ?_)⟩
      · simp [Cx.newTok]
      · simp [Cx.newTok]
      · exact .inr rfl
      · show w'.heap[w.heap.size]? = _
        rw [hh, Array.getElem?_push, if_pos rfl]
    · cases hr
end Go.Eng

/- The engine, part 3: operations that only reckon, boxes, loads. For every program. -/
set_option linter.unusedVariables false
namespace Go.Eng
open Go.RowKit

variable {P : Program} {N : Nat} {F : Fr} {s s' : AS} {cx : Cx} {a : Act} {w : World}

/-- An operation does in the world what the abstract machine says. -/
def Snd (P : Program) (N st : Nat) (o : Oper) : Prop :=
  ∀ (F : Fr) (s s' : AS) (cx : Cx) (a : Act) (w : World) (next : Act → World → Prop) (Q : Exit → Act → World → Prop),
    (aop P N st o).Runs P s s' → ¬ cx.U st → SimC N F s cx a w → Nx N F (fun g => cx.U g ∨ g = st) s' next → o.wp P a w next Q

/-! ### What stands behind an abstract value -/
theorem rep_bool {b : Bool} {v : Value} (h : Rep cx (.bool b) v) : v = .bool b := by cases h; rfl
theorem rep_int {k : IntKind} {n : Int} {v : Value} (h : Rep cx (.int k n) v) : v = .int k n := by cases h; rfl
theorem rep_str {l : List Int} {v : Value} (h : Rep cx (.str l) v) : ∃ s, v = .string s ∧ bytesOf s = l := by cases h; exact ⟨_, rfl, ‹_›⟩
theorem rep_agg {cs : List AV} {v : Value} (h : Rep cx (.agg cs) v) : ∃ vs : Array Value, v = .agg vs ∧ RepL cx cs vs.toList ∧ ∀ (i : Nat) (u : Value), vs[i]? = some u → cell1 u = true := by
  cases h with
  | agg _ vs hl h1 h => exact ⟨vs, rfl, ⟨by simpa using hl, fun i x u hx hu => h i x u hx (by simpa using hu)⟩, h1⟩
theorem rep_tup {cs : List AV} {v : Value} (h : Rep cx (.tup cs) v) : ∃ vs : Array Value, v = .tuple vs ∧ RepL cx cs vs.toList := by
  cases h with
  | tup _ vs hl h => exact ⟨vs, rfl, ⟨by simpa using hl, fun i x u hx hu => h i x u hx (by simpa using hu)⟩⟩
theorem rep_fn {f : FuncId} {cs : List AV} {v : Value} (h : Rep cx (.fn f cs) v) : ∃ vs : Array Value, v = .func (.func f) #[] vs ∧ RepL cx cs vs.toList := by
  cases h with
  | fn _ _ vs hl h => exact ⟨vs, rfl, ⟨by simpa using hl, fun i x u hx hu => h i x u hx (by simpa using hu)⟩⟩
theorem rep_mkagg {cs : List AV} {vs : Array Value} (h : RepL cx cs vs.toList) (h1 : ∀ (i : Nat) (u : Value), vs[i]? = some u → cell1 u = true) : Rep cx (.agg cs) (.agg vs) :=
  .agg cs vs (by simpa using h.1) h1 fun i x u hx hu => h.2 i x u hx (by simpa using hu)
theorem rep_mktup {cs : List AV} {vs : Array Value} (h : RepL cx cs vs.toList) : Rep cx (.tup cs) (.tuple vs) :=
  .tup cs vs (by simpa using h.1) fun i x u hx hu => h.2 i x u hx (by simpa using hu)
theorem cells_rep {x : AV} {v : Value} {cs : List AV} (h : Rep cx x v) (hc : x.cells? = some cs) : RepL cx cs v.cells.toList ∧ ∀ (i : Nat) (u : Value), v.cells[i]? = some u → cell1 u = true := by
  have one : ∀ (x : AV) (v : Value), Rep cx x v → cell1 v = true → v.cells = #[v] → cs = [x] → RepL cx cs v.cells.toList ∧ ∀ (i : Nat) (u : Value), v.cells[i]? = some u → cell1 u = true := by
    intro x v h h1 h2 h3
    subst h3
    rw [h2]
    refine ⟨.cons h (.nil _), fun i u hu => ?_⟩
    cases i with
    | zero => simp at hu; subst hu; exact h1
    | succ i => simp at hu
  cases h with
  | dead v => cases hc
  | tup cs' vs hl h => cases hc
  | agg cs' vs hl h1 h => cases hc; exact ⟨⟨by simpa [Value.cells] using hl, fun i x u hx hu => h i x u hx (by simpa [Value.cells] using hu)⟩, fun i u hu => h1 i u (by simpa [Value.cells] using hu)⟩
  | bool b => cases hc; exact one _ _ (.bool b) rfl rfl rfl
  | int k n => cases hc; exact one _ _ (.int k n) rfl rfl rfl
  | str s l h => cases hc; exact one _ _ (.str s l h) rfl rfl rfl
  | nilS => cases hc; exact one _ _ .nilS rfl rfl rfl
  | nilP => cases hc; exact one _ _ .nilP rfl rfl rfl
  | em b a c h => cases hc; exact one _ _ (.em b a c h) rfl rfl rfl
  | sl0 a c => cases hc; exact one _ _ (.sl0 a c) rfl rfl rfl
  | sl n cs' ad c arr el fz hz hb hs hn hl h1 h => cases hc; exact one _ _ (.sl n cs' ad c arr el fz hz hb hs hn hl h1 h) rfl rfl rfl
  | own t g off n a c hu hn h => cases hc; exact one _ _ (.own t g off n a c hu hn h) rfl rfl rfl
  | arr t g off n a hu h => cases hc; exact one _ _ (.arr t g off n a hu h) rfl rfl rfl
  | addr t g off ad hu h => cases hc; exact one _ _ (.addr t g off ad hu h) rfl rfl rfl
  | ptr cs' off ad base arr el fz hz hb hs ho hl h1 h => cases hc; exact one _ _ (.ptr cs' off ad base arr el fz hz hb hs ho hl h1 h) rfl rfl rfl
  | fn f caps vs hl h => cases hc; exact one _ _ (.fn f caps vs hl h) rfl rfl rfl

theorem zc_out {t : TypeId} {z : List AV} {n b : Nat} (h : zc P t = some (z, n, b)) : ∃ i zv, P.info? t = some i ∧ i.zero = some zv ∧ i.size = n ∧ i.bytes = b ∧ zv.cells.size = n ∧ z = zcells zv ∧
    (∀ (i : Nat) (u : Value), zv.cells[i]? = some u → cell1 u = true) ∧ ∀ cx, RepL cx z zv.cells.toList := by
  unfold zc at h
  cases hti : ti P t with
  | none => rw [hti] at h; cases h
  | some q =>
    obtain ⟨zo, n', b'⟩ := q
    rw [hti] at h
    cases zo with
    | none => cases h
    | some zv =>
      simp only at h
      split at h
      · rename_i hc
        cases h
        unfold ti at hti
        cases hi : P.info? t with
        | none => rw [hi] at hti; cases hti
        | some i =>
          rw [hi] at hti
          simp only [Option.map_some, Option.some.injEq, Prod.mk.injEq] at hti
          obtain ⟨e1, e2, e3⟩ := hti
          refine ⟨i, zv, rfl, e1, e2, e3, hc.1, rfl, fun j u hu => ?_, fun cx => ⟨by simp [zcells], fun j x u hx hu => ?_⟩⟩
          · have := Array.all_eq_true'.1 hc.2
            exact this u (Array.mem_of_getElem? hu)
          · unfold zcells at hx
            rw [List.getElem?_map, hu] at hx
            cases hx
            exact rep_absV cx u
      · cases h
theorem ti_out {t : TypeId} {z : Option Value} {n b : Nat} (h : ti P t = some (z, n, b)) : ∃ i, P.info? t = some i ∧ i.zero = z ∧ i.size = n ∧ i.bytes = b := by
  unfold ti at h
  cases hi : P.info? t with
  | none => rw [hi] at h; cases h
  | some i =>
    rw [hi] at h
    simp only [Option.map_some, Option.some.injEq, Prod.mk.injEq] at h
    exact ⟨i, rfl, h.1, h.2.1, h.2.2⟩

theorem snd_move {o : Oper} {st : Nat} {x : Operand} (ho : o.op = .move x) : Snd P N st o := by
  intro F s s' cx a w next Q hr hst hs hn
  unfold aop at hr; rw [ho] at hr
  obtain ⟨x', hr, hx⟩ := ev_runs hs hr
  exact done_out hs (by simp [execOp, ho]) hr hx (fun g hg => .inl hg) hn
theorem snd_assign {o : Oper} {st : Nat} {x : Operand} (ho : o.op = .assign x) : Snd P N st o := by
  intro F s s' cx a w next Q hr hst hs hn
  unfold aop at hr; rw [ho] at hr
  obtain ⟨x', hr, hx⟩ := ev_runs hs hr
  exact done_out hs (by simp [execOp, ho]) hr hx (fun g hg => .inl hg) hn
theorem snd_pick {o : Oper} {st : Nat} {c x y : Operand} (ho : o.op = .pick c x y) : Snd P N st o := by
  intro F s s' cx a w next Q hr hst hs hn
  unfold aop at hr; rw [ho] at hr
  obtain ⟨c', hr, hc⟩ := ev_runs hs hr
  cases c' with
  | bool t =>
    have e := rep_bool hc
    simp only at hr
    split at hr
    · rename_i ht
      obtain ⟨x', hr, hx⟩ := ev_runs hs hr
      exact done_out hs (by simp [execOp, ho, e, asBool, ht]) hr hx (fun g hg => .inl hg) hn
    · rename_i ht
      obtain ⟨x', hr, hx⟩ := ev_runs hs hr
      exact done_out hs (by simp [execOp, ho, e, asBool, ht]) hr hx (fun g hg => .inl hg) hn
  | _ => cases hr
theorem no_frozen (arr : Array Value) : ∀ i, i < arr.size → ¬ ((0, 0) : Nat × Nat).1 ≤ i ∨ ¬ i < ((0, 0) : Nat × Nat).2 := fun i _ => .inr (by simp)
theorem snd_alloc {o : Oper} {st : Nat} {t : TypeId} (ho : o.op = .alloc t) : Snd P N st o := by
  intro F s s' cx a w next Q hr hst hs hn
  unfold aop at hr; rw [ho] at hr
  simp only at hr
  cases hz : zc P t with
  | none => rw [hz] at hr; cases hr
  | some q =>
    obtain ⟨z, n, b⟩ := q
    rw [hz] at hr
    obtain ⟨i, zv, h1, h2, h3, h4, h5, rfl, h6, h7⟩ := zc_out hz
    have h7' := h7 cx
    refine done_mk hs hr hst zv.cells t (0, 0) (w' := { w with heap := w.heap.push (.cells zv.cells t) }) (v := .pointer (some ⟨w.heap.size, 0, none⟩)) rfl rfl rfl rfl (.inl rfl) h6 (by simp [zcells])
      (fun i x v hx hv => h7'.2 i x v hx (by simpa using hv)) (by simp [execOp, ho, Instr.alloc, zeroValue, typeInfo, h1, h2, newVar, newRow]) (fun d cx' e1 e2 e3 e4 => ?_) hn
    exact .addr d st 0 _ e3 fun T hT hg => ⟨_, e2, rfl⟩
theorem snd_box {o : Oper} {st : Nat} {t : TypeId} {x : Operand} (ho : o.op = .box t x) : Snd P N st o := by
  intro F s s' cx a w next Q hr hst hs hn
  unfold aop at hr; rw [ho] at hr
  obtain ⟨x', hr, hx⟩ := ev_runs hs hr
  cases hc : x'.cells? with
  | none => rw [hc] at hr; cases hr
  | some cs =>
    rw [hc] at hr
    obtain ⟨h1, h2⟩ := cells_rep hx hc
    refine done_mk hs hr hst (a.eval x).cells t (0, 0) (w' := { w with heap := w.heap.push (.cells (a.eval x).cells t) }) (v := .pointer (some ⟨w.heap.size, 0, none⟩)) rfl rfl rfl rfl (.inl rfl) h2 (by rw [h1.1]; simp)
      (fun i x v hx hv => h1.2 i x v hx (by simpa using hv)) (by simp [execOp, ho, Instr.box, newVar, newRow]) (fun d cx' e1 e2 e3 e4 => ?_) hn
    exact .addr d st 0 _ e3 fun T hT hg => ⟨_, e2, rfl⟩

/-! ### Loads -/
theorem cell_at {b o : Nat} {arr : Array Value} {el : TypeId} {fz : Nat × Nat} (hb : w.heap[b]? = some (.cells arr el fz)) : w.cell? ⟨b, o, none⟩ = arr[o]? := by simp [World.cell?, hb]
theorem run_loadVar_row {t : TypeId} {d : TypeDesc} {z : Option Value} {size by_ b o : Nat} {arr : Array Value} {el : TypeId} {fz : Nat × Nat} (hu : P.underlying t = some d) (hd : isRow d = true)
    (hti : ti P t = some (z, size, by_)) (hb : w.heap[b]? = some (.cells arr el fz)) (hl : o + size ≤ arr.size) : (loadVar t ⟨b, o, none⟩).run P w = .ok (.agg ((arr.toList.drop o).take size).toArray) w := by
  obtain ⟨i, h1, h2, h3, h4⟩ := ti_out hti
  have hlen : ((arr.toList.drop o).take size).length = size := by simp; omega
  refine run_loadVar_mid w b o t _ d (fun j v hv => ?_) hu ?_ (by rw [h1, hlen]; simp [h3])
  · rw [cell_at hb]
    rw [List.getElem?_take] at hv
    split at hv
    · rw [List.getElem?_drop] at hv; simpa using hv
    · cases hv
  · cases d <;> first | rfl | simp [isRow] at hd
theorem run_loadVar_cell {t : TypeId} {d : TypeDesc} {b o : Nat} {arr : Array Value} {el : TypeId} {fz : Nat × Nat} {v : Value} (hu : P.underlying t = some d) (hd : isRow d = false)
    (hb : w.heap[b]? = some (.cells arr el fz)) (hv : arr[o]? = some v) : (loadVar t ⟨b, o, none⟩).run P w = .ok v w := by
  have hagg : (isAgg t).run P w = .ok false w := by
    unfold isAgg
    rw [Sem.run_bind, run_underlying hu w]
    cases d <;> simp_all [isRow]
  have hc : w.cell? ⟨b, o, none⟩ = some v := by rw [cell_at hb, hv]
  simp [loadVar, Sem.run_bind, hagg, hc]
/-- A load from cells that are known. -/
theorem ld_val {t : TypeId} {cs : List AV} {off : Nat} {x : AV} {b base : Nat} {arr : Array Value} {el : TypeId} {fz : Nat × Nat} (hr : ldV P t cs off = some x)
    (hb : w.heap[b]? = some (.cells arr el fz)) (hl : base + cs.length ≤ arr.size) (h1 : ∀ (i : Nat) (v : Value), i < cs.length → arr[base + i]? = some v → cell1 v = true)
    (h : ∀ (i : Nat) (x : AV) (v : Value), cs[i]? = some x → arr[base + i]? = some v → Rep cx x v) :
    ∃ v, (loadVar t ⟨b, base + off, none⟩).run P w = .ok v w ∧ Rep cx x v := by
  unfold ldV at hr
  cases hu : P.underlying t with
  | none => rw [hu] at hr; cases hr
  | some d =>
    cases hti : ti P t with
    | none => rw [hu, hti] at hr; cases hr
    | some q =>
      obtain ⟨z, size, by_⟩ := q
      rw [hu, hti] at hr
      simp only at hr
      split at hr
      · rename_i hd
        split at hr
        · rename_i hlt
          cases hr
          refine ⟨_, run_loadVar_row hu hd hti hb (by omega), rep_mkagg ⟨?_, fun i x v hx hv => ?_⟩ (fun i u hu => ?_)⟩
          · simp; omega
          · rw [List.getElem?_take] at hx hv
            split at hx
            · rename_i hi
              rw [if_pos hi, List.getElem?_drop] at hv
              rw [List.getElem?_drop] at hx
              exact h _ x v hx (by rw [show base + (off + i) = base + off + i by omega]; simpa using hv)
            · cases hx
          · rw [List.getElem?_toArray, List.getElem?_take] at hu
            split at hu
            · rw [List.getElem?_drop] at hu; exact h1 (off + i) u (by omega) (by rw [show base + (off + i) = base + off + i by omega]; simpa using hu)
            · cases hu
        · cases hr
      · rename_i hd
        split at hr
        · rename_i hlt
          cases hr
          have hlt' : base + off < arr.size := by omega
          refine ⟨arr[base + off], run_loadVar_cell hu (by simpa using hd) hb (by simp [hlt']), ?_⟩
          rw [List.getD_eq_getElem?_getD, List.getElem?_eq_getElem hlt]
          exact h off _ _ (List.getElem?_eq_getElem hlt) (by simp [hlt'])
        · cases hr
theorem ld_runs {t : TypeId} {cs : List AV} {off : Nat} {k : AV → M} {b base : Nat} {arr : Array Value} {el : TypeId} {fz : Nat × Nat} (hr : (ldCells P t cs off k).Runs P s s')
    (hb : w.heap[b]? = some (.cells arr el fz)) (hl : base + cs.length ≤ arr.size) (h1 : ∀ (i : Nat) (v : Value), i < cs.length → arr[base + i]? = some v → cell1 v = true)
    (h : ∀ (i : Nat) (x : AV) (v : Value), cs[i]? = some x → arr[base + i]? = some v → Rep cx x v) :
    ∃ x v, (loadVar t ⟨b, base + off, none⟩).run P w = .ok v w ∧ Rep cx x v ∧ (k x).Runs P s s' := by
  unfold ldCells at hr
  cases e : ldV P t cs off with
  | none => rw [e] at hr; cases hr
  | some x =>
    rw [e] at hr
    obtain ⟨v, g1, g2⟩ := ld_val e hb hl h1 h
    exact ⟨x, v, g1, g2, hr⟩
theorem load_runs {t : TypeId} {x : AV} {k : AV → M} {p : Value} (hs : SimC N F s cx a w) (hx : Rep cx x p) (hr : (load P t x k).Runs P s s') :
    ∃ y v, (Instr.loadAt t p).run P w = .ok v w ∧ Rep cx y v ∧ (k y).Runs P s s' := by
  cases x with
  | addr tk g off =>
    obtain ⟨T, e1, e2, hr⟩ := row_runs hs hr
    cases hx with
    | addr _ _ _ ad hu h =>
      obtain ⟨b, e3, rfl⟩ := h T e1 e2
      obtain ⟨arr, el, fz, f1, f2, f3, f4, f5⟩ := hs.row tk T b e1 e3
      rw [hs.h] at f1
      obtain ⟨y, v, g1, g2, g3⟩ := ld_runs (base := 0) hr f1 (by omega) (fun i v _ hv => f3 _ v hv) (fun i x v hx hv => f5 i x v hx (by simpa using hv))
      refine ⟨y, v, ?_, g2, g3⟩
      rw [Nat.zero_add] at g1
      simp [Instr.loadAt, Instr.sureAddr, g1]
  | ptr cs off =>
    cases hx with
    | ptr _ _ ad base arr el fz hz hb hsp ho hl h1 h =>
      rw [hs.h] at hb
      obtain ⟨y, v, g1, g2, g3⟩ := ld_runs hr hb hl h1 h
      refine ⟨y, v, ?_, g2, g3⟩
      have : ad = ⟨ad.block, base + off, none⟩ := by cases ad; simp_all
      rw [this]
      simp [Instr.loadAt, Instr.sureAddr, g1]
  | _ => cases hr
theorem snd_load {o : Oper} {st : Nat} {t : TypeId} {x : Operand} (ho : o.op = .load t x) : Snd P N st o := by
  intro F s s' cx a w next Q hr hst hs hn
  unfold aop at hr; rw [ho] at hr
  obtain ⟨x', hr, hx⟩ := ev_runs hs hr
  obtain ⟨y, v, h1, h2, h3⟩ := load_runs hs hx hr
  exact done_out hs (by simp [execOp, ho, h1]) h3 h2 (fun g hg => .inl hg) hn
theorem snd_extract {o : Oper} {st : Nat} {x : Operand} {i : Nat} (ho : o.op = .extract x i) : Snd P N st o := by
  intro F s s' cx a w next Q hr hst hs hn
  unfold aop at hr; rw [ho] at hr
  obtain ⟨x', hr, hx⟩ := ev_runs hs hr
  cases x' with
  | tup cs =>
    obtain ⟨vs, e, h⟩ := rep_tup hx
    simp only at hr
    split at hr
    · rename_i hi
      have hi' : i < vs.size := by have := h.1; simp at this; omega
      have hv : vs[i]? = some vs[i] := Array.getElem?_eq_getElem hi'
      exact done_out (v := vs[i]) hs (by simp [execOp, ho, e, Instr.extract, hi']) hr (h.get (by simp)) (fun g hg => .inl hg) hn
    · cases hr
  | _ => cases hr
theorem snd_nilCheck {o : Oper} {st : Nat} {x : Operand} (ho : o.op = .nilCheck x) : Snd P N st o := by
  intro F s s' cx a w next Q hr hst hs hn
  unfold aop at hr; rw [ho] at hr
  obtain ⟨x', hr, hx⟩ := ev_runs hs hr
  cases x' with
  | addr t g off =>
    cases hv : a.eval x with
    | pointer p =>
      rw [hv] at hx
      cases hx with
      | addr _ _ _ ad hu h => exact done_out hs (by simp [execOp, ho, hv]) hr (.addr t g off ad hu h) (fun g hg => .inl hg) hn
    | _ => rw [hv] at hx; cases hx
  | ptr cs off =>
    cases hv : a.eval x with
    | pointer p =>
      rw [hv] at hx
      cases hx with
      | ptr _ _ ad base arr el fz hz hb hsp ho' hl h1 h => exact done_out hs (by simp [execOp, ho, hv]) hr (.ptr cs off ad base arr el fz hz hb hsp ho' hl h1 h) (fun g hg => .inl hg) hn
    | _ => rw [hv] at hx; cases hx
  | _ => cases hr
theorem snd_unOp {o : Oper} {st : Nat} {op : UnOp} {t : TypeId} {x : Operand} (ho : o.op = .unOp op t x) : Snd P N st o := by
  intro F s s' cx a w next Q hr hst hs hn
  unfold aop at hr; rw [ho] at hr
  obtain ⟨x', hr, hx⟩ := ev_runs hs hr
  cases op with
  | not => cases x' with
    | bool b =>
      have e := rep_bool hx
      exact done_out (v := .bool (!b)) hs (by simp [execOp, ho, e, Op.unary]) hr (.bool _) (fun g hg => .inl hg) hn
    | _ => cases hr
  | neg => cases x' with
    | int k n =>
      have e := rep_int hx
      exact done_out (v := .int k (k.wrap (0 - n))) hs (by simp [execOp, ho, e, Op.unary, Op.intArith]) hr (.int _ _) (fun g hg => .inl hg) hn
    | _ => cases hr
  | _ => cases x' <;> cases hr
theorem snd_makeFunc {o : Oper} {st : Nat} {fn : Fn} {first caps : Array Operand} (ho : o.op = .makeFunc fn first caps) : Snd P N st o := by
  intro F s s' cx a w next Q hr hst hs hn
  unfold aop at hr; rw [ho] at hr
  obtain ⟨cs, hr, hx⟩ := evL_runs hs hr
  cases fn with
  | func f =>
    simp only at hr
    split at hr
    · rename_i hf
      have hf' : first = #[] := by simpa using hf
      refine done_out (v := .func (.func f) #[] (caps.map a.eval)) hs (by simp [execOp, ho, Instr.makeFunc, hf']) hr (.fn f cs _ (by simpa using hx.1) fun i x v h1 h2 => hx.2 i x v h1 (by simpa using h2)) (fun g hg => .inl hg) hn
    · cases hr
  | _ => cases hr
end Go.Eng

/- The engine, part 4: stores, literals, addresses, indexing. For every program. -/
set_option linter.unusedVariables false
namespace Go.Eng
open Go.RowKit

variable {P : Program} {N : Nat} {F : Fr} {s s' : AS} {cx : Cx} {a : Act} {w : World}

theorem setAll_length {α : Type} : ∀ (xs : List α) (cs : List α) (off : Nat), (setAll cs off xs).length = cs.length
  | [], cs, off => rfl
  | x :: xs, cs, off => by rw [setAll, setAll_length xs]; simp
theorem setAll_mem {α : Type} {p : α → Prop} : ∀ (xs : List α) (cs : List α) (off : Nat), (∀ x ∈ cs, p x) → (∀ x ∈ xs, p x) → ∀ x ∈ setAll cs off xs, p x
  | [], cs, off, h, _ => h
  | y :: xs, cs, off, h, k => setAll_mem xs _ _ (fun x hx => by
      rcases List.mem_or_eq_of_mem_set hx with h' | h'
      · exact h x h'
      · exact k x (by rw [h']; simp)) (fun x hx => k x (List.mem_cons_of_mem _ hx))
/-- The first cells of a row stand for these. -/
def RepP (cx : Cx) (cs : List AV) (vs : List Value) : Prop := cs.length ≤ vs.length ∧ ∀ (i : Nat) (x : AV) (v : Value), cs[i]? = some x → vs[i]? = some v → Rep cx x v
theorem RepP.set {cs : List AV} {vs : List Value} (h : RepP cx cs vs) (i : Nat) {x : AV} {v : Value} (hx : Rep cx x v) : RepP cx (cs.set i x) (vs.set i v) := by
  refine ⟨by simp [h.1], fun j y u hy hu => ?_⟩
  rw [List.getElem?_set] at hy hu
  by_cases e : i = j
  · subst e
    rw [if_pos rfl] at hy hu
    split at hy
    · cases hy
      split at hu
      · cases hu; exact hx
      · cases hu
    · cases hy
  · rw [if_neg e] at hy hu
    exact h.2 j y u hy hu
theorem RepP.setAll : ∀ {xs : List AV} {us : List Value}, RepL cx xs us → ∀ {cs : List AV} {vs : List Value}, RepP cx cs vs → ∀ (off : Nat), RepP cx (setAll cs off xs) (setAll vs off us)
  | [], us, hx, cs, vs, h, off => by
    have : us = [] := by have := hx.1; simpa using this.symm
    subst this; exact h
  | x :: xs, us, hx, cs, vs, h, off => by
    obtain ⟨v, us', rfl, h1, h2⟩ := hx.uncons
    exact RepP.setAll h2 (h.set off h1) (off + 1)
theorem RepL.setAll {xs : List AV} {us : List Value} (hx : RepL cx xs us) {cs : List AV} {vs : List Value} (h : RepL cx cs vs) (off : Nat) : RepL cx (setAll cs off xs) (setAll vs off us) :=
  ⟨by rw [setAll_length, setAll_length, h.1], (RepP.setAll hx ⟨by rw [h.1]; exact Nat.le_refl _, h.2⟩ off).2⟩

theorem heap_setCells (b : Nat) : ∀ (vs : List Value) (o : Nat) (w : World) (arr : Array Value) (el : TypeId) (fz : Nat × Nat), w.heap[b]? = some (.cells arr el fz) →
    (w.setCells b o vs).heap[b]? = some (.cells (setAll arr.toList o vs).toArray el fz)
  | [], o, w, arr, el, fz, h => by simpa [World.setCells, setAll] using h
  | v :: vs, o, w, arr, el, fz, h => by
    rw [World.setCells, heap_setCells b vs (o + 1) (w.setCell ⟨b, o, none⟩ v) (arr.setIfInBounds o v) el fz (by simp [World.setCell, Array.getElem?_modify, h])]
    simp [setAll]
theorem heap_setCells_other (b : Nat) : ∀ (vs : List Value) (o : Nat) (w : World) (k : Nat), k ≠ b → (w.setCells b o vs).heap[k]? = w.heap[k]?
  | [], o, w, k, h => rfl
  | v :: vs, o, w, k, h => by rw [World.setCells, heap_setCells_other b vs _ _ k h, Below.heap_setCell _ _ _ _ h]
theorem setCells_size (b : Nat) : ∀ (vs : List Value) (o : Nat) (w : World), (w.setCells b o vs).heap.size = w.heap.size
  | [], o, w => rfl
  | v :: vs, o, w => by rw [World.setCells, setCells_size b vs]; simp [World.setCell]
theorem setCells_rest (b : Nat) : ∀ (vs : List Value) (o : Nat) (w : World), (w.setCells b o vs).os = w.os ∧ (w.setCells b o vs).tape = w.tape ∧ (w.setCells b o vs).output = w.output
  | [], o, w => ⟨rfl, rfl, rfl⟩
  | v :: vs, o, w => by rw [World.setCells]; exact setCells_rest b vs _ _

theorem frozen_at {b o : Nat} {arr : Array Value} {el : TypeId} {fz : Nat × Nat} (hb : w.heap[b]? = some (.cells arr el fz)) (hf : FzOk arr.size fz) (ho : o < arr.size) : w.frozen? ⟨b, o, none⟩ = false := by
  have := hf.ok ho
  simp [World.frozen?, hb]
  omega

/-- Cells are stored. -/
theorem run_cells {b o : Nat} {arr : Array Value} {el : TypeId} {fz : Nat × Nat} (hb : w.heap[b]? = some (.cells arr el fz)) (hf : FzOk arr.size fz) (vs : List Value)
    (h1 : ∀ v ∈ vs, v.oneCell' = true) (hl : o + vs.length ≤ arr.size) : (storeCells ⟨b, o, none⟩ vs).run P w = .ok () (w.setCells b o vs) := by
  have := run_storeCells_cells (P := P) b o vs 0 w (fun j hj => by rw [cell_at hb]; simp; omega) (fun j hj => frozen_at hb hf (by omega)) h1
  simpa using this

/-- A row of one's own has been stored into. -/
theorem SimC.stored (h : SimC N F s cx a w) {t : Nat} {T : Tok} {b : Nat} (e1 : cx.tk t = some T) (e2 : cx.ρ t = some b) (xs : List AV) (us : List Value) (hx : RepL cx xs us) (h1 : ∀ v ∈ us, cell1 v = true) (off : Nat) :
    Tr cx (cx.updTok (w.setCells b off us) t { T with cs := setAll T.cs off xs }) ∧ SimC N F (s.setT t { T with cs := setAll T.cs off xs }) (cx.updTok (w.setCells b off us) t { T with cs := setAll T.cs off xs }) a (w.setCells b off us) := by
  obtain ⟨arr, el, fz, f1, f2, f3, f4, f5⟩ := h.row t T b e1 e2
  rw [h.h] at f1
  have hP : RepP cx (setAll T.cs off xs) (setAll arr.toList off us) := RepP.setAll hx ⟨by simpa using f4, fun i x v hx hv => f5 i x v hx (by simpa using hv)⟩ off
  refine h.updTok e1 e2 arr _ el el fz fz f1 _ (heap_setCells b us off w arr el fz f1) (fun k hk => heap_setCells_other b us off w k hk) (setCells_size b us off w) (setCells_rest b us off w).1 (setCells_rest b us off w).2.1
    (setCells_rest b us off w).2.2 (.inl rfl) rfl (by simp [setAll_length]) (by simpa [setAll_length] using f2) (fun i v hv => ?_) (by simp [setAll_length]; exact f4) (fun i x v hx hv => hP.2 i x v hx (by simpa using hv))
  rw [List.getElem?_toArray] at hv
  exact setAll_mem (p := fun v => cell1 v = true) us arr.toList off (fun x hx => by obtain ⟨j, hj⟩ := List.getElem?_of_mem hx; exact f3 j x (by simpa using hj)) h1 v (List.mem_of_getElem? hv)

theorem snd_store {o : Oper} {st : Nat} {t : TypeId} {x y : Operand} (ho : o.op = .store t x y) : Snd P N st o := by
  intro F s s' cx a w next Q hr hst hs hn
  unfold aop at hr; rw [ho] at hr
  obtain ⟨x', hr, hx⟩ := ev_runs hs hr
  obtain ⟨y', hr, hy⟩ := ev_runs hs hr
  cases hd : o.dst with
  | some d => rw [hd] at hr; cases hr
  | none =>
    rw [hd] at hr
    simp only at hr
    unfold store at hr
    cases x' with
    | addr tk g off =>
      cases hc : y'.cells? with
      | none => rw [hc] at hr; cases hr
      | some cs =>
        cases hti : ti P t with
        | none => rw [hc, hti] at hr; cases hr
        | some q =>
          obtain ⟨z, size, by_⟩ := q
          rw [hc, hti] at hr
          obtain ⟨T, e1, e2, hr⟩ := row_runs hs hr
          split at hr
          · rename_i hcond
            obtain ⟨c1, c2⟩ := hcond
            cases hr with
            | putT _ _ _ _ _ hr =>
              cases hr
              obtain ⟨k1, k2⟩ := cells_rep hy hc
              obtain ⟨i, i1, i2, i3, i4⟩ := ti_out hti
              cases hv : a.eval x with
              | pointer p =>
                rw [hv] at hx
                cases hx with
                | addr _ _ _ ad hu hh =>
                  obtain ⟨b, e3, rfl⟩ := hh T e1 e2
                  obtain ⟨arr, el, fz, f1, f2, f3, f4, f5⟩ := hs.row tk T b e1 e3
                  rw [hs.h] at f1
                  have hone : ∀ v ∈ (a.eval y).cells.toList, v.oneCell' = true := fun v hv => by
                    obtain ⟨j, hj⟩ := List.getElem?_of_mem hv
                    exact k2 j v (by simpa using hj)
                  have hlen : (a.eval y).cells.size = size := by have := k1.1; simp at this; omega
                  have hrun : (execOp a.eval o).run P w = .ok .skip (w.setCells b off (a.eval y).cells.toList) := by
                    have hc := run_cells (P := P) (o := off) f1 f2 (a.eval y).cells.toList hone (by simp; omega)
                    simp [execOp, ho, hv, Instr.storeAt, Instr.sureAddr, storeVar, sizeOf, typeInfo, i1, i3, hlen, hc]
                  unfold Oper.wp
                  rw [hrun, Oper.upon_skip, hd]
                  have hk := hs.stored e1 e3 cs (a.eval y).cells.toList k1 (fun v hv => hone v hv) off
                  refine hn _ _ (Sim.moreU ⟨_, rfl, hk.2⟩ fun g hg => ?_)
                  rcases hg with hg | hg
                  · exact .inl hg
                  · exact .inl (by rw [hg]; exact hs.stamp tk T e1)
              | _ => rw [hv] at hx; cases hx
          · cases hr
    | _ => cases hr

/-! ### Literals -/
theorem fold_set (off : Nat) : ∀ (l : List Value) (cells : Array Value) (k : Nat), (l.zipIdx k).foldl (fun cs (p : Value × Nat) => cs.setIfInBounds (off + p.2) p.1) cells = (setAll cells.toList (off + k) l).toArray
  | [], cells, k => by simp [setAll]
  | v :: l, cells, k => by
    rw [List.zipIdx_cons, List.foldl_cons, fold_set off l]
    simp [setAll, Nat.add_assoc]
theorem fill_rep {place : Nat → Option (Nat × Nat)} : ∀ {ps : List (Nat × AV)} {vs : List (Nat × Value)}, ps.map Prod.fst = vs.map Prod.fst → RepL cx (ps.map Prod.snd) (vs.map Prod.snd) →
    ∀ {cells : List AV} {cv : Array Value} {res : List AV}, RepL cx cells cv.toList → (∀ v ∈ cv.toList, cell1 v = true) → afill place cells ps = some res →
    ∃ rv, Instr.fill place cv vs = some rv ∧ RepL cx res rv.toList ∧ (∀ v ∈ rv.toList, cell1 v = true)
  | [], vs, hf, hs, cells, cv, res, hc, h1, hr => by
    have : vs = [] := by simpa using hf.symm
    subst this
    cases hr
    exact ⟨cv, rfl, hc, h1⟩
  | (i, x) :: ps, [], hf, hs, cells, cv, res, hc, h1, hr => by simp at hf
  | (i, x) :: ps, (j, v) :: vs, hf, hs, cells, cv, res, hc, h1, hr => by
    simp only [List.map_cons, List.cons.injEq] at hf
    obtain ⟨e, hf⟩ := hf
    have e : i = j := e
    subst e
    simp only [List.map_cons] at hs
    obtain ⟨v', vs', e', hx, hs⟩ := hs.uncons
    simp only [List.cons.injEq] at e'
    obtain ⟨rfl, rfl⟩ := e'
    unfold afill at hr
    cases hp : place i with
    | none => rw [hp] at hr; cases hr
    | some q =>
      obtain ⟨off, size⟩ := q
      rw [hp] at hr
      simp only at hr
      cases hcc : x.cells? with
      | none => rw [hcc] at hr; cases hr
      | some cs =>
        rw [hcc] at hr
        simp only at hr
        split at hr
        · rename_i hcond
          obtain ⟨k1, k2⟩ := cells_rep hx hcc
          have hlen : v.cells.size = size := by have := k1.1; simp at this; omega
          have hcl : cells.length = cv.size := by have := hc.1; simpa using this
          have hfold : (v.cells.zipIdx.foldl (fun cs (p : Value × Nat) => cs.setIfInBounds (off + p.2) p.1) cv) = (setAll cv.toList off v.cells.toList).toArray := by
            have := fold_set off v.cells.toList cv 0
            rw [← Array.foldl_toList, Array.toList_zipIdx]
            simpa using this
          obtain ⟨rv, r1, r2, r3⟩ := fill_rep (place := place) hf hs (cells := setAll cells off cs) (cv := (setAll cv.toList off v.cells.toList).toArray) (by simpa using RepL.setAll k1 hc off)
            (by simpa using setAll_mem (p := fun v => cell1 v = true) v.cells.toList cv.toList off h1 (fun v hv => by obtain ⟨j, hj⟩ := List.getElem?_of_mem hv; exact k2 j v (by simpa using hj))) hr
          refine ⟨rv, ?_, r2, r3⟩
          unfold Instr.fill
          rw [hp]
          simp only
          rw [if_neg (by simp; omega)]
          exact hfold ▸ r1
        · cases hr
theorem places_run {fields : Array Field} {pl : List (Nat × Nat)} (h : places P fields = some pl) : (fields.mapM (fun f => Prod.mk f.offset <$> sizeOf f.type) : Sem (Array (Nat × Nat))).run P w = .ok pl.toArray w := by
  have key : ∀ (l : List Field) (pl : List (Nat × Nat)), l.mapM (fun f => (ti P f.type).map fun i => (f.offset, i.2.1)) = some pl → (l.mapM (fun f => Prod.mk f.offset <$> sizeOf f.type) : Sem (List (Nat × Nat))).run P w = .ok pl w := by
    intro l
    induction l with
    | nil => intro pl h; simp at h; subst h; simp
    | cons f l ih =>
      intro pl h
      rw [List.mapM_cons] at h
      cases hti : ti P f.type with
      | none => rw [hti] at h; simp at h
      | some q =>
        obtain ⟨i, i1, i2, i3, i4⟩ := ti_out (P := P) (t := f.type) (z := q.1) (n := q.2.1) (b := q.2.2) (by rw [hti])
        rw [hti] at h
        cases hm : l.mapM (fun f => (ti P f.type).map fun i => (f.offset, i.2.1)) with
        | none => rw [hm] at h; simp at h
        | some pl' =>
          rw [hm] at h
          simp at h
          subst h
          have hsz : (sizeOf f.type).run P w = .ok q.2.1 w := by simp [sizeOf, typeInfo, i1, i3]
          have hi := ih pl' hm
          rw [List.mapM_cons]
          simp only [Sem.run_bind, Sem.run_map, hsz, Result.andThen_ok, Sem.run_pure, hi]
  rw [Array.mapM_eq_mapM_toList]
  rw [Sem.run_map, key _ pl h]
  rfl
theorem map_parts (a : Act) (parts : Array (Nat × Operand)) : (parts.map fun (p : Nat × Operand) => (p.1, a.eval p.2)).toList = parts.toList.map fun p => (p.1, a.eval p.2) := by simp

theorem snd_build {o : Oper} {st : Nat} {t : TypeId} {parts : Array (Nat × Operand)} (ho : o.op = .build t parts) : Snd P N st o := by
  intro F s s' cx a w next Q hr hst hs hn
  unfold aop at hr; rw [ho] at hr
  obtain ⟨ps, hr, hf, hx⟩ := evP_runs hs hr
  have hf' : ps.map Prod.fst = (parts.toList.map fun p => (p.1, a.eval p.2)).map Prod.fst := by rw [hf]; simp
  have hx' : RepL cx (ps.map Prod.snd) ((parts.toList.map fun p => (p.1, a.eval p.2)).map Prod.snd) := by simpa [Function.comp_def] using hx
  cases hz : zc P t with
  | none => cases hu : P.underlying t with
    | none => rw [hu, hz] at hr; cases hr
    | some d => rw [hu, hz] at hr; cases d <;> cases hr
  | some q =>
    obtain ⟨z, n, b⟩ := q
    obtain ⟨i, zv, h1, h2, h3, h4, h5, h5', h6, h7⟩ := zc_out hz
    have h6' : ∀ v ∈ zv.cells.toList, cell1 v = true := fun v hv => by obtain ⟨j, hj⟩ := List.getElem?_of_mem hv; exact h6 j v (by simpa using hj)
    cases hu : P.underlying t with
    | none => rw [hu, hz] at hr; cases hr
    | some d =>
      rw [hu, hz] at hr
      cases d with
      | struct fields =>
        simp only at hr
        cases hp : places P fields with
        | none => rw [hp] at hr; cases hr
        | some pl =>
          rw [hp] at hr
          simp only at hr
          cases hfl : afill (fun i => pl[i]?) z ps with
          | none => rw [hfl] at hr; cases hr
          | some res =>
            rw [hfl] at hr
            obtain ⟨rv, r1, r2, r3⟩ := fill_rep hf' hx' (h7 cx) h6' hfl
            have hrun : (execOp a.eval o).run P w = .ok (.value (.agg rv)) w := by
              have hpl := places_run (w := w) hp
              simp [execOp, ho, Instr.build, zeroValue, typeInfo, h1, h2, run_underlying hu, hpl, r1]
            exact done_out hs hrun hr (rep_mkagg r2 fun i u hu => r3 u (by simpa using Array.mem_of_getElem? hu)) (fun g hg => .inl hg) hn
      | array len e =>
        simp only at hr
        cases hti : ti P e with
        | none => rw [hti] at hr; cases hr
        | some q =>
          obtain ⟨z', size, b'⟩ := q
          rw [hti] at hr
          obtain ⟨j, j1, j2, j3, j4⟩ := ti_out hti
          simp only at hr
          cases hfl : afill (fun i => some (i * size, size)) z ps with
          | none => rw [hfl] at hr; cases hr
          | some res =>
            rw [hfl] at hr
            obtain ⟨rv, r1, r2, r3⟩ := fill_rep hf' hx' (h7 cx) h6' hfl
            have hrun : (execOp a.eval o).run P w = .ok (.value (.agg rv)) w := by
              simp [execOp, ho, Instr.build, zeroValue, sizeOf, typeInfo, h1, h2, j1, j3, run_underlying hu, r1]
            exact done_out hs hrun hr (rep_mkagg r2 fun i u hu => r3 u (by simpa using Array.mem_of_getElem? hu)) (fun g hg => .inl hg) hn
      | _ => cases hr
end Go.Eng

/- The engine, part 5: slice literals, addresses, indexing, lengths, slices. For every program. -/
set_option linter.unusedVariables false
namespace Go.Eng
open Go.RowKit

variable {P : Program} {N : Nat} {F : Fr} {s s' : AS} {cx : Cx} {a : Act} {w : World}

theorem zrep_length (z : List AV) (n : Nat) : (zrep z n).length = n * z.length := by simp [zrep]
/-- Zero cells, as the model lays them. -/
theorem zrep_rep {z : List AV} {zv : Array Value} (h : RepL cx z zv.toList) (h1 : ∀ v ∈ zv.toList, cell1 v = true) (n m : Nat) (hm : n * z.length = m) (hz : m = 0 ∨ 0 < z.length) :
    RepL cx (zrep z n) (((Array.range m).map (fun i => zv[i % zv.size]!)).toList) ∧ ∀ v ∈ ((Array.range m).map (fun i => zv[i % zv.size]!)).toList, cell1 v = true := by
  have hsz : z.length = zv.size := by have := h.1; simpa using this
  have hget : ∀ i, i < m → ∃ u, zv[i % zv.size]? = some u ∧ zv[i % zv.size]! = u := by
    intro i hi
    have hpos : 0 < zv.size := by omega
    have hlt : i % zv.size < zv.size := Nat.mod_lt _ hpos
    exact ⟨zv[i % zv.size], by simp [hlt], by simp [hlt]⟩
  refine ⟨⟨by simp [zrep, hm], fun i x v hx hv => ?_⟩, fun v hv => ?_⟩
  · simp only [zrep, List.getElem?_map] at hx
    have hi : i < n * z.length := by
      rcases Nat.lt_or_ge i (n * z.length) with h' | h'
      · exact h'
      · rw [List.getElem?_eq_none (by simpa using h')] at hx; cases hx
    rw [List.getElem?_range hi] at hx
    simp only [Option.map_some, Option.some.injEq] at hx
    obtain ⟨u, hu1, hu2⟩ := hget i (by omega)
    rw [Array.toList_map, List.getElem?_map, Array.toList_range, List.getElem?_range (by omega)] at hv
    simp only [Option.map_some, Option.some.injEq] at hv
    rw [← hx, ← hv, hu2, hsz]
    exact h.get (by simpa using hu1)
  · rw [Array.toList_map, Array.toList_range, List.mem_map] at hv
    obtain ⟨i, hi, rfl⟩ := hv
    obtain ⟨u, hu1, hu2⟩ := hget i (by simpa using hi)
    rw [hu2]
    exact h1 u (by simpa using Array.mem_of_getElem? hu1)

theorem own_new {cx' : Cx} {d st sz n c b : Nat} {cs : List AV} {arr : Array Value} {el : TypeId} {fz : Nat × Nat} (e1 : cx'.tk d = some ⟨st, sz, cs⟩) (e2 : cx'.ρ d = some b) (e3 : cx'.U st) (e4 : cx'.h[b]? = some (.cells arr el fz))
    (hn : n ≤ c) (hc : c * sz ≤ arr.size) : Rep cx' (.own d st 0 n) (.slice (some ⟨b, 0, none⟩) n c) :=
  .own d st 0 n _ c e3 hn fun T hT hg => .inr ⟨b, arr, el, fz, e2, rfl, e4, by rw [e1] at hT; cases hT; simpa using hc⟩

theorem snd_buildSlice {o : Oper} {st : Nat} {t : TypeId} {len : Nat} {parts : Array (Nat × Operand)} (ho : o.op = .buildSlice t len parts) : Snd P N st o := by
  intro F s s' cx a w next Q hr hst hs hn
  unfold aop at hr; rw [ho] at hr
  obtain ⟨ps, hr, hf, hx⟩ := evP_runs hs hr
  have hf' : ps.map Prod.fst = (parts.toList.map fun p => (p.1, a.eval p.2)).map Prod.fst := by rw [hf]; simp
  have hx' : RepL cx (ps.map Prod.snd) ((parts.toList.map fun p => (p.1, a.eval p.2)).map Prod.snd) := by simpa [Function.comp_def] using hx
  cases hu : P.underlying t with
  | none => rw [hu] at hr; cases hr
  | some d =>
    rw [hu] at hr
    cases d with
    | slice e =>
      simp only at hr
      cases hz : zc P e with
      | none => rw [hz] at hr; cases hr
      | some q =>
        obtain ⟨z, size, b⟩ := q
        rw [hz] at hr
        simp only at hr
        obtain ⟨i, zv, h1, h2, h3, h4, h5, h5', h6, h7⟩ := zc_out hz
        have h6' : ∀ v ∈ zv.cells.toList, cell1 v = true := fun v hv => by obtain ⟨j, hj⟩ := List.getElem?_of_mem hv; exact h6 j v (by simpa using hj)
        have hzl : z.length = size := by have := (h7 cx).1; simp at this; omega
        split at hr
        · rename_i hlim
          cases hfl : afill (fun i => some (i * size, size)) (zrep z len) ps with
          | none => rw [hfl] at hr; cases hr
          | some res =>
            rw [hfl] at hr
            obtain ⟨z1, z2⟩ := zrep_rep (h7 cx) h6' len (len * size) (by rw [hzl]) (by
              rcases Nat.eq_zero_or_pos size with h0 | h0
              · left; simp [h0]
              · right; omega)
            obtain ⟨rv, r1, r2, r3⟩ := fill_rep hf' hx' z1 z2 hfl
            have hrv : rv.size = res.length := by have := r2.1; simp at this; omega
            have hres : res.length = len * size := by
              have hk : ∀ (ps : List (Nat × AV)) (c r : List AV), afill (fun i => some (i * size, size)) c ps = some r → r.length = c.length := by
                intro ps
                induction ps with
                | nil => intro c r h; cases h; rfl
                | cons p ps ih =>
                  intro c r h
                  obtain ⟨i, x⟩ := p
                  unfold afill at h
                  simp only at h
                  cases hcc : x.cells? with
                  | none => rw [hcc] at h; cases h
                  | some cs =>
                    rw [hcc] at h
                    simp only at h
                    split at h
                    · rw [ih _ _ h, setAll_length]
                    · cases h
              rw [hk _ _ _ hfl, zrep_length, hzl]
            have hrun : (execOp a.eval o).run P w = .ok (.value (.slice (some ⟨w.heap.size, 0, none⟩) len len)) { w with heap := w.heap.push (.cells rv e) } := by
              have hlim' : ¬ (16777216 < len * size) := by omega
              have hsz : ∀ w' : World, (sizeOf e).run P w' = .ok size w' := fun w' => by simp [sizeOf, typeInfo, h1, h3]
              have hzv : ∀ w' : World, (zeroValue e).run P w' = .ok zv w' := fun w' => by simp [zeroValue, typeInfo, h1, h2]
              have hb : (Instr.buildSlice t len (parts.map fun (p : Nat × Operand) => (p.1, a.eval p.2))).run P w = .ok (.slice (some ⟨w.heap.size, 0, none⟩) len len) { w with heap := w.heap.push (.cells rv e) } := by
                by_cases h0 : len * size = 0
                · have hcells : (Array.range (len * size)).map (fun i => zv.cells[i % zv.cells.size]!) = #[] := by rw [h0]; apply Array.ext'; simp
                  rw [hcells] at r1
                  simp only [Instr.buildSlice, Sem.run_bind, run_underlying hu, hsz, h0, Result.andThen_ok, map_parts, if_true, pure_bind, Array.range_zero', Array.map_empty]
                  simp [r1, newRow]
                · simp [Instr.buildSlice, run_underlying hu, hsz, hlim', h0, hzv, newRow, r1]
              simp only [execOp, ho, Sem.run_bind, hb, Result.andThen_ok, Sem.run_pure]
            refine done_mk hs hr hst rv e (0, 0) (w' := { w with heap := w.heap.push (.cells rv e) }) (v := .slice (some ⟨w.heap.size, 0, none⟩) len len) rfl rfl rfl rfl (.inl rfl) (fun i u hu => r3 u (by simpa using Array.mem_of_getElem? hu)) (by omega)
              (fun i x v hx hv => r2.2 i x v hx (by simpa using hv)) hrun (fun d cx' e1 e2 e3 e4 => ?_) hn
            exact own_new e1 e2 e3 e4 (Nat.le_refl _) (by omega)
        · cases hr
    | _ => cases hr

theorem add_off (ad : Addr) (k : Nat) (h : ad.spot = none) : ad.add k = ⟨ad.block, ad.off + k, none⟩ := by
  unfold Addr.add; split <;> cases ad <;> simp_all

theorem snd_fieldAddr {o : Oper} {st : Nat} {t : TypeId} {x : Operand} {f : Nat} (ho : o.op = .fieldAddr t x f) : Snd P N st o := by
  intro F s s' cx a w next Q hr hst hs hn
  unfold aop at hr; rw [ho] at hr
  obtain ⟨x', hr, hx⟩ := ev_runs hs hr
  unfold fieldAddr at hr
  cases hu : P.underlying t with
  | none => rw [hu] at hr; cases hr
  | some d =>
    rw [hu] at hr
    cases d with
    | struct fields =>
      simp only at hr
      cases hf : fields[f]? with
      | none => rw [hf] at hr; cases hr
      | some fd =>
        rw [hf] at hr
        simp only at hr
        cases hti : ti P fd.type with
        | none => rw [hti] at hr; cases hr
        | some q =>
          obtain ⟨z, size, b⟩ := q
          rw [hti] at hr
          obtain ⟨i, i1, i2, i3, i4⟩ := ti_out hti
          simp only at hr
          split at hr
          · cases hr
          · rename_i hsz
            have key : ∀ ad : Addr, a.eval x = .pointer (some ad) → (execOp a.eval o).run P w = .ok (.value (.pointer (some (ad.add fd.offset)))) w := by
              intro ad hv
              have hfp : (fieldPlace ad fd).run P w = .ok (ad.add fd.offset) w := by simp [fieldPlace, sizeOf, typeInfo, i1, i3, hsz]
              simp [execOp, ho, hv, Instr.fieldAt, Instr.sureAddr, run_underlying hu, hf, hfp]
            cases x' with
            | addr tk g off =>
              cases hv : a.eval x with
              | pointer p =>
                rw [hv] at hx
                cases hx with
                | addr _ _ _ ad hU hh =>
                  refine done_out hs (key ad hv) hr (.addr tk g _ _ hU fun T hT hg => ?_) (fun g hg => .inl hg) hn
                  obtain ⟨b, h1, rfl⟩ := hh T hT hg
                  exact ⟨b, h1, add_off _ _ rfl⟩
              | _ => rw [hv] at hx; cases hx
            | ptr cs off =>
              cases hv : a.eval x with
              | pointer p =>
                rw [hv] at hx
                cases hx with
                | ptr _ _ ad base arr el fz hz hb hsp hoff hl h1 h =>
                  refine done_out hs (key ad hv) hr ?_ (fun g hg => .inl hg) hn
                  rw [add_off ad fd.offset hsp]
                  exact .ptr cs _ _ base arr el fz hz hb rfl (by simp [hoff, Nat.add_assoc]) hl h1 h
              | _ => rw [hv] at hx; cases hx
            | _ => cases hr
    | _ => cases hr

theorem part_runs {t : TypeId} {cs : List AV} {vs : Array Value} {off : Nat} {k : AV → M} (hr : (part P t cs off k).Runs P s s') (h : RepL cx cs vs.toList) (h1 : ∀ (i : Nat) (u : Value), vs[i]? = some u → cell1 u = true) :
    ∃ x v, (Go.part t vs off).run P w = .ok v w ∧ Rep cx x v ∧ (k x).Runs P s s' := by
  unfold part ldCells at hr
  have hlen : cs.length = vs.size := by have := h.1; simpa using this
  cases e : ldV P t cs off with
  | none => rw [e] at hr; cases hr
  | some x =>
    rw [e] at hr
    simp only at hr
    unfold ldV at e
    cases hu : P.underlying t with
    | none => rw [hu] at e; cases e
    | some d =>
      cases hti : ti P t with
      | none => rw [hu, hti] at e; cases e
      | some q =>
        obtain ⟨z, size, by_⟩ := q
        obtain ⟨i, i1, i2, i3, i4⟩ := ti_out hti
        rw [hu, hti] at e
        simp only at e
        split at e
        · rename_i hd
          have hagg : (isAgg t).run P w = .ok true w := by
            unfold isAgg
            rw [Sem.run_bind, run_underlying hu w]
            cases d <;> simp_all [isRow]
          split at e
          · rename_i hlt
            cases e
            refine ⟨_, .agg (vs.extract off (off + size)), ?_, rep_mkagg ⟨?_, fun i x v hx hv => ?_⟩ (fun i u hu => ?_), hr⟩
            · simp [Go.part, hagg, sizeOf, typeInfo, i1, i3]
            · simp; omega
            · rw [List.getElem?_take, List.getElem?_drop] at hx
              split at hx
              · rename_i hi
                refine h.2 _ x v hx ?_
                rw [Array.getElem?_toList, Array.getElem?_extract] at hv
                rw [if_pos (by omega)] at hv
                simpa using hv
              · cases hx
            · rw [Array.getElem?_extract] at hu
              split at hu
              · exact h1 _ u hu
              · cases hu
          · cases e
        · rename_i hd
          have hagg : (isAgg t).run P w = .ok false w := by
            unfold isAgg
            rw [Sem.run_bind, run_underlying hu w]
            cases d <;> simp_all [isRow]
          split at e
          · rename_i hlt
            cases e
            have hlt' : off < vs.size := by omega
            refine ⟨_, vs[off], by simp [Go.part, hagg, hlt'], h.get (by simp [hlt']), hr⟩
          · cases e
theorem snd_field {o : Oper} {st : Nat} {t : TypeId} {x : Operand} {f : Nat} (ho : o.op = .field t x f) : Snd P N st o := by
  intro F s s' cx a w next Q hr hst hs hn
  unfold aop at hr; rw [ho] at hr
  obtain ⟨x', hr, hx⟩ := ev_runs hs hr
  unfold field at hr
  cases hu : P.underlying t with
  | none => rw [hu] at hr; cases hr
  | some d =>
    rw [hu] at hr
    cases d with
    | struct fields =>
      cases x' with
      | agg cs =>
        simp only at hr
        cases hf : fields[f]? with
        | none => rw [hf] at hr; cases hr
        | some fd =>
          rw [hf] at hr
          obtain ⟨vs, e, h1, h2⟩ := rep_agg hx
          obtain ⟨y, v, g1, g2, g3⟩ := part_runs (w := w) hr h1 h2
          exact done_out hs (by simp [execOp, ho, e, Instr.field, run_underlying hu, hf, asAgg, g1]) g3 g2 (fun g hg => .inl hg) hn
      | _ => cases hr
    | _ => cases x' <;> cases hr

theorem snd_index {o : Oper} {st : Nat} {t : TypeId} {x ix : Operand} (ho : o.op = .index t x ix) : Snd P N st o := by
  intro F s s' cx a w next Q hr hst hs hn
  unfold aop at hr; rw [ho] at hr
  obtain ⟨x', hr, hx⟩ := ev_runs hs hr
  obtain ⟨i', hr, hi⟩ := ev_runs hs hr
  unfold index at hr
  cases i' with
  | int k i =>
    have ei := rep_int hi
    simp only at hr
    cases hu : P.underlying t with
    | none => rw [hu] at hr; cases hr
    | some d =>
      rw [hu] at hr
      cases d with
      | string =>
        cases x' with
        | str l =>
          simp only at hr
          obtain ⟨sv, ex, hl⟩ := rep_str hx
          split at hr
          · rename_i hc
            have hlt : i.toNat < sv.size := by
              have : l.length = sv.size := by rw [← hl, bytesOf, List.length_map, Array.length_toList]; rfl
              omega
            have hb : sv[i.toNat]? = some sv[i.toNat] := getElem?_pos sv i.toNat hlt
            have hg : l.getD i.toNat 0 = (sv[i.toNat].toNat : Int) := by
              rw [← hl, bytesOf, List.getD_eq_getElem?_getD, List.getElem?_map]
              have : sv.data.toList[i.toNat]? = some sv[i.toNat] := by
                rw [Array.getElem?_toList]
                exact Array.getElem?_eq_getElem (xs := sv.data) hlt
              rw [this]; rfl
            refine done_out (v := .int .u8 (sv[i.toNat].toNat : Int)) hs ?_ hr (by rw [hg]; exact .int _ _) (fun g hg => .inl hg) hn
            simp [execOp, ho, ex, ei, Instr.index, asIntOf, run_underlying hu, hc.1, hb]
          · cases hr
        | _ => cases hr
      | array n e =>
        cases x' with
        | agg cs =>
          simp only at hr
          cases hti : ti P e with
          | none => rw [hti] at hr; cases hr
          | some q =>
            obtain ⟨z, size, b⟩ := q
            rw [hti] at hr
            obtain ⟨j, j1, j2, j3, j4⟩ := ti_out hti
            simp only at hr
            split at hr
            · rename_i hc
              obtain ⟨vs, e', h1, h2⟩ := rep_agg hx
              obtain ⟨y, v, g1, g2, g3⟩ := part_runs (w := w) hr h1 h2
              exact done_out hs (by simp [execOp, ho, e', ei, Instr.index, asIntOf, run_underlying hu, hc, sizeOf, typeInfo, j1, j3, g1]) g3 g2 (fun g hg => .inl hg) hn
            · cases hr
        | _ => cases hr
      | _ => cases x' <;> cases hr
  | _ => cases hr

theorem snd_indexAddr {o : Oper} {st : Nat} {t : TypeId} {x ix : Operand} (ho : o.op = .indexAddr t x ix) : Snd P N st o := by
  intro F s s' cx a w next Q hr hst hs hn
  unfold aop at hr; rw [ho] at hr
  obtain ⟨x', hr, hx⟩ := ev_runs hs hr
  obtain ⟨i', hr, hi⟩ := ev_runs hs hr
  unfold indexAddr at hr
  cases i' with
  | int k i =>
    have ei := rep_int hi
    simp only at hr
    cases hu : P.underlying t with
    | none => rw [hu] at hr; cases hr
    | some d =>
      rw [hu] at hr
      cases d with
      | slice e =>
        have key : ∀ (ad : Addr) (n c size : Nat), a.eval x = .slice (some ad) n c → (∃ z b, ti P e = some (z, size, b)) → 0 ≤ i → i < n → (execOp a.eval o).run P w = .ok (.value (.pointer (some (ad.add (i.toNat * size))))) w := by
          intro ad n c size hv hti h0 h1
          obtain ⟨z, b, hti⟩ := hti
          obtain ⟨j, j1, j2, j3, j4⟩ := ti_out hti
          simp [execOp, ho, hv, ei, Instr.indexAt, asIntOf, run_underlying hu, h0, h1, sizeOf, typeInfo, j1, j3]
        cases x' with
        | own tk g off n =>
          simp only at hr
          cases hti : ti P e with
          | none => rw [hti] at hr; cases hr
          | some q =>
            obtain ⟨z, size, b⟩ := q
            rw [hti] at hr
            obtain ⟨T, e1, e2, hr⟩ := row_runs hs hr
            split at hr
            · rename_i hc
              cases hv : a.eval x with
              | slice p n' c =>
                rw [hv] at hx
                cases hx with
                | own _ _ _ _ _ _ hU hnc hh =>
                  rcases hh T e1 e2 with h0 | ⟨bb, arr, el, fz, h1, h2, h3, h4⟩
                  · omega
                  · subst h2
                    refine done_out hs (key _ n c size hv ⟨z, b, hti⟩ hc.1 hc.2) hr (.addr tk g _ _ hU fun T' hT hg => ⟨bb, h1, add_off _ _ rfl⟩) (fun g hg => .inl hg) hn
              | _ => rw [hv] at hx; cases hx
            · cases hr
        | arr tk g off n =>
          simp only at hr
          cases hti : ti P e with
          | none => rw [hti] at hr; cases hr
          | some q =>
            obtain ⟨z, size, b⟩ := q
            rw [hti] at hr
            obtain ⟨T, e1, e2, hr⟩ := row_runs hs hr
            split at hr
            · rename_i hc
              cases hv : a.eval x with
              | slice p n' c =>
                rw [hv] at hx
                cases hx with
                | arr _ _ _ _ _ hU hh =>
                  obtain ⟨bb, h1, h2⟩ := hh T e1 e2
                  subst h2
                  refine done_out hs (key _ n n size hv ⟨z, b, hti⟩ hc.1 hc.2) hr (.addr tk g _ _ hU fun T' hT hg => ⟨bb, h1, add_off _ _ rfl⟩) (fun g hg => .inl hg) hn
              | _ => rw [hv] at hx; cases hx
            · cases hr
        | sl n cs =>
          simp only at hr
          cases hti : ti P e with
          | none => rw [hti] at hr; cases hr
          | some q =>
            obtain ⟨z, size, b⟩ := q
            rw [hti] at hr
            simp only at hr
            split at hr
            · rename_i hc
              cases hv : a.eval x with
              | slice p n' c =>
                rw [hv] at hx
                cases hx with
                | sl0 _ _ => simp at hc
                | sl _ _ ad _ arr el fz hz hb hsp hnc hl h1 h =>
                  refine done_out hs (key _ n c size hv ⟨z, b, hti⟩ hc.1 hc.2.1) hr ?_ (fun g hg => .inl hg) hn
                  rw [add_off _ _ hsp]
                  exact .ptr cs _ _ ad.off arr el fz hz hb rfl rfl hl h1 h
              | _ => rw [hv] at hx; cases hx
            · cases hr
        | _ => cases hr
      | array n e =>
        have key : ∀ (ad : Addr) (size : Nat), a.eval x = .pointer (some ad) → (∃ z b, ti P e = some (z, size, b)) → 0 ≤ i → i < n → (execOp a.eval o).run P w = .ok (.value (.pointer (some (ad.add (i.toNat * size))))) w := by
          intro ad size hv hti h0 h1
          obtain ⟨z, b, hti⟩ := hti
          obtain ⟨j, j1, j2, j3, j4⟩ := ti_out hti
          simp [execOp, ho, hv, ei, Instr.indexAt, Instr.sureAddr, asIntOf, run_underlying hu, h0, h1, sizeOf, typeInfo, j1, j3]
        cases x' with
        | addr tk g off =>
          simp only at hr
          cases hti : ti P e with
          | none => rw [hti] at hr; cases hr
          | some q =>
            obtain ⟨z, size, b⟩ := q
            rw [hti] at hr
            simp only at hr
            split at hr
            · rename_i hc
              cases hv : a.eval x with
              | pointer p =>
                rw [hv] at hx
                cases hx with
                | addr _ _ _ ad hU hh =>
                  refine done_out hs (key ad size hv ⟨z, b, hti⟩ hc.1 hc.2) hr (.addr tk g _ _ hU fun T' hT hg => ?_) (fun g hg => .inl hg) hn
                  obtain ⟨bb, h1, rfl⟩ := hh T' hT hg
                  exact ⟨bb, h1, add_off _ _ rfl⟩
              | _ => rw [hv] at hx; cases hx
            · cases hr
        | ptr cs off =>
          simp only at hr
          cases hti : ti P e with
          | none => rw [hti] at hr; cases hr
          | some q =>
            obtain ⟨z, size, b⟩ := q
            rw [hti] at hr
            simp only at hr
            split at hr
            · rename_i hc
              cases hv : a.eval x with
              | pointer p =>
                rw [hv] at hx
                cases hx with
                | ptr _ _ ad base arr el fz hz hb hsp hoff hl h1 h =>
                  refine done_out hs (key ad size hv ⟨z, b, hti⟩ hc.1 hc.2) hr ?_ (fun g hg => .inl hg) hn
                  rw [add_off ad _ hsp]
                  exact .ptr cs _ _ base arr el fz hz hb rfl (by simp [hoff, Nat.add_assoc]) hl h1 h
              | _ => rw [hv] at hx; cases hx
            · cases hr
        | _ => cases hr
      | _ => cases x' <;> cases hr
  | _ => cases hr
end Go.Eng

/- The engine, part 6: lengths, slices, make, conversions, least and greatest, arithmetic. For every program. -/
set_option linter.unusedVariables false
namespace Go.Eng
open Go.RowKit

variable {P : Program} {N : Nat} {F : Fr} {s s' : AS} {cx : Cx} {a : Act} {w : World}

theorem bytesOf_length (sv : ByteArray) : (bytesOf sv).length = sv.size := by rw [bytesOf, List.length_map, Array.length_toList]; rfl

/-- A builtin that reckons: what its call runs. -/
theorem len_runs {t : TypeId} {x : AV} {v : Value} {k : AV → M} (hx : Rep cx x v) (hr : (lenB P t x k).Runs P s s') (ty : TypeId) (ats : Array TypeId) (ha : ats[0]? = some t) :
    ∃ n : Int, (Builtin.len_ ats ty #[v]).run P w = .ok (.int .i64 n) w ∧ (k (.int .i64 n)).Runs P s s' := by
  unfold lenB at hr
  cases hu : P.underlying t with
  | none => rw [hu] at hr; cases hr
  | some d =>
    rw [hu] at hr
    cases d with
    | string =>
      cases x with
      | str l =>
        obtain ⟨sv, rfl, hl⟩ := rep_str hx
        refine ⟨_, ?_, hr⟩
        simp [Builtin.len_, ha, run_underlying hu, goInt, ← hl, bytesOf_length]
      | _ => cases hr
    | slice e =>
      cases x with
      | nilS => cases hx; exact ⟨_, by simp [Builtin.len_, ha, run_underlying hu, goInt], hr⟩
      | sl n cs =>
        cases hx with
        | sl0 => exact ⟨_, by simp [Builtin.len_, ha, run_underlying hu, goInt], hr⟩
        | sl => exact ⟨_, by simp [Builtin.len_, ha, run_underlying hu, goInt], hr⟩
      | own => cases hx with | own => exact ⟨_, by simp [Builtin.len_, ha, run_underlying hu, goInt], hr⟩
      | arr => cases hx with | arr => exact ⟨_, by simp [Builtin.len_, ha, run_underlying hu, goInt], hr⟩
      | _ => cases hr
    | array n e => exact ⟨n, by simp [Builtin.len_, ha, run_underlying hu, goInt], hr⟩
    | _ => cases x <;> cases hr

theorem rep_len {n : Nat} {cs : List AV} {v : Value} (h : Rep cx (.sl n cs) v) : ∃ p c, v = .slice p n c ∧ n ≤ c := by
  cases h with
  | sl0 p c => exact ⟨p, c, rfl, Nat.zero_le _⟩
  | sl _ _ ad c arr el fz hz hb hs hn hl h1 h => exact ⟨_, c, rfl, hn⟩

/-- The bounds of a slice expression, as the model reckons them. -/
def OptRep (cx : Cx) (x : Option AV) (v : Option Value) : Prop := (x = none ∧ v = none) ∨ ∃ y u, x = some y ∧ v = some u ∧ Rep cx y u
theorem opt_rep {x : List AV} {v : Option Operand} (h : RepL cx x (v.toList.map a.eval)) : OptRep cx x.head? (v.map a.eval) := by
  cases v with
  | none => left; exact ⟨by have := h.1; simp at this; subst this; rfl, rfl⟩
  | some u =>
    obtain ⟨v', vs', e, h1⟩ : ∃ y r, x = y :: r ∧ True := by
      cases x with
      | nil => have := h.1; simp at this
      | cons y r => exact ⟨y, r, rfl, trivial⟩
    subst e
    right
    exact ⟨_, _, rfl, rfl, h.2 0 _ _ rfl rfl⟩
theorem sliceBound_run (k : IntKind) (i : Int) (y : Nat) (code : BoundsCode) (h : 0 ≤ i ∧ i ≤ y) : (Instr.sliceBound (.int k i) y code).run P w = .ok i.toNat w := by
  simp [Instr.sliceBound, asIntOf, h]
theorem bounds_runs {n cap : Nat} {isS : Bool} {lo hi mx : Option AV} {lov hiv mxv : Option Value} {k : Nat → Nat → Nat → M} (hcap : n ≤ cap) (hlo : OptRep cx lo lov) (hhi : OptRep cx hi hiv) (hmx : OptRep cx mx mxv)
    (hr : (bounds n lo hi mx k).Runs P s s') :
    ∃ l h m : Nat, l ≤ h ∧ h ≤ n ∧ h ≤ m ∧ m ≤ n ∧ (k l h m).Runs P s s' ∧ (mx = none → m = n ∧ mxv = none) ∧ (mx.isSome = true → mxv.isSome = true) ∧ (Instr.sliceBounds isS n cap lov hiv mxv).run P w = .ok (l, h, if mx.isSome then m else cap) w := by
  unfold bounds at hr
  have hl : ∃ l : Int, loOf lo = some l ∧ ∀ (y : Nat) (c : BoundsCode), 0 ≤ l → l ≤ y → (match lov with | some v => Instr.sliceBound v y c | none => (pure 0 : Sem Nat)).run P w = .ok l.toNat w := by
    rcases hlo with ⟨rfl, rfl⟩ | ⟨y, u, rfl, rfl, h⟩
    · exact ⟨0, rfl, fun _ _ _ _ => rfl⟩
    · cases y with
      | int kk i => have := rep_int h; subst this; exact ⟨i, rfl, fun y c h0 h1 => sliceBound_run kk i y c ⟨h0, h1⟩⟩
      | _ => cases hr
  obtain ⟨l, hl1, hl2⟩ := hl
  rw [hl1] at hr
  simp only at hr
  rcases hmx with ⟨rfl, rfl⟩ | ⟨ym, um, rfl, rfl, hm⟩
  · rcases hhi with ⟨rfl, rfl⟩ | ⟨yh, uh, rfl, rfl, hh⟩
    · simp only at hr
      split at hr
      · rename_i hc
        refine ⟨_, _, _, by omega, Nat.le_refl _, Nat.le_refl _, Nat.le_refl _, hr, fun _ => ⟨rfl, rfl⟩, (fun h => by cases h), ?_⟩
        have := hl2 n .sliceB hc.1 hc.2
        cases lov <;> simp_all [Instr.sliceBounds]
      · cases hr
    · cases yh with
      | int kk h =>
        have := rep_int hh; subst this
        simp only at hr
        split at hr
        · rename_i hc
          refine ⟨_, _, _, by omega, by omega, by omega, Nat.le_refl _, hr, fun _ => ⟨rfl, rfl⟩, (fun h => by cases h), ?_⟩
          have h1 := hl2 h.toNat .sliceB hc.1 (by omega)
          have h2 := sliceBound_run (P := P) (w := w) kk h cap (if isS = true then .sliceAcap else .sliceAlen) ⟨by omega, by omega⟩
          cases lov <;> simp_all [Instr.sliceBounds]
        · cases hr
      | _ => cases hr
  · cases ym with
    | int km m =>
      have := rep_int hm; subst this
      rcases hhi with ⟨rfl, rfl⟩ | ⟨yh, uh, rfl, rfl, hh⟩
      · cases hr
      · cases yh with
        | int kk h =>
          have := rep_int hh; subst this
          simp only at hr
          split at hr
          · rename_i hc
            refine ⟨_, _, _, by omega, by omega, by omega, by omega, hr, (fun h => by cases h), fun _ => rfl, ?_⟩
            have h1 := hl2 h.toNat .slice3C hc.1 (by omega)
            have h2 := sliceBound_run (P := P) (w := w) kk h m.toNat .slice3B ⟨by omega, by omega⟩
            have h3 := sliceBound_run (P := P) (w := w) km m cap (if isS = true then .slice3Acap else .slice3Alen) ⟨by omega, by omega⟩
            cases lov <;> simp_all [Instr.sliceBounds]
          · cases hr
        | _ => cases hr
    | _ => cases hr
theorem snd_slice {o : Oper} {st : Nat} {t : TypeId} {x : Operand} {lo hi mx : Option Operand} (ho : o.op = .slice t x lo hi mx) : Snd P N st o := by
  intro F s s' cx a w next Q hr hst hs hn
  unfold aop at hr; rw [ho] at hr
  obtain ⟨x', hr, hx⟩ := ev_runs hs hr
  obtain ⟨los, hr, hlo⟩ := evL_runs hs hr
  obtain ⟨his, hr, hhi⟩ := evL_runs hs hr
  obtain ⟨mxs, hr, hmx⟩ := evL_runs hs hr
  have hlo := opt_rep hlo
  have hhi := opt_rep hhi
  have hmx := opt_rep hmx
  unfold slice at hr
  cases hu : P.underlying t with
  | none => rw [hu] at hr; cases hr
  | some d =>
    rw [hu] at hr
    cases d with
    | string =>
      cases x' with
      | str l =>
        simp only at hr
        split at hr
        · cases hr
        · rename_i hm
          obtain ⟨sv, ex, hl⟩ := rep_str hx
          have hlen : l.length = sv.size := by rw [← hl, bytesOf_length]
          have hmx0 : mx.map a.eval = none := by
            rcases hmx with ⟨_, h⟩ | ⟨y, u, h, _⟩
            · exact h
            · rw [h] at hm; simp at hm
          rw [hlen] at hr
          obtain ⟨lw, h, m, b1, b2, b3, b4, hr, b5, b6, b7⟩ := bounds_runs (P := P) (w := w) (isS := false) (n := sv.size) (cap := sv.size) (Nat.le_refl _) hlo hhi (.inl ⟨rfl, rfl⟩) hr
          refine done_out (v := .string (sv.extract lw h)) hs ?_ hr (.str _ _ ?_) (fun g hg => .inl hg) hn
          · have hm2 : mx = none := by cases mx <;> simp_all
            subst hm2
            have b7' := b7
            simp at b7'
            simp [execOp, ho, ex, Instr.sliceAt, Instr.slice, run_underlying hu, b7']
          · rw [← hl]
            simp only [bytesOf, ByteArray.data_extract, Array.toList_extract, List.extract, List.map_take, List.map_drop]
            rw [List.drop_take]
      | _ => cases hr
    | slice e =>
      have key : ∀ (p : Option Addr) (n c lw h m : Nat) (size : Nat), a.eval x = .slice p n c → (∃ z b, ti P e = some (z, size, b)) → (Instr.sliceBounds true n c (lo.map a.eval) (hi.map a.eval) (mx.map a.eval)).run P w = .ok (lw, h, m) w →
          (execOp a.eval o).run P w = .ok (.value (.slice (if m = lw then p else p.map (·.add (lw * size))) (h - lw) (m - lw))) w := by
        intro p n c lw h m size hv hti hb
        obtain ⟨z, b, hti⟩ := hti
        obtain ⟨j, j1, j2, j3, j4⟩ := ti_out hti
        simp [execOp, ho, hv, Instr.sliceAt, Instr.slice, run_underlying hu, hb, sizeOf, typeInfo, j1, j3]
      cases x' with
      | nilS =>
        simp only at hr
        cases hti : ti P e with
        | none => rw [hti] at hr; cases hr
        | some q =>
          obtain ⟨z, size, b⟩ := q
          rw [hti] at hr
          simp only at hr
          cases hv : a.eval x with
          | slice p n' c =>
            rw [hv] at hx
            cases hx with
            | nilS =>
              obtain ⟨lw, h, m, b1, b2, b3, b4, hr, b5, b6, b7⟩ := bounds_runs (P := P) (w := w) (isS := true) (n := 0) (cap := 0) (Nat.le_refl _) hlo hhi hmx hr
              have hrun := key _ _ _ lw h _ size hv ⟨z, b, hti⟩ b7
              have m0 : (if (mxs.head?).isSome = true then m else 0) = 0 := by split <;> omega
              rw [m0, show h = 0 by omega, show lw = 0 by omega] at hrun
              exact done_out hs hrun hr .nilS (fun g hg => .inl hg) hn
          | _ => rw [hv] at hx; cases hx
      | sl n cs =>
        simp only at hr
        cases hti : ti P e with
        | none => rw [hti] at hr; cases hr
        | some q =>
          obtain ⟨z, size, b⟩ := q
          rw [hti] at hr
          simp only at hr
          split at hr
          · rename_i hcs
            obtain ⟨p, c, hv, hnc⟩ := rep_len hx
            obtain ⟨lw, h, m, b1, b2, b3, b4, hr, b5, b6, b7⟩ := bounds_runs (P := P) (w := w) (isS := true) hnc hlo hhi hmx hr
            have hrun := key p n c lw h _ size hv ⟨z, b, hti⟩ b7
            have hmc : (if (mxs.head?).isSome = true then m else c) ≤ c := by split <;> omega
            have hhm : h ≤ (if (mxs.head?).isSome = true then m else c) := by split <;> omega
            generalize (if (mxs.head?).isSome = true then m else c) = mm at hrun hmc hhm
            have hnil : h - lw = 0 → (cs.take (h * size)).drop (lw * size) = [] := by
              intro h0
              have : h = lw := by omega
              subst this
              apply List.drop_of_length_le
              simp; omega
            refine done_out hs hrun hr ?_ (fun g hg => .inl hg) hn
            by_cases h0 : h - lw = 0
            · rw [h0, hnil h0]; exact .sl0 _ _
            · rw [if_neg (by omega)]
              rw [hv] at hx
              cases hx with
              | sl0 _ _ => omega
              | sl _ _ ad _ arr el fz hz hb hsp hn' hl h1 h2 =>
                rw [Option.map_some, add_off _ _ hsp]
                refine .sl _ _ _ _ arr el fz hz hb rfl (by omega) ?_ (fun i v hi hv' => h1 (lw * size + i) v (by simp only [List.length_drop, List.length_take] at hi; omega) (by rw [← Nat.add_assoc]; exact hv')) fun i y v hy hv' => ?_
                · simp only [List.length_drop, List.length_take]
                  have : h * size ≤ n * size := Nat.mul_le_mul_right _ b2
                  have : lw * size ≤ h * size := Nat.mul_le_mul_right _ b1
                  omega
                · rw [List.getElem?_drop, List.getElem?_take] at hy
                  split at hy
                  · exact h2 _ y v hy (by rw [← Nat.add_assoc]; exact hv')
                  · cases hy
          · cases hr
      | own tk g off n =>
        simp only at hr
        cases hti : ti P e with
        | none => rw [hti] at hr; cases hr
        | some q =>
          obtain ⟨z, size, b⟩ := q
          rw [hti] at hr
          obtain ⟨T, e1, e2, hr⟩ := row_runs hs hr
          split at hr
          · rename_i hsz
            cases hv : a.eval x with
            | slice p n' c =>
              rw [hv] at hx
              cases hx with
              | own _ _ _ _ _ _ hU hnc hh =>
                obtain ⟨lw, h, m, b1, b2, b3, b4, hr, b5, b6, b7⟩ := bounds_runs (P := P) (w := w) (isS := true) hnc hlo hhi hmx hr
                have hrun := key p n c lw h _ size hv ⟨z, b, hti⟩ b7
                have hmc : (if (mxs.head?).isSome = true then m else c) ≤ c := by split <;> omega
                have hhm : h ≤ (if (mxs.head?).isSome = true then m else c) := by split <;> omega
                generalize (if (mxs.head?).isSome = true then m else c) = mm at hrun hmc hhm
                refine done_out hs hrun hr (.own tk g _ _ _ _ hU (by omega) fun T' hT hg => ?_) (fun g hg => .inl hg) hn
                have hTT : T' = T := by rw [e1] at hT; cases hT; rfl
                subst hTT
                by_cases h0 : mm = lw
                · left; omega
                · right
                  rcases hh T' hT hg with h1 | ⟨bb, arr, el, fz, h1, h2, h3, h4⟩
                  · omega
                  · rw [if_neg h0, h2, Option.map_some, add_off _ _ rfl]
                    refine ⟨bb, arr, el, fz, h1, rfl, h3, ?_⟩
                    rw [hsz] at h4 ⊢
                    have : (mm - lw) * size + lw * size = mm * size := by rw [← Nat.add_mul]; congr 1; omega
                    have : mm * size ≤ c * size := Nat.mul_le_mul_right _ hmc
                    omega
            | _ => rw [hv] at hx; cases hx
          · cases hr
      | _ => cases hr
    | array n e =>
      have key : ∀ (ad : Addr) (lw h m : Nat) (size : Nat), a.eval x = .pointer (some ad) → (∃ z b, ti P e = some (z, size, b)) → (Instr.sliceBounds false n n (lo.map a.eval) (hi.map a.eval) (mx.map a.eval)).run P w = .ok (lw, h, m) w →
          (execOp a.eval o).run P w = .ok (.value (.slice (some (if m = lw then ad else ad.add (lw * size))) (h - lw) (m - lw))) w := by
        intro ad lw h m size hv hti hb
        obtain ⟨z, b, hti⟩ := hti
        obtain ⟨j, j1, j2, j3, j4⟩ := ti_out hti
        simp [execOp, ho, hv, Instr.sliceAt, Instr.sureAddr, run_underlying hu, hb, sizeOf, typeInfo, j1, j3]
      cases x' with
      | addr tk g off =>
        simp only at hr
        cases hti : ti P e with
        | none => rw [hti] at hr; cases hr
        | some q =>
          obtain ⟨z, size, b⟩ := q
          rw [hti] at hr
          cases hh1 : his.head? with
          | some _ => rw [hh1] at hr; cases hr
          | none =>
            cases hh2 : mxs.head? with
            | some _ => rw [hh1, hh2] at hr; cases hr
            | none =>
              rw [hh1, hh2] at hr
              simp only at hr
              rw [hh1] at hhi
              rw [hh2] at hmx
              cases hv : a.eval x with
              | pointer p =>
                rw [hv] at hx
                cases hx with
                | addr _ _ _ ad hU hh =>
                  obtain ⟨lw, h, m, b1, b2, b3, b4, hr, b5, b6, b7⟩ := bounds_runs (P := P) (w := w) (isS := false) (n := n) (cap := n) (Nat.le_refl _) hlo hhi hmx hr
                  split at hr
                  · rename_i hlt
                    have hhn : h = n := by
                      obtain ⟨_, e1⟩ | ⟨y, u, e1, _⟩ := hhi
                      · obtain ⟨_, e2⟩ | ⟨y, u, e2, _⟩ := hmx
                        · rw [e1, e2] at b7
                          cases hlo' : lo.map a.eval with
                          | none => rw [hlo'] at b7; simp [Instr.sliceBounds] at b7; omega
                          | some v =>
                            rw [hlo'] at b7
                            simp [Instr.sliceBounds] at b7
                            cases hq : (Instr.sliceBound v n .sliceB).run P w with
                            | ok q w1 => rw [hq] at b7; simp at b7; omega
                            | halt q w1 => rw [hq] at b7; simp at b7
                        · cases e2
                      · cases e1
                    have hrun := key ad lw h _ size hv ⟨z, b, hti⟩ b7
                    simp only [Option.isSome_none, Bool.false_eq_true, if_false] at hrun
                    rw [if_neg (by omega), ← hhn] at hrun
                    refine done_out hs hrun hr (.arr tk g _ _ _ hU fun T' hT hg => ?_) (fun g hg => .inl hg) hn
                    obtain ⟨bb, h1, rfl⟩ := hh T' hT hg
                    exact ⟨bb, h1, by rw [add_off _ _ rfl]⟩
                  · cases hr
              | _ => rw [hv] at hx; cases hx
      | ptr cs off =>
        simp only at hr
        cases hti : ti P e with
        | none => rw [hti] at hr; cases hr
        | some q =>
          obtain ⟨z, size, b⟩ := q
          rw [hti] at hr
          simp only at hr
          split at hr
          · rename_i hcs
            cases hv : a.eval x with
            | pointer p =>
              rw [hv] at hx
              cases hx with
              | ptr _ _ ad base arr el fz hz hb hsp hoff hl h1 h2 =>
                obtain ⟨lw, h, m, b1, b2, b3, b4, hr, b5, b6, b7⟩ := bounds_runs (P := P) (w := w) (isS := false) (n := n) (cap := n) (Nat.le_refl _) hlo hhi hmx hr
                have hrun := key ad lw h _ size hv ⟨z, b, hti⟩ b7
                have hmc : (if (mxs.head?).isSome = true then m else n) ≤ n := by split <;> omega
                have hhm : h ≤ (if (mxs.head?).isSome = true then m else n) := by split <;> omega
                generalize (if (mxs.head?).isSome = true then m else n) = mm at hrun hmc hhm
                refine done_out hs hrun hr ?_ (fun g hg => .inl hg) hn
                by_cases h0 : h - lw = 0
                · rw [h0]; simp; exact .sl0 _ _
                · rw [if_neg (by omega), add_off _ _ hsp]
                  have q1 : (h - lw) * size + lw * size = h * size := by rw [← Nat.add_mul]; congr 1; omega
                  have q2 : h * size ≤ n * size := Nat.mul_le_mul_right _ b2
                  refine .sl _ _ _ _ arr el fz hz hb rfl (by omega) ?_ (fun i v hi hv' => h1 (off + lw * size + i) v (by simp only [List.length_drop, List.length_take] at hi; omega) (by
                    simp only [hoff] at hv'
                    rw [show base + (off + lw * size + i) = base + off + lw * size + i by omega]
                    exact hv')) fun i y v hy hv' => ?_
                  · simp only [List.length_drop, List.length_take, hoff]
                    omega
                  · rw [List.getElem?_take, List.getElem?_drop] at hy
                    split at hy
                    · refine h2 _ y v hy ?_
                      simp only [hoff] at hv'
                      rw [show base + (off + lw * size + i) = base + off + lw * size + i by omega]
                      exact hv'
                    · cases hy
            | _ => rw [hv] at hx; cases hx
          · cases hr
      | _ => cases hr
    | _ => cases x' <;> cases hr

/-! ### make, conversions -/
theorem madeCells_eq (z : Array Value) (n : Nat) : (Array.range n).map (fun i => z[i % z.size]!) = (Array.range n).map (fun i => z[i % z.size]!) := rfl
theorem snd_makeSlice {o : Oper} {st : Nat} {t : TypeId} {x y : Operand} (ho : o.op = .makeSlice t x y) : Snd P N st o := by
  intro F s s' cx a w next Q hr hst hs hn
  unfold aop at hr; rw [ho] at hr
  obtain ⟨x', hr, hx⟩ := ev_runs hs hr
  obtain ⟨y', hr, hy⟩ := ev_runs hs hr
  split at hr
  · rename_i l c e hu _
    have ex := rep_int hx
    have ey := rep_int hy
    cases hz : zc P e with
    | none => rw [hz] at hr; cases hr
    | some q =>
      obtain ⟨z, size, by_⟩ := q
      rw [hz] at hr
      simp only at hr
      obtain ⟨i, zv, h1, h2, h3, h4, h5, h5', h6, h7⟩ := zc_out hz
      have h6' : ∀ v ∈ zv.cells.toList, cell1 v = true := fun v hv => by obtain ⟨j, hj⟩ := List.getElem?_of_mem hv; exact h6 j v (by simpa using hj)
      have hzl : z.length = size := by have := (h7 cx).1; simp at this; omega
      split at hr
      · rename_i hc
        obtain ⟨c1, c2, c3, c4, c5⟩ := hc
        have hrun := run_make (P := P) w t e i zv hu h1 h2 .i64 .i64 l c c1 c2 (by rw [h4]; omega) (by omega)
        have hcells : madeCells zv.cells (c.toNat * i.size) = (Array.range (c.toNat * size)).map (fun i => zv.cells[i % zv.cells.size]!) := by
          rw [h3]; rfl
        obtain ⟨z1, z2⟩ := zrep_rep (h7 cx) h6' c.toNat (c.toNat * size) (by rw [hzl]) (.inr (by omega))
        have hrun' : (execOp a.eval o).run P w = .ok (.value (.slice (some ⟨w.heap.size, 0, none⟩) l.toNat c.toNat)) (w.alloc (.cells (madeCells zv.cells (c.toNat * i.size)) e)) := by
          simp [execOp, ho, ex, ey, hrun]
        have hlc : l.toNat * size ≤ c.toNat * size := Nat.mul_le_mul_right _ (by omega)
        have hsize : (madeCells zv.cells (c.toNat * i.size)).size = c.toNat * size := by rw [hcells]; simp
        refine done_mk hs hr hst (madeCells zv.cells (c.toNat * i.size)) e (0, 0) (w' := w.alloc (.cells (madeCells zv.cells (c.toNat * i.size)) e)) (v := .slice (some ⟨w.heap.size, 0, none⟩) l.toNat c.toNat) rfl rfl rfl rfl (.inl rfl)
          (fun i u hu => z2 u (by rw [← hcells]; simpa using Array.mem_of_getElem? hu)) (by rw [hsize, zrep_length, hzl]; exact hlc) (fun j x v hx' hv => ?_) hrun' (fun d cx' e1 e2 e3 e4 => own_new e1 e2 e3 e4 (by omega) (by omega)) hn
        have hj : j < l.toNat * size := by
          have := (List.getElem?_eq_some_iff.1 hx').1
          rw [zrep_length, hzl] at this
          exact this
        refine z1.2 j x v ?_ (by rw [← hcells]; simpa using hv)
        unfold zrep at hx' ⊢
        rw [List.getElem?_map, List.getElem?_range (by rw [hzl]; omega)] at hx' ⊢
        exact hx'
      · cases hr
  · cases hr
end Go.Eng
