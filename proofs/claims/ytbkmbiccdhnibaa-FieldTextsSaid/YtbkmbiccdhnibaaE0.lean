/- The engine, part 0: abstract values, what they stand for in a world, and how that is kept when the world changes. For every program. -/
import Derived.Calls
import Derived.Below
import Derived.Control
import Derived.Laws.Sem
set_option linter.unusedVariables false
namespace Go.Eng

/-- An abstract value: what a slot holds. A slice is known by its cells; 'own' is a slice of a row that the call made itself and may still change. -/
inductive AV where
  | bool (b : Bool)
  | int (k : IntKind) (n : Int)
  | str (l : List Int)
  | nilS
  | nilP
  | em (b : Bool)
  | sl (n : Nat) (cs : List AV)
  | own (t g off n : Nat)
  | arr (t g off n : Nat)
  | addr (t g off : Nat)
  | ptr (cs : List AV) (off : Nat)
  | fn (f : FuncId) (caps : List AV)
  | agg (cs : List AV)
  | tup (cs : List AV)
  | dead
  deriving Inhabited

/-- A row of the call's own: its stamp, the cells of an element, its cells. -/
structure Tok where
  g : Nat
  sz : Nat
  cs : List AV

/-- What an abstract value is read in: the heap, the blocks that stay as they are, the rows of one's own, the stamps in use. -/
structure Cx where
  h : Array Obj
  Z : Nat → Prop
  ρ : Nat → Option Nat
  tk : Nat → Option Tok
  U : Nat → Prop

abbrev cell1 (v : Value) : Bool := v.oneCell'

def bytesOf (s : ByteArray) : List Int := s.data.toList.map fun b => (b.toNat : Int)

inductive Rep (cx : Cx) : AV → Value → Prop
  | bool (b : Bool) : Rep cx (.bool b) (.bool b)
  | int (k : IntKind) (n : Int) : Rep cx (.int k n) (.int k n)
  | str (s : ByteArray) (l : List Int) (h : bytesOf s = l) : Rep cx (.str l) (.string s)
  | nilS : Rep cx .nilS (.slice none 0 0)
  | nilP : Rep cx .nilP (.pointer none)
  | em (b : Bool) (a : Option Addr) (c : Nat) (h : a.isNone = b) : Rep cx (.em b) (.slice a 0 c)
  | sl0 (a : Option Addr) (c : Nat) : Rep cx (.sl 0 []) (.slice a 0 c)
  | sl (n : Nat) (cs : List AV) (ad : Addr) (c : Nat) (arr : Array Value) (el : TypeId) (fz : Nat × Nat) (hz : cx.Z ad.block) (hb : cx.h[ad.block]? = some (.cells arr el fz))
      (hs : ad.spot = none) (hn : n ≤ c) (hl : ad.off + cs.length ≤ arr.size) (h1 : ∀ (i : Nat) (v : Value), i < cs.length → arr[ad.off + i]? = some v → cell1 v = true)
      (h : ∀ (i : Nat) (x : AV) (v : Value), cs[i]? = some x → arr[ad.off + i]? = some v → Rep cx x v) : Rep cx (.sl n cs) (.slice (some ad) n c)
  | own (t g off n : Nat) (a : Option Addr) (c : Nat) (hu : cx.U g) (hn : n ≤ c)
      (h : ∀ T, cx.tk t = some T → T.g = g → (n = 0 ∧ c = 0) ∨ ∃ b arr el fz, cx.ρ t = some b ∧ a = some ⟨b, off, none⟩ ∧ cx.h[b]? = some (.cells arr el fz) ∧ off + c * T.sz ≤ arr.size) :
      Rep cx (.own t g off n) (.slice a n c)
  | arr (t g off n : Nat) (a : Option Addr) (hu : cx.U g)
      (h : ∀ T, cx.tk t = some T → T.g = g → ∃ b, cx.ρ t = some b ∧ a = some ⟨b, off, none⟩) :
      Rep cx (.arr t g off n) (.slice a n n)
  | addr (t g off : Nat) (ad : Addr) (hu : cx.U g) (h : ∀ T, cx.tk t = some T → T.g = g → ∃ b, cx.ρ t = some b ∧ ad = ⟨b, off, none⟩) : Rep cx (.addr t g off) (.pointer (some ad))
  | ptr (cs : List AV) (off : Nat) (ad : Addr) (base : Nat) (arr : Array Value) (el : TypeId) (fz : Nat × Nat) (hz : cx.Z ad.block) (hb : cx.h[ad.block]? = some (.cells arr el fz))
      (hs : ad.spot = none) (ho : ad.off = base + off) (hl : base + cs.length ≤ arr.size) (h1 : ∀ (i : Nat) (v : Value), i < cs.length → arr[base + i]? = some v → cell1 v = true)
      (h : ∀ (i : Nat) (x : AV) (v : Value), cs[i]? = some x → arr[base + i]? = some v → Rep cx x v) : Rep cx (.ptr cs off) (.pointer (some ad))
  | fn (f : FuncId) (caps : List AV) (vs : Array Value) (hl : caps.length = vs.size) (h : ∀ (i : Nat) (x : AV) (v : Value), caps[i]? = some x → vs[i]? = some v → Rep cx x v) : Rep cx (.fn f caps) (.func (.func f) #[] vs)
  | agg (cs : List AV) (vs : Array Value) (hl : cs.length = vs.size) (h1 : ∀ (i : Nat) (v : Value), vs[i]? = some v → cell1 v = true) (h : ∀ (i : Nat) (x : AV) (v : Value), cs[i]? = some x → vs[i]? = some v → Rep cx x v) : Rep cx (.agg cs) (.agg vs)
  | tup (cs : List AV) (vs : Array Value) (hl : cs.length = vs.size) (h : ∀ (i : Nat) (x : AV) (v : Value), cs[i]? = some x → vs[i]? = some v → Rep cx x v) : Rep cx (.tup cs) (.tuple vs)
  | dead (v : Value) : Rep cx .dead v

def RepL (cx : Cx) (cs : List AV) (vs : List Value) : Prop := cs.length = vs.length ∧ ∀ (i : Nat) (x : AV) (v : Value), cs[i]? = some x → vs[i]? = some v → Rep cx x v

theorem RepL.nil (cx : Cx) : RepL cx [] [] := ⟨rfl, fun i x v h => by simp at h⟩
theorem RepL.cons {cx : Cx} {x : AV} {v : Value} {cs : List AV} {vs : List Value} (h : Rep cx x v) (k : RepL cx cs vs) : RepL cx (x :: cs) (v :: vs) := by
  refine ⟨by simp [k.1], fun i y u hy hu => ?_⟩
  cases i with
  | zero => simp at hy hu; subst hy; subst hu; exact h
  | succ i => simp at hy hu; exact k.2 i y u hy hu
theorem RepL.uncons {cx : Cx} {x : AV} {cs : List AV} {vs : List Value} (h : RepL cx (x :: cs) vs) : ∃ v vs', vs = v :: vs' ∧ Rep cx x v ∧ RepL cx cs vs' := by
  cases vs with
  | nil => simp [RepL] at h
  | cons v vs' =>
    refine ⟨v, vs', rfl, h.2 0 x v rfl rfl, by simpa using h.1, fun i y u hy hu => h.2 (i + 1) y u (by simpa using hy) (by simpa using hu)⟩
theorem RepL.append {cx : Cx} {cs ds : List AV} {vs us : List Value} (h : RepL cx cs vs) (k : RepL cx ds us) : RepL cx (cs ++ ds) (vs ++ us) := by
  refine ⟨by simp [h.1, k.1], fun i y u hy hu => ?_⟩
  by_cases hi : i < cs.length
  · rw [List.getElem?_append_left hi] at hy
    rw [List.getElem?_append_left (by rw [← h.1]; exact hi)] at hu
    exact h.2 i y u hy hu
  · rw [List.getElem?_append_right (by omega)] at hy
    rw [List.getElem?_append_right (by rw [← h.1]; omega)] at hu
    rw [← h.1] at hu
    exact k.2 _ y u hy hu
theorem RepL.take {cx : Cx} {cs : List AV} {vs : List Value} (h : RepL cx cs vs) (n : Nat) : RepL cx (cs.take n) (vs.take n) := by
  refine ⟨by simp [h.1], fun i y u hy hu => ?_⟩
  rw [List.getElem?_take] at hy hu
  split at hy
  · rename_i hi; rw [if_pos hi] at hu; exact h.2 i y u hy hu
  · cases hy
theorem RepL.drop {cx : Cx} {cs : List AV} {vs : List Value} (h : RepL cx cs vs) (n : Nat) : RepL cx (cs.drop n) (vs.drop n) := by
  refine ⟨by simp [h.1], fun i y u hy hu => ?_⟩
  rw [List.getElem?_drop] at hy hu
  exact h.2 _ y u hy hu
theorem RepL.get {cx : Cx} {cs : List AV} {vs : List Value} (h : RepL cx cs vs) {i : Nat} {v : Value} (hv : vs[i]? = some v) : Rep cx (cs.getD i .dead) v := by
  have hi : i < vs.length := (List.getElem?_eq_some_iff.1 hv).1
  rw [← h.1] at hi
  have hx : cs[i]? = some cs[i] := List.getElem?_eq_getElem hi
  rw [List.getD_eq_getElem?_getD, hx]
  exact h.2 i _ v hx hv
theorem RepL.set {cx : Cx} {cs : List AV} {vs : List Value} (h : RepL cx cs vs) (i : Nat) {x : AV} {v : Value} (hx : Rep cx x v) : RepL cx (cs.set i x) (vs.set i v) := by
  refine ⟨by simp [h.1], fun j y u hy hu => ?_⟩
  rw [List.getElem?_set] at hy hu
  by_cases e : i = j
  · subst e
    rw [if_pos rfl] at hy hu
    split at hy
    · rename_i hi
      rw [if_pos (by rw [← h.1]; exact hi)] at hu
      cases hy; cases hu; exact hx
    · cases hy
  · rw [if_neg e] at hy hu
    exact h.2 j y u hy hu

/-- What must hold that what was read is read again in another world. -/
structure Tr (cx cx' : Cx) : Prop where
  Z : ∀ b, cx.Z b → cx'.Z b ∧ cx'.h[b]? = cx.h[b]?
  U : ∀ g, cx.U g → cx'.U g
  tk : ∀ t T', cx'.tk t = some T' → cx.U T'.g → ∃ T, cx.tk t = some T ∧ T.g = T'.g ∧ T.sz = T'.sz ∧ cx'.ρ t = cx.ρ t
  row : ∀ t T b arr el fz, cx.tk t = some T → cx.ρ t = some b → cx.h[b]? = some (.cells arr el fz) → ∃ arr' el' fz', cx'.h[b]? = some (.cells arr' el' fz') ∧ arr.size ≤ arr'.size

theorem Tr.refl (cx : Cx) : Tr cx cx := ⟨fun _ h => ⟨h, rfl⟩, fun _ h => h, fun t T' h _ => ⟨T', h, rfl, rfl, rfl⟩, fun _ _ _ arr el fz _ _ h => ⟨arr, el, fz, h, Nat.le_refl _⟩⟩

theorem Rep.tr {cx cx' : Cx} (T : Tr cx cx') {x : AV} {v : Value} (h : Rep cx x v) : Rep cx' x v := by
  induction h with
  | bool b => exact .bool b
  | int k n => exact .int k n
  | str s l h => exact .str s l h
  | nilS => exact .nilS
  | nilP => exact .nilP
  | em b a c h => exact .em b a c h
  | sl0 a c => exact .sl0 a c
  | sl n cs ad c arr el fz hz hb hs hn hl h1 h ih => exact .sl n cs ad c arr el fz (T.Z _ hz).1 ((T.Z _ hz).2.trans hb) hs hn hl h1 ih
  | own t g off n a c hu hn h =>
    refine .own t g off n a c (T.U _ hu) hn fun T' h' hg => ?_
    obtain ⟨T0, e0, eg, es, er⟩ := T.tk t T' h' (by rw [hg]; exact hu)
    rcases h T0 e0 (by rw [eg, hg]) with h0 | ⟨b, arr, el, fz, h1, h2, h3, h4⟩
    · exact .inl h0
    · obtain ⟨arr', el', fz', h5, h6⟩ := T.row t T0 b arr el fz e0 h1 h3
      exact .inr ⟨b, arr', el', fz', er.trans h1, h2, h5, by rw [← es]; omega⟩
  | arr t g off n a hu h =>
    refine .arr t g off n a (T.U _ hu) fun T' h' hg => ?_
    obtain ⟨T0, e0, eg, es, er⟩ := T.tk t T' h' (by rw [hg]; exact hu)
    obtain ⟨b, h1, h2⟩ := h T0 e0 (by rw [eg, hg])
    exact ⟨b, er.trans h1, h2⟩
  | addr t g off ad hu h =>
    refine .addr t g off ad (T.U _ hu) fun T' h' hg => ?_
    obtain ⟨T0, e0, eg, es, er⟩ := T.tk t T' h' (by rw [hg]; exact hu)
    obtain ⟨b, h1, h2⟩ := h T0 e0 (by rw [eg, hg])
    exact ⟨b, er.trans h1, h2⟩
  | ptr cs off ad base arr el fz hz hb hs ho hl h1 h ih => exact .ptr cs off ad base arr el fz (T.Z _ hz).1 ((T.Z _ hz).2.trans hb) hs ho hl h1 ih
  | fn f caps vs hl h ih => exact .fn f caps vs hl ih
  | agg cs vs hl h1 h ih => exact .agg cs vs hl h1 ih
  | tup cs vs hl h ih => exact .tup cs vs hl ih
  | dead v => exact .dead v

theorem RepL.tr {cx cx' : Cx} (T : Tr cx cx') {cs : List AV} {vs : List Value} (h : RepL cx cs vs) : RepL cx' cs vs := ⟨h.1, fun i x v hx hv => (h.2 i x v hx hv).tr T⟩

/-- The abstract state: the slots, the rows of one's own, a stamp from which on none is in use. -/
structure AS where
  env : Nat → AV
  tk : Nat → Option Tok
  nx : Nat

/-- What a call found: the heap's size, which blocks it may not touch, which it was handed to read. -/
structure Fr where
  w0 : World
  prot : Nat → Prop
  Z0 : Nat → Prop
  hprot : ∀ b, b < w0.heap.size → prot b

/-- No cell of the row is frozen, nor will one be that lies ahead of its end. -/
def FzOk (n : Nat) (fz : Nat × Nat) : Prop := fz.1 = fz.2 ∨ n ≤ fz.1
theorem FzOk.ok {n : Nat} {fz : Nat × Nat} (h : FzOk n fz) {i : Nat} (hi : i < n) : ¬ (fz.1 ≤ i ∧ i < fz.2) := by unfold FzOk at h; omega
/-- A row of one's own, as it lies. -/
def TokAt (cx : Cx) (T : Tok) (b : Nat) : Prop :=
  ∃ arr el fz, cx.h[b]? = some (.cells arr el fz) ∧ (FzOk arr.size fz) ∧ (∀ (i : Nat) (v : Value), arr[i]? = some v → cell1 v = true) ∧ T.cs.length ≤ arr.size ∧
    ∀ (i : Nat) (x : AV) (v : Value), T.cs[i]? = some x → arr[i]? = some v → Rep cx x v

structure SimC (N : Nat) (F : Fr) (s : AS) (cx : Cx) (a : Act) (w : World) : Prop where
  h : cx.h = w.heap
  tk : cx.tk = s.tk
  size : a.tmps.size = N
  defers : a.defers = []
  env : ∀ i, i < N → Rep cx (s.env i) (a.tmps.getD i undef)
  none_ : ∀ t T, cx.tk t = some T → cx.ρ t = none → T.cs = []
  row : ∀ t T b, cx.tk t = some T → cx.ρ t = some b → TokAt cx T b
  stamp : ∀ t T, cx.tk t = some T → cx.U T.g
  inj : ∀ t t' T T' b, cx.tk t = some T → cx.tk t' = some T' → cx.ρ t = some b → cx.ρ t' = some b → t = t'
  apart : ∀ t T b, cx.tk t = some T → cx.ρ t = some b → ¬ cx.Z b
  free : ∀ t T b, cx.tk t = some T → cx.ρ t = some b → ¬ F.prot b
  Zlt : ∀ b, cx.Z b → b < w.heap.size
  Z0 : ∀ b, F.Z0 b → cx.Z b
  Znew : ∀ b, cx.Z b → F.Z0 b ∨ F.w0.heap.size ≤ b
  os : w.os = F.w0.os
  tape : w.tape = F.w0.tape
  output : w.output = F.w0.output
  grow : F.w0.heap.size ≤ w.heap.size
  prot : ∀ b, F.prot b → b < F.w0.heap.size ∧ w.heap[b]? = F.w0.heap[b]?

def Sim (N : Nat) (F : Fr) (U : Nat → Prop) (s : AS) (a : Act) (w : World) : Prop := ∃ cx, cx.U = U ∧ SimC N F s cx a w

end Go.Eng
