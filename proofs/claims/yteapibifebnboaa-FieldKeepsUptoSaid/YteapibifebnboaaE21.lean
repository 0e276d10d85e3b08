/- The engine, part 21: what the model runs at one stroke: internal/bytealg's IndexByte, Count, MakeNoZero. For every program. -/
import Derived.Test.YteapibifebnboaaGEc
import Derived.Lib.BytesEntry
import Derived.Laws.Externs
set_option linter.unusedVariables false
namespace Go.Eng
open Go.RowKit
variable {P : Program}
/-- The first place of a byte; -1: it is not there. -/
def idxI : List Int → Int → Int
  | [], _ => -1
  | b :: l, c => if b = c then 0 else if idxI l c = -1 then -1 else idxI l c + 1
theorem idxI_ge : ∀ (l : List Int) (c : Int), -1 ≤ idxI l c ∧ idxI l c < l.length
  | [], _ => by simp [idxI]
  | b :: l, c => by
    have := idxI_ge l c
    unfold idxI
    rw [List.length_cons]
    split
    · omega
    · split <;> omega
theorem u8_inj {a b : Int} (ha : 0 ≤ a ∧ a < 256) (hb : 0 ≤ b ∧ b < 256) : (a.toNat.toUInt8 == b.toNat.toUInt8) = decide (a = b) := by
  by_cases h : a = b
  · subst h; simp
  · rw [decide_eq_false h, beq_eq_false_iff_ne]
    intro e
    have := congrArg UInt8.toNat e
    simp only [Nat.toUInt8_eq, UInt8.toNat_ofNat'] at this
    omega
theorem indexByte_eq : ∀ (l : List Int) (c : Int), (∀ x ∈ l, 0 ≤ x ∧ x < 256) → 0 ≤ c ∧ c < 256 → Go.Lib.indexByte (Go.Lib.bytesOf l) c.toNat.toUInt8 = idxI l c
  | [], _, _, _ => rfl
  | b :: l, c, hl, hc => by
    have ih := indexByte_eq l c (fun x hx => hl x (List.mem_cons_of_mem _ hx)) hc
    show Go.Lib.indexByte (b.toNat.toUInt8 :: Go.Lib.bytesOf l) c.toNat.toUInt8 = _
    unfold Go.Lib.indexByte idxI
    rw [u8_inj (hl b List.mem_cons_self) hc, ih]
    by_cases h : b = c
    · simp [h]
    · simp [h]
theorem countByte_eq : ∀ (l : List Int) (c : Int), (∀ x ∈ l, 0 ≤ x ∧ x < 256) → 0 ≤ c ∧ c < 256 → Go.Lib.countByte (Go.Lib.bytesOf l) c.toNat.toUInt8 = l.count c
  | [], _, _, _ => rfl
  | b :: l, c, hl, hc => by
    have ih := countByte_eq l c (fun x hx => hl x (List.mem_cons_of_mem _ hx)) hc
    unfold Go.Lib.countByte at ih ⊢
    show List.count c.toNat.toUInt8 (b.toNat.toUInt8 :: Go.Lib.bytesOf l) = _
    rw [List.count_cons, List.count_cons, ih, u8_inj (hl b List.mem_cons_self) hc]
    by_cases h : b = c <;> simp [h]
/-- The bytes of a slice, as they lie. -/
theorem sl_bytes {w : World} {Z0 : Nat → Prop} {l : List Int} {v : Value} (h : Rep (cxA w Z0) (.sl l.length (u8s l)) v) :
    (∃ c, v = .slice none l.length c ∧ l = []) ∨ ∃ ad c, v = .slice (some ad) l.length c ∧ ∀ i, i < l.length → w.cell? (ad.add i) = some (.int .u8 (l.getD i 0)) := by
  have key : ∀ (n : Nat) (cs : List AV), n = l.length → cs = u8s l → Rep (cxA w Z0) (.sl n cs) v → (∃ c, v = .slice none l.length c ∧ l = []) ∨ ∃ ad c, v = .slice (some ad) l.length c ∧ ∀ i, i < l.length → w.cell? (ad.add i) = some (.int .u8 (l.getD i 0)) := by
    intro n cs hn hcs hr
    cases hr with
    | sl0 a c =>
      have hl : l = [] := List.eq_nil_of_length_eq_zero hn.symm
      subst hl
      cases a with
      | none => exact .inl ⟨c, rfl, rfl⟩
      | some ad => exact .inr ⟨ad, c, rfl, fun i hi => by simp at hi⟩
    | sl _ _ ad c arr el fz hz hb hs hnc hl h1 h =>
      subst hn; subst hcs
      refine .inr ⟨ad, c, rfl, fun i hi => ?_⟩
      rw [u8s_length] at hl
      rw [add_off ad i hs, cell_at hb]
      have hx : (u8s l)[i]? = some (.int .u8 (l.getD i 0)) := by simp [u8s, List.getD_eq_getElem?_getD, hi]
      have hv : arr[ad.off + i]? = some arr[ad.off + i] := Array.getElem?_eq_getElem (by omega)
      rw [hv, rep_int (h i _ _ hx hv)]
  exact key _ _ rfl rfl h
theorem two_vals {cx : Cx} {x y : AV} {vargs : Array Value} (h : RepL cx [x, y] vargs.toList) : ∃ u v, vargs = #[u, v] ∧ Rep cx x u ∧ Rep cx y v := by
  obtain ⟨u, r, e, h1, h2⟩ := RepL.uncons h
  obtain ⟨v, r2, e2, h3, h4⟩ := RepL.uncons h2
  have : r2 = [] := List.eq_nil_of_length_eq_zero h4.1.symm
  subst this
  refine ⟨u, v, ?_, h1, h3⟩
  apply Array.ext'
  rw [e, e2]
theorem one_val {cx : Cx} {x : AV} {vargs : Array Value} (h : RepL cx [x] vargs.toList) : ∃ u, vargs = #[u] ∧ Rep cx x u := by
  obtain ⟨u, r, e, h1, h2⟩ := RepL.uncons h
  have : r = [] := List.eq_nil_of_length_eq_zero h2.1.symm
  subst this
  refine ⟨u, ?_, h1⟩
  apply Array.ext'
  rw [e]
/-- What lies there when a call that changes nothing is back. -/
def cxR (w : World) (Z0 : Nat → Prop) : Cx := ⟨w.heap, Z0, fun _ => none, fun _ => none, fun g => g = 0⟩
theorem ret_same {w : World} {Z0 : Nat → Prop} (hZ : ∀ b, Z0 b → b < w.heap.size) : Ret w Z0 none (cxR w Z0) w :=
  ⟨rfl, by funext t; simp [cxR], rfl, hZ, fun b hb => .inl hb, fun T0 h => (nomatch h), Below.refl _ _⟩
theorem run_extern {f : FuncId} {fn : Func} {e : Array Value → Sem Value} (hf : P.funcs[f]? = some fn) (hname : (fn.name == "runtime.NumGoroutine") = false) (hb : fn.body.isNone = true) (hn : Extern.findNext fn = none) (he : Extern.find fn = some e)
    {args : Array Value} {w w' : World} {v : Value} (h : (e args).run P w = .ok v w') : (callFunc f args).run P w = .ok (.value v) w' := by
  rw [run_callFunc_extern hf hname hb hn he, h]; rfl
theorem run_bytesOf {a : Addr} {n c : Nat} {xs : List Int} {w : World} (hx : xs.length = n) (hc : ∀ i, i < n → w.cell? (a.add i) = some (.int .u8 (xs.getD i 0))) :
    (Extern.Bytes.bytesOf (.slice (some a) n c)).run P w = .ok ⟨(Go.Lib.bytesOf xs).toArray⟩ w := by
  have hl := Go.Lib.run_loadBytesX (P := P) w xs a .empty (fun j x hj => by
    have hjl : j < xs.length := (List.getElem?_eq_some_iff.1 hj).1
    rw [hc j (by omega), List.getD_eq_getElem?_getD, hj]
    rfl)
  rw [hx] at hl
  have he : (⟨ByteArray.empty.data ++ (Go.Lib.bytesOf xs).toArray⟩ : ByteArray) = ⟨(Go.Lib.bytesOf xs).toArray⟩ := by
    apply ByteArray.ext
    show (#[] : Array UInt8) ++ (Go.Lib.bytesOf xs).toArray = (Go.Lib.bytesOf xs).toArray
    simp
  rw [he] at hl
  simp only [Extern.Bytes.bytesOf]
  exact hl
theorem x_indexByte {f : FuncId} {fn : Func} (hf : P.funcs[f]? = some fn) (hname : (fn.name == "runtime.NumGoroutine") = false) (hb : fn.body.isNone = true) (hn : Extern.findNext fn = none) (he : Extern.find fn = some Extern.BytealgIndexByte.indexByte)
    (l : List Int) (c : Int) (hl : ∀ x ∈ l, 0 ≤ x ∧ x < 256) (hc : 0 ≤ c ∧ c < 256) : XCall P f [.sl l.length (u8s l), .int .u8 c] (.int .i64 (idxI l c)) none := by
  intro w vargs Z0 hZ hargs
  obtain ⟨u, v, rfl, h1, h2⟩ := two_vals hargs
  have ev := rep_int h2
  subst ev
  refine ⟨.int .i64 (idxI l c), w, cxR w Z0, run_extern hf hname hb hn he ?_, ret_same hZ, .int _ _⟩
  rcases sl_bytes h1 with ⟨k, rfl, rfl⟩ | ⟨ad, k, rfl, hcell⟩
  · exact Go.Lib.run_indexByteNil w _ _ _
  · have hs := Go.Lib.run_indexByteString (P := P) ⟨(Go.Lib.bytesOf l).toArray⟩ c w
    have hr := run_bytesOf (P := P) (c := k) rfl hcell
    change Sem.run P (do
      let b ← Extern.Bytes.bytesOf (.slice (some ad) l.length k)
      let c ← Extern.Bytes.asByte (.int .u8 c)
      match (List.range b.size).find? fun i => b[i]! == c with
      | some i => pure (goInt i)
      | none => pure (goInt (-1))) w = _
    change Sem.run P (do
      let b ← Extern.Bytes.bytesOf (.string ⟨(Go.Lib.bytesOf l).toArray⟩)
      let c ← Extern.Bytes.asByte (.int .u8 c)
      match (List.range b.size).find? fun i => b[i]! == c with
      | some i => pure (goInt i)
      | none => pure (goInt (-1))) w = _ at hs
    rw [← indexByte_eq l c hl hc]
    simp only [Extern.Bytes.bytesOf, Sem.run_bind, Sem.run_pure, Result.andThen] at hs hr ⊢
    rw [hr]
    exact hs
theorem x_count {f : FuncId} {fn : Func} (hf : P.funcs[f]? = some fn) (hname : (fn.name == "runtime.NumGoroutine") = false) (hb : fn.body.isNone = true) (hn : Extern.findNext fn = none) (he : Extern.find fn = some Extern.BytealgCount.count)
    (l : List Int) (c : Int) (hl : ∀ x ∈ l, 0 ≤ x ∧ x < 256) (hc : 0 ≤ c ∧ c < 256) : XCall P f [.sl l.length (u8s l), .int .u8 c] (.int .i64 (l.count c)) none := by
  intro w vargs Z0 hZ hargs
  obtain ⟨u, v, rfl, h1, h2⟩ := two_vals hargs
  have ev := rep_int h2
  subst ev
  refine ⟨.int .i64 (l.count c), w, cxR w Z0, run_extern hf hname hb hn he ?_, ret_same hZ, .int _ _⟩
  have hs0 := fun s => Go.Lib.run_countString (P := P) s c w
  rcases sl_bytes h1 with ⟨k, rfl, rfl⟩ | ⟨ad, k, rfl, hcell⟩
  · exact hs0 .empty
  · have hs := hs0 ⟨(Go.Lib.bytesOf l).toArray⟩
    have hr := run_bytesOf (P := P) (c := k) rfl hcell
    change Sem.run P (do
      let b ← Extern.Bytes.bytesOf (.slice (some ad) l.length k)
      let c' ← Extern.Bytes.asByte (.int .u8 c)
      pure (goInt (b.foldl (fun n x => if x == c' then n + 1 else n) (0 : Nat)))) w = _
    change Sem.run P (do
      let b ← Extern.Bytes.bytesOf (.string ⟨(Go.Lib.bytesOf l).toArray⟩)
      let c' ← Extern.Bytes.asByte (.int .u8 c)
      pure (goInt (b.foldl (fun n x => if x == c' then n + 1 else n) (0 : Nat)))) w = _ at hs
    rw [← countByte_eq l c hl hc]
    simp only [Extern.Bytes.bytesOf, Sem.run_bind, Sem.run_pure, Result.andThen] at hs hr ⊢
    rw [hr]
    simpa using hs
theorem digits_size : ∀ (n t : Nat) (acc : Array Value), (Extern.BytealgMakeNoZero.digits n t acc).size = acc.size + n
  | 0, _, acc => rfl
  | n + 1, t, acc => by rw [Extern.BytealgMakeNoZero.digits, digits_size n]; simp; omega
theorem digits_one : ∀ (n t : Nat) (acc : Array Value), (∀ v ∈ acc, cell1 v = true) → ∀ v ∈ Extern.BytealgMakeNoZero.digits n t acc, cell1 v = true
  | 0, _, acc, h => h
  | n + 1, t, acc, h => by
    rw [Extern.BytealgMakeNoZero.digits]
    refine digits_one n _ _ fun v hv => ?_
    rcases Array.mem_push.1 hv with hv | rfl
    · exact h v hv
    · rfl
theorem x_makeNoZero {f : FuncId} {fn : Func} {ps rs : Array TypeId} {t elem : TypeId} (hf : P.funcs[f]? = some fn) (hname : (fn.name == "runtime.NumGoroutine") = false) (hb : fn.body.isNone = true) (hn : Extern.findNext fn = none) (he : Extern.find fn = some (Extern.BytealgMakeNoZero.makeNoZero ps rs))
    (hr : rs[0]? = some t) (hu : P.underlying t = some (.slice elem)) (n : Nat) (hl : n ≤ 281474976710656) : XCall P f [.int .i64 n] (.own 0 0 0 n) (some ⟨0, 1, List.replicate n .dead⟩) := by
  intro w vargs Z0 hZ hargs
  obtain ⟨u, rfl, h1⟩ := one_val hargs
  have ev := rep_int h1
  subst ev
  have hcap := grown_le w n 0 elem (by omega)
  obtain ⟨cap, hcp⟩ : ∃ cap, cap = grownCap w n 0 elem := ⟨_, rfl⟩
  obtain ⟨w2, bytes, hw2, hh, ho, ht, hp⟩ : ∃ (w2 : World) (bytes : Nat), (Extern.BytealgMakeNoZero.makeNoZero ps rs #[.int .i64 n]).run P w = .ok (.slice (some ⟨w.heap.size, 0, none⟩) n cap) (w2.alloc (.cells (Extern.BytealgMakeNoZero.digits cap bytes #[]) elem)) ∧ w2.heap = w.heap ∧ w2.os = w.os ∧ w2.tape = w.tape ∧ w2.output = w.output := by
    have c1 : ¬ ((n : Int) < 0) := by omega
    have c2 : ¬ ((281474976710656 : Int) < n) := by omega
    have key : (Extern.BytealgMakeNoZero.makeNoZero ps rs #[.int .i64 n]).run P w = Sem.run P (do
        let some t := rs[0]? | stuck "bytealg.MakeNoZero: no result type"
        let .slice elem ← underlying t | stuck "bytealg.MakeNoZero: slice type expected"
        if (n : Int) < 0 || (n : Int) > 2 ^ 48 then runtimePanic (.error "makeslice: len out of range")
        let cap ← choose (.appendCap (n : Int).toNat 0 elem)
        askRoom cap
        let bytes ← choose (.extern "internal/bytealg.MakeNoZero.bytes" 0)
        let a ← newRow elem (Extern.BytealgMakeNoZero.digits cap bytes #[])
        pure (.slice (some a) (n : Int).toNat cap)) w := rfl
    have e48 : ((2 : Int) ^ 48) = 281474976710656 := by decide
    rw [key]
    by_cases hfo : (Question.extern "internal/bytealg.MakeNoZero.bytes" 0).forced = true
    · refine ⟨w.drew, 0, ?_, rfl, rfl, rfl, rfl⟩
      simp [hr, run_underlying hu, c1, c2, hfo, newRow, hcp, grownCap, show ∀ a b e, (Question.appendCap a b e).forced = false from fun _ _ _ => rfl]
    · refine ⟨w.drew.drew, (Question.extern "internal/bytealg.MakeNoZero.bytes" 0).cut (w.drew.tape w.drew.drawn (.extern "internal/bytealg.MakeNoZero.bytes" 0)), ?_, rfl, rfl, rfl, rfl⟩
      simp [hr, run_underlying hu, c1, c2, hfo, newRow, hcp, grownCap, show ∀ a b e, (Question.appendCap a b e).forced = false from fun _ _ _ => rfl]
  generalize hA : Extern.BytealgMakeNoZero.digits cap bytes #[] = arr at *
  have hsz : arr.size = cap := by rw [← hA, digits_size]; simp
  have h1c : ∀ (i : Nat) (v : Value), arr[i]? = some v → cell1 v = true := fun i v hv => by
    rw [← hA] at hv
    exact digits_one cap bytes #[] (fun v hv => by simp at hv) v (Array.mem_of_getElem? hv)
  have hheap : (w2.alloc (.cells arr elem)).heap = w.heap.push (.cells arr elem) := by rw [← hh]; rfl
  have hnew : (w2.alloc (.cells arr elem)).heap[w.heap.size]? = some (.cells arr elem) := by rw [hheap]; simp
  refine ⟨_, _, ⟨(w2.alloc (.cells arr elem)).heap, Z0, fun t => if t = 0 then some w.heap.size else none, fun t => if t = 0 then some ⟨0, 1, List.replicate n .dead⟩ else none, fun g => g = 0⟩, run_extern hf hname hb hn he hw2, ?_, ?_⟩
  · refine ⟨rfl, rfl, rfl, fun b hb => ?_, fun b hb => .inl hb, fun T0 h => ?_, ?_⟩
    · have := hZ b hb
      rw [hheap]; simp; omega
    · cases h
      refine ⟨rfl, fun h => by simp at h, fun b hb => ?_⟩
      simp only [if_pos] at hb
      cases hb
      exact ⟨⟨arr, elem, (0, 0), hnew, .inl rfl, h1c, by simp [hsz]; omega, fun i x v hx hv => by
        rw [List.getElem?_replicate] at hx
        split at hx
        · cases hx; exact .dead v
        · cases hx⟩, Nat.le_refl _, fun hz => by have := hZ _ hz; omega⟩
    · exact ⟨ho, ht, hp, by rw [hheap]; simp, fun k hk => by rw [hheap, Array.getElem?_push, if_neg (by omega)]⟩
  · refine .own 0 0 0 n _ cap rfl (by omega) fun T h hg => ?_
    simp only [if_pos] at h
    cases h
    exact .inr ⟨w.heap.size, arr, elem, (0, 0), by simp, rfl, hnew, by simp [hsz]⟩
end Go.Eng
