/- The engine, part 3: operations that only reckon, boxes, loads. For every program. -/
import Derived.Test.YtbkmbiccdhnibaaE2
import Derived.Laws.Append
import Derived.Laws.IdiomCopy
import Derived.Laws.Cells
import Derived.Laws.Slices
import Derived.Deep.MidRow
import Derived.Deep.AppendSrc
import Derived.Laws.IdiomStrings
import Derived.Laws.BytesString
import Derived.Laws.MakeOwn
import Derived.Laws.Small
import Derived.Laws.Pointers
import Derived.Laws.Cover3
import Derived.DeepKeys
import Derived.Conc.MuLone
set_option linter.unusedVariables false
namespace Go.Eng
open Go.RowKit

variable {P : Program} {N : Nat} {F : Fr} {s s' : AS} {cx : Cx} {a : Act} {w : World}

/-- An operation does in the world what the abstract machine says. -/
def Snd (P : Program) (N st : Nat) (o : Oper) : Prop :=
  ∀ (F : Fr) (s s' : AS) (cx : Cx) (a : Act) (w : World) (next : Act → World → Prop) (Q : Exit → Act → World → Prop),
    (aop P N st o).Runs P s s' → ¬ cx.U st → SimC N F s cx a w → Nx N F (fun g => cx.U g ∨ g = st) s' next → o.wp P a w next Q

/-! ### What stands behind an abstract value -/
theorem rep_bool {b : Bool} {v : Value} (h : Rep cx (.bool b) v) : v = .bool b := by cases h; rfl
theorem rep_int {k : IntKind} {n : Int} {v : Value} (h : Rep cx (.int k n) v) : v = .int k n := by cases h; rfl
theorem rep_str {l : List Int} {v : Value} (h : Rep cx (.str l) v) : ∃ s, v = .string s ∧ bytesOf s = l := by cases h; exact ⟨_, rfl, ‹_›⟩
theorem rep_agg {cs : List AV} {v : Value} (h : Rep cx (.agg cs) v) : ∃ vs : Array Value, v = .agg vs ∧ RepL cx cs vs.toList ∧ ∀ (i : Nat) (u : Value), vs[i]? = some u → cell1 u = true := by
  cases h with
  | agg _ vs hl h1 h => exact ⟨vs, rfl, ⟨by simpa using hl, fun i x u hx hu => h i x u hx (by simpa using hu)⟩, h1⟩
theorem rep_tup {cs : List AV} {v : Value} (h : Rep cx (.tup cs) v) : ∃ vs : Array Value, v = .tuple vs ∧ RepL cx cs vs.toList := by
  cases h with
  | tup _ vs hl h => exact ⟨vs, rfl, ⟨by simpa using hl, fun i x u hx hu => h i x u hx (by simpa using hu)⟩⟩
theorem rep_fn {f : FuncId} {cs : List AV} {v : Value} (h : Rep cx (.fn f cs) v) : ∃ vs : Array Value, v = .func (.func f) #[] vs ∧ RepL cx cs vs.toList := by
  cases h with
  | fn _ _ vs hl h => exact ⟨vs, rfl, ⟨by simpa using hl, fun i x u hx hu => h i x u hx (by simpa using hu)⟩⟩
theorem rep_mkagg {cs : List AV} {vs : Array Value} (h : RepL cx cs vs.toList) (h1 : ∀ (i : Nat) (u : Value), vs[i]? = some u → cell1 u = true) : Rep cx (.agg cs) (.agg vs) :=
  .agg cs vs (by simpa using h.1) h1 fun i x u hx hu => h.2 i x u hx (by simpa using hu)
theorem rep_mktup {cs : List AV} {vs : Array Value} (h : RepL cx cs vs.toList) : Rep cx (.tup cs) (.tuple vs) :=
  .tup cs vs (by simpa using h.1) fun i x u hx hu => h.2 i x u hx (by simpa using hu)
theorem cells_rep {x : AV} {v : Value} {cs : List AV} (h : Rep cx x v) (hc : x.cells? = some cs) : RepL cx cs v.cells.toList ∧ ∀ (i : Nat) (u : Value), v.cells[i]? = some u → cell1 u = true := by
  have one : ∀ (x : AV) (v : Value), Rep cx x v → cell1 v = true → v.cells = #[v] → cs = [x] → RepL cx cs v.cells.toList ∧ ∀ (i : Nat) (u : Value), v.cells[i]? = some u → cell1 u = true := by
    intro x v h h1 h2 h3
    subst h3
    rw [h2]
    refine ⟨.cons h (.nil _), fun i u hu => ?_⟩
    cases i with
    | zero => simp at hu; subst hu; exact h1
    | succ i => simp at hu
  cases h with
  | dead v => cases hc
  | tup cs' vs hl h => cases hc
  | agg cs' vs hl h1 h => cases hc; exact ⟨⟨by simpa [Value.cells] using hl, fun i x u hx hu => h i x u hx (by simpa [Value.cells] using hu)⟩, fun i u hu => h1 i u (by simpa [Value.cells] using hu)⟩
  | bool b => cases hc; exact one _ _ (.bool b) rfl rfl rfl
  | int k n => cases hc; exact one _ _ (.int k n) rfl rfl rfl
  | str s l h => cases hc; exact one _ _ (.str s l h) rfl rfl rfl
  | nilS => cases hc; exact one _ _ .nilS rfl rfl rfl
  | nilP => cases hc; exact one _ _ .nilP rfl rfl rfl
  | em b a c h => cases hc; exact one _ _ (.em b a c h) rfl rfl rfl
  | sl0 a c => cases hc; exact one _ _ (.sl0 a c) rfl rfl rfl
  | sl n cs' ad c arr el fz hz hb hs hn hl h1 h => cases hc; exact one _ _ (.sl n cs' ad c arr el fz hz hb hs hn hl h1 h) rfl rfl rfl
  | own t g off n a c hu hn h => cases hc; exact one _ _ (.own t g off n a c hu hn h) rfl rfl rfl
  | arr t g off n a hu h => cases hc; exact one _ _ (.arr t g off n a hu h) rfl rfl rfl
  | addr t g off ad hu h => cases hc; exact one _ _ (.addr t g off ad hu h) rfl rfl rfl
  | ptr cs' off ad base arr el fz hz hb hs ho hl h1 h => cases hc; exact one _ _ (.ptr cs' off ad base arr el fz hz hb hs ho hl h1 h) rfl rfl rfl
  | fn f caps vs hl h => cases hc; exact one _ _ (.fn f caps vs hl h) rfl rfl rfl

theorem zc_out {t : TypeId} {z : List AV} {n b : Nat} (h : zc P t = some (z, n, b)) : ∃ i zv, P.info? t = some i ∧ i.zero = some zv ∧ i.size = n ∧ i.bytes = b ∧ zv.cells.size = n ∧ z = zcells zv ∧
    (∀ (i : Nat) (u : Value), zv.cells[i]? = some u → cell1 u = true) ∧ ∀ cx, RepL cx z zv.cells.toList := by
  unfold zc at h
  cases hti : ti P t with
  | none => rw [hti] at h; cases h
  | some q =>
    obtain ⟨zo, n', b'⟩ := q
    rw [hti] at h
    cases zo with
    | none => cases h
    | some zv =>
      simp only at h
      split at h
      · rename_i hc
        cases h
        unfold ti at hti
        cases hi : P.info? t with
        | none => rw [hi] at hti; cases hti
        | some i =>
          rw [hi] at hti
          simp only [Option.map_some, Option.some.injEq, Prod.mk.injEq] at hti
          obtain ⟨e1, e2, e3⟩ := hti
          refine ⟨i, zv, rfl, e1, e2, e3, hc.1, rfl, fun j u hu => ?_, fun cx => ⟨by simp [zcells], fun j x u hx hu => ?_⟩⟩
          · have := Array.all_eq_true'.1 hc.2
            exact this u (Array.mem_of_getElem? hu)
          · unfold zcells at hx
            rw [List.getElem?_map, hu] at hx
            cases hx
            exact rep_absV cx u
      · cases h
theorem ti_out {t : TypeId} {z : Option Value} {n b : Nat} (h : ti P t = some (z, n, b)) : ∃ i, P.info? t = some i ∧ i.zero = z ∧ i.size = n ∧ i.bytes = b := by
  unfold ti at h
  cases hi : P.info? t with
  | none => rw [hi] at h; cases h
  | some i =>
    rw [hi] at h
    simp only [Option.map_some, Option.some.injEq, Prod.mk.injEq] at h
    exact ⟨i, rfl, h.1, h.2.1, h.2.2⟩

theorem snd_move {o : Oper} {st : Nat} {x : Operand} (ho : o.op = .move x) : Snd P N st o := by
  intro F s s' cx a w next Q hr hst hs hn
  unfold aop at hr; rw [ho] at hr
  obtain ⟨x', hr, hx⟩ := ev_runs hs hr
  exact done_out hs (by simp [execOp, ho]) hr hx (fun g hg => .inl hg) hn
theorem snd_assign {o : Oper} {st : Nat} {x : Operand} (ho : o.op = .assign x) : Snd P N st o := by
  intro F s s' cx a w next Q hr hst hs hn
  unfold aop at hr; rw [ho] at hr
  obtain ⟨x', hr, hx⟩ := ev_runs hs hr
  exact done_out hs (by simp [execOp, ho]) hr hx (fun g hg => .inl hg) hn
theorem snd_pick {o : Oper} {st : Nat} {c x y : Operand} (ho : o.op = .pick c x y) : Snd P N st o := by
  intro F s s' cx a w next Q hr hst hs hn
  unfold aop at hr; rw [ho] at hr
  obtain ⟨c', hr, hc⟩ := ev_runs hs hr
  cases c' with
  | bool t =>
    have e := rep_bool hc
    simp only at hr
    split at hr
    · rename_i ht
      obtain ⟨x', hr, hx⟩ := ev_runs hs hr
      exact done_out hs (by simp [execOp, ho, e, asBool, ht]) hr hx (fun g hg => .inl hg) hn
    · rename_i ht
      obtain ⟨x', hr, hx⟩ := ev_runs hs hr
      exact done_out hs (by simp [execOp, ho, e, asBool, ht]) hr hx (fun g hg => .inl hg) hn
  | _ => cases hr
theorem no_frozen (arr : Array Value) : ∀ i, i < arr.size → ¬ ((0, 0) : Nat × Nat).1 ≤ i ∨ ¬ i < ((0, 0) : Nat × Nat).2 := fun i _ => .inr (by simp)
theorem snd_alloc {o : Oper} {st : Nat} {t : TypeId} (ho : o.op = .alloc t) : Snd P N st o := by
  intro F s s' cx a w next Q hr hst hs hn
  unfold aop at hr; rw [ho] at hr
  simp only at hr
  cases hz : zc P t with
  | none => rw [hz] at hr; cases hr
  | some q =>
    obtain ⟨z, n, b⟩ := q
    rw [hz] at hr
    obtain ⟨i, zv, h1, h2, h3, h4, h5, rfl, h6, h7⟩ := zc_out hz
    have h7' := h7 cx
    refine done_mk hs hr hst zv.cells t (0, 0) (w' := { w with heap := w.heap.push (.cells zv.cells t) }) (v := .pointer (some ⟨w.heap.size, 0, none⟩)) rfl rfl rfl rfl (.inl rfl) h6 (by simp [zcells])
      (fun i x v hx hv => h7'.2 i x v hx (by simpa using hv)) (by simp [execOp, ho, Instr.alloc, zeroValue, typeInfo, h1, h2, newVar, newRow]) (fun d cx' e1 e2 e3 e4 => ?_) hn
    exact .addr d st 0 _ e3 fun T hT hg => ⟨_, e2, rfl⟩
theorem snd_box {o : Oper} {st : Nat} {t : TypeId} {x : Operand} (ho : o.op = .box t x) : Snd P N st o := by
  intro F s s' cx a w next Q hr hst hs hn
  unfold aop at hr; rw [ho] at hr
  obtain ⟨x', hr, hx⟩ := ev_runs hs hr
  cases hc : x'.cells? with
  | none => rw [hc] at hr; cases hr
  | some cs =>
    rw [hc] at hr
    obtain ⟨h1, h2⟩ := cells_rep hx hc
    refine done_mk hs hr hst (a.eval x).cells t (0, 0) (w' := { w with heap := w.heap.push (.cells (a.eval x).cells t) }) (v := .pointer (some ⟨w.heap.size, 0, none⟩)) rfl rfl rfl rfl (.inl rfl) h2 (by rw [h1.1]; simp)
      (fun i x v hx hv => h1.2 i x v hx (by simpa using hv)) (by simp [execOp, ho, Instr.box, newVar, newRow]) (fun d cx' e1 e2 e3 e4 => ?_) hn
    exact .addr d st 0 _ e3 fun T hT hg => ⟨_, e2, rfl⟩

/-! ### Loads -/
theorem cell_at {b o : Nat} {arr : Array Value} {el : TypeId} {fz : Nat × Nat} (hb : w.heap[b]? = some (.cells arr el fz)) : w.cell? ⟨b, o, none⟩ = arr[o]? := by simp [World.cell?, hb]
theorem run_loadVar_row {t : TypeId} {d : TypeDesc} {z : Option Value} {size by_ b o : Nat} {arr : Array Value} {el : TypeId} {fz : Nat × Nat} (hu : P.underlying t = some d) (hd : isRow d = true)
    (hti : ti P t = some (z, size, by_)) (hb : w.heap[b]? = some (.cells arr el fz)) (hl : o + size ≤ arr.size) : (loadVar t ⟨b, o, none⟩).run P w = .ok (.agg ((arr.toList.drop o).take size).toArray) w := by
  obtain ⟨i, h1, h2, h3, h4⟩ := ti_out hti
  have hlen : ((arr.toList.drop o).take size).length = size := by simp; omega
  refine run_loadVar_mid w b o t _ d (fun j v hv => ?_) hu ?_ (by rw [h1, hlen]; simp [h3])
  · rw [cell_at hb]
    rw [List.getElem?_take] at hv
    split at hv
    · rw [List.getElem?_drop] at hv; simpa using hv
    · cases hv
  · cases d <;> first | rfl | simp [isRow] at hd
theorem run_loadVar_cell {t : TypeId} {d : TypeDesc} {b o : Nat} {arr : Array Value} {el : TypeId} {fz : Nat × Nat} {v : Value} (hu : P.underlying t = some d) (hd : isRow d = false)
    (hb : w.heap[b]? = some (.cells arr el fz)) (hv : arr[o]? = some v) : (loadVar t ⟨b, o, none⟩).run P w = .ok v w := by
  have hagg : (isAgg t).run P w = .ok false w := by
    unfold isAgg
    rw [Sem.run_bind, run_underlying hu w]
    cases d <;> simp_all [isRow]
  have hc : w.cell? ⟨b, o, none⟩ = some v := by rw [cell_at hb, hv]
  simp [loadVar, Sem.run_bind, hagg, hc]
/-- A load from cells that are known. -/
theorem ld_val {t : TypeId} {cs : List AV} {off : Nat} {x : AV} {b base : Nat} {arr : Array Value} {el : TypeId} {fz : Nat × Nat} (hr : ldV P t cs off = some x)
    (hb : w.heap[b]? = some (.cells arr el fz)) (hl : base + cs.length ≤ arr.size) (h1 : ∀ (i : Nat) (v : Value), i < cs.length → arr[base + i]? = some v → cell1 v = true)
    (h : ∀ (i : Nat) (x : AV) (v : Value), cs[i]? = some x → arr[base + i]? = some v → Rep cx x v) :
    ∃ v, (loadVar t ⟨b, base + off, none⟩).run P w = .ok v w ∧ Rep cx x v := by
  unfold ldV at hr
  cases hu : P.underlying t with
  | none => rw [hu] at hr; cases hr
  | some d =>
    cases hti : ti P t with
    | none => rw [hu, hti] at hr; cases hr
    | some q =>
      obtain ⟨z, size, by_⟩ := q
      rw [hu, hti] at hr
      simp only at hr
      split at hr
      · rename_i hd
        split at hr
        · rename_i hlt
          cases hr
          refine ⟨_, run_loadVar_row hu hd hti hb (by omega), rep_mkagg ⟨?_, fun i x v hx hv => ?_⟩ (fun i u hu => ?_)⟩
          · simp; omega
          · rw [List.getElem?_take] at hx hv
            split at hx
            · rename_i hi
              rw [if_pos hi, List.getElem?_drop] at hv
              rw [List.getElem?_drop] at hx
              exact h _ x v hx (by rw [show base + (off + i) = base + off + i by omega]; simpa using hv)
            · cases hx
          · rw [List.getElem?_toArray, List.getElem?_take] at hu
            split at hu
            · rw [List.getElem?_drop] at hu; exact h1 (off + i) u (by omega) (by rw [show base + (off + i) = base + off + i by omega]; simpa using hu)
            · cases hu
        · cases hr
      · rename_i hd
        split at hr
        · rename_i hlt
          cases hr
          have hlt' : base + off < arr.size := by omega
          refine ⟨arr[base + off], run_loadVar_cell hu (by simpa using hd) hb (by simp [hlt']), ?_⟩
          rw [List.getD_eq_getElem?_getD, List.getElem?_eq_getElem hlt]
          exact h off _ _ (List.getElem?_eq_getElem hlt) (by simp [hlt'])
        · cases hr
theorem ld_runs {t : TypeId} {cs : List AV} {off : Nat} {k : AV → M} {b base : Nat} {arr : Array Value} {el : TypeId} {fz : Nat × Nat} (hr : (ldCells P t cs off k).Runs P s s')
    (hb : w.heap[b]? = some (.cells arr el fz)) (hl : base + cs.length ≤ arr.size) (h1 : ∀ (i : Nat) (v : Value), i < cs.length → arr[base + i]? = some v → cell1 v = true)
    (h : ∀ (i : Nat) (x : AV) (v : Value), cs[i]? = some x → arr[base + i]? = some v → Rep cx x v) :
    ∃ x v, (loadVar t ⟨b, base + off, none⟩).run P w = .ok v w ∧ Rep cx x v ∧ (k x).Runs P s s' := by
  unfold ldCells at hr
  cases e : ldV P t cs off with
  | none => rw [e] at hr; cases hr
  | some x =>
    rw [e] at hr
    obtain ⟨v, g1, g2⟩ := ld_val e hb hl h1 h
    exact ⟨x, v, g1, g2, hr⟩
theorem load_runs {t : TypeId} {x : AV} {k : AV → M} {p : Value} (hs : SimC N F s cx a w) (hx : Rep cx x p) (hr : (load P t x k).Runs P s s') :
    ∃ y v, (Instr.loadAt t p).run P w = .ok v w ∧ Rep cx y v ∧ (k y).Runs P s s' := by
  cases x with
  | addr tk g off =>
    obtain ⟨T, e1, e2, hr⟩ := row_runs hs hr
    cases hx with
    | addr _ _ _ ad hu h =>
      obtain ⟨b, e3, rfl⟩ := h T e1 e2
      obtain ⟨arr, el, fz, f1, f2, f3, f4, f5⟩ := hs.row tk T b e1 e3
      rw [hs.h] at f1
      obtain ⟨y, v, g1, g2, g3⟩ := ld_runs (base := 0) hr f1 (by omega) (fun i v _ hv => f3 _ v hv) (fun i x v hx hv => f5 i x v hx (by simpa using hv))
      refine ⟨y, v, ?_, g2, g3⟩
      rw [Nat.zero_add] at g1
      simp [Instr.loadAt, Instr.sureAddr, g1]
  | ptr cs off =>
    cases hx with
    | ptr _ _ ad base arr el fz hz hb hsp ho hl h1 h =>
      rw [hs.h] at hb
      obtain ⟨y, v, g1, g2, g3⟩ := ld_runs hr hb hl h1 h
      refine ⟨y, v, ?_, g2, g3⟩
      have : ad = ⟨ad.block, base + off, none⟩ := by cases ad; simp_all
      rw [this]
      simp [Instr.loadAt, Instr.sureAddr, g1]
  | _ => cases hr
theorem snd_load {o : Oper} {st : Nat} {t : TypeId} {x : Operand} (ho : o.op = .load t x) : Snd P N st o := by
  intro F s s' cx a w next Q hr hst hs hn
  unfold aop at hr; rw [ho] at hr
  obtain ⟨x', hr, hx⟩ := ev_runs hs hr
  obtain ⟨y, v, h1, h2, h3⟩ := load_runs hs hx hr
  exact done_out hs (by simp [execOp, ho, h1]) h3 h2 (fun g hg => .inl hg) hn
theorem snd_extract {o : Oper} {st : Nat} {x : Operand} {i : Nat} (ho : o.op = .extract x i) : Snd P N st o := by
  intro F s s' cx a w next Q hr hst hs hn
  unfold aop at hr; rw [ho] at hr
  obtain ⟨x', hr, hx⟩ := ev_runs hs hr
  cases x' with
  | tup cs =>
    obtain ⟨vs, e, h⟩ := rep_tup hx
    simp only at hr
    split at hr
    · rename_i hi
      have hi' : i < vs.size := by have := h.1; simp at this; omega
      have hv : vs[i]? = some vs[i] := Array.getElem?_eq_getElem hi'
      exact done_out (v := vs[i]) hs (by simp [execOp, ho, e, Instr.extract, hi']) hr (h.get (by simp)) (fun g hg => .inl hg) hn
    · cases hr
  | _ => cases hr
theorem snd_nilCheck {o : Oper} {st : Nat} {x : Operand} (ho : o.op = .nilCheck x) : Snd P N st o := by
  intro F s s' cx a w next Q hr hst hs hn
  unfold aop at hr; rw [ho] at hr
  obtain ⟨x', hr, hx⟩ := ev_runs hs hr
  cases x' with
  | addr t g off =>
    cases hv : a.eval x with
    | pointer p =>
      rw [hv] at hx
      cases hx with
      | addr _ _ _ ad hu h => exact done_out hs (by simp [execOp, ho, hv]) hr (.addr t g off ad hu h) (fun g hg => .inl hg) hn
    | _ => rw [hv] at hx; cases hx
  | ptr cs off =>
    cases hv : a.eval x with
    | pointer p =>
      rw [hv] at hx
      cases hx with
      | ptr _ _ ad base arr el fz hz hb hsp ho' hl h1 h => exact done_out hs (by simp [execOp, ho, hv]) hr (.ptr cs off ad base arr el fz hz hb hsp ho' hl h1 h) (fun g hg => .inl hg) hn
    | _ => rw [hv] at hx; cases hx
  | _ => cases hr
theorem snd_unOp {o : Oper} {st : Nat} {op : UnOp} {t : TypeId} {x : Operand} (ho : o.op = .unOp op t x) : Snd P N st o := by
  intro F s s' cx a w next Q hr hst hs hn
  unfold aop at hr; rw [ho] at hr
  obtain ⟨x', hr, hx⟩ := ev_runs hs hr
  cases op with
  | not => cases x' with
    | bool b =>
      have e := rep_bool hx
      exact done_out (v := .bool (!b)) hs (by simp [execOp, ho, e, Op.unary]) hr (.bool _) (fun g hg => .inl hg) hn
    | _ => cases hr
  | neg => cases x' with
    | int k n =>
      have e := rep_int hx
      exact done_out (v := .int k (k.wrap (0 - n))) hs (by simp [execOp, ho, e, Op.unary, Op.intArith]) hr (.int _ _) (fun g hg => .inl hg) hn
    | _ => cases hr
  | _ => cases x' <;> cases hr
theorem snd_makeFunc {o : Oper} {st : Nat} {fn : Fn} {first caps : Array Operand} (ho : o.op = .makeFunc fn first caps) : Snd P N st o := by
  intro F s s' cx a w next Q hr hst hs hn
  unfold aop at hr; rw [ho] at hr
  obtain ⟨cs, hr, hx⟩ := evL_runs hs hr
  cases fn with
  | func f =>
    simp only at hr
    split at hr
    · rename_i hf
      have hf' : first = #[] := by simpa using hf
      refine done_out (v := .func (.func f) #[] (caps.map a.eval)) hs (by simp [execOp, ho, Instr.makeFunc, hf']) hr (.fn f cs _ (by simpa using hx.1) fun i x v h1 h2 => hx.2 i x v h1 (by simpa using h2)) (fun g hg => .inl hg) hn
    · cases hr
  | _ => cases hr
end Go.Eng
