/- The engine, part 14: regions that draw their order. For every program. -/
import Derived.Test.YtbkmbiccdhnibaaE13
import Derived.Orders
set_option linter.unusedVariables false
namespace Go.Eng
open Go.RowKit

variable {P : Program} {N : Nat} {F : Fr} {s s' s1 s2 t t' : AS} {cx : Cx} {a : Act} {w : World} {m m1 m2 : M} {R R1 R2 W W1 W2 : List Nat}

/-! ### What a step looks at and what it changes -/
inductive M.RunsF (P : Program) : M → AS → AS → List Nat → List Nat → Prop
  | ret (s : AS) : RunsF P .ret s s [] []
  | getE (i : Nat) (k : AV → M) (s s' : AS) (R W : List Nat) (h : RunsF P (k (s.env i)) s s' R W) : RunsF P (.getE i k) s s' (2 * i :: R) W
  | getT (t : Nat) (k : Option Tok → M) (s s' : AS) (R W : List Nat) (h : RunsF P (k (s.tk t)) s s' R W) : RunsF P (.getT t k) s s' ((2 * t + 1) :: R) W
  | putE (i : Nat) (x : AV) (k : M) (s s' : AS) (R W : List Nat) (h : RunsF P k (s.setE i x) s' R W) : RunsF P (.putE i x k) s s' R (2 * i :: W)
  | putT (t : Nat) (T : Tok) (k : M) (s s' : AS) (R W : List Nat) (h : RunsF P k (s.setT t T) s' R W) : RunsF P (.putT t T k) s s' R ((2 * t + 1) :: W)
  | call (b : Bool) (f : FuncId) (args : List AV) (N : Nat) (dst : Option Tmp) (st : Nat) (s s' : AS) (R W : List Nat) (r : AV) (T : Option Tok) (hc : ACall P f args r T)
      (hb : b = true → r.noSl = true ∧ ∀ T0, T = some T0 → noSlL T0.cs = true) (h : RunsF P (back N dst st r T) s s' R W) : RunsF P (.call b f args N dst st) s s' R W
theorem M.RunsF.runs (h : m.RunsF P s s' R W) : m.Runs P s s' := by
  induction h with
  | ret s => exact .ret s
  | getE i k s s' R W h ih => exact .getE i k s s' ih
  | getT i k s s' R W h ih => exact .getT i k s s' ih
  | putE i x k s s' R W h ih => exact .putE i x k s s' ih
  | putT i x k s s' R W h ih => exact .putT i x k s s' ih
  | call b f args N dst st s s' R W r T hc hb h ih => exact .call b f args N dst st s s' r T hc hb ih
def Agree (R : List Nat) (s t : AS) : Prop := (∀ i, 2 * i ∈ R → s.env i = t.env i) ∧ (∀ i, 2 * i + 1 ∈ R → s.tk i = t.tk i)
theorem Agree.tail {x : Nat} (h : Agree (x :: R) s t) : Agree R s t := ⟨fun i hi => h.1 i (.tail _ hi), fun i hi => h.2 i (.tail _ hi)⟩
theorem Agree.setE (h : Agree R s t) (i : Nat) (x : AV) : Agree R (s.setE i x) (t.setE i x) := by
  refine ⟨fun j hj => ?_, h.2⟩
  show (if j = i then x else s.env j) = (if j = i then x else t.env j)
  split
  · rfl
  · exact h.1 j hj
theorem Agree.setT (h : Agree R s t) (i : Nat) (x : Tok) : Agree R (s.setT i x) (t.setT i x) := by
  refine ⟨h.1, fun j hj => ?_⟩
  show (if j = i then some x else s.tk j) = (if j = i then some x else t.tk j)
  split
  · rfl
  · exact h.2 j hj
/-- From s to s' and from t to t' the same is written, and nothing else. -/
structure Same (W : List Nat) (s s' t t' : AS) : Prop where
  wE : ∀ i, 2 * i ∈ W → t'.env i = s'.env i
  wT : ∀ i, 2 * i + 1 ∈ W → t'.tk i = s'.tk i
  sE : ∀ i, 2 * i ∉ W → s'.env i = s.env i
  sT : ∀ i, 2 * i + 1 ∉ W → s'.tk i = s.tk i
  tE : ∀ i, 2 * i ∉ W → t'.env i = t.env i
  tT : ∀ i, 2 * i + 1 ∉ W → t'.tk i = t.tk i
  sn : s'.nx = s.nx
  tn : t'.nx = t.nx
theorem Same.putE {i : Nat} {x : AV} (h : Same W (s.setE i x) s' (t.setE i x) t') : Same (2 * i :: W) s s' t t' := by
  refine ⟨fun j hj => ?_, fun j hj => ?_, fun j hj => ?_, fun j hj => ?_, fun j hj => ?_, fun j hj => ?_, h.sn, h.tn⟩
  · by_cases hw : 2 * j ∈ W
    · exact h.wE j hw
    · have : j = i := (List.mem_cons.1 hj).elim (fun e => by omega) (fun e => absurd e hw)
      subst this
      rw [h.sE j hw, h.tE j hw]; simp [AS.setE]
  · have : 2 * j + 1 ∈ W := (List.mem_cons.1 hj).elim (fun e => by omega) id
    exact h.wT j this
  · have h1 : 2 * j ∉ W := fun e => hj (.tail _ e)
    have h2 : j ≠ i := fun e => hj (by rw [e]; exact .head _)
    rw [h.sE j h1]; simp [AS.setE, h2]
  · exact h.sT j fun e => hj (.tail _ e)
  · have h1 : 2 * j ∉ W := fun e => hj (.tail _ e)
    have h2 : j ≠ i := fun e => hj (by rw [e]; exact .head _)
    rw [h.tE j h1]; simp [AS.setE, h2]
  · exact h.tT j fun e => hj (.tail _ e)
theorem Same.putT {i : Nat} {x : Tok} (h : Same W (s.setT i x) s' (t.setT i x) t') : Same ((2 * i + 1) :: W) s s' t t' := by
  refine ⟨fun j hj => ?_, fun j hj => ?_, fun j hj => ?_, fun j hj => ?_, fun j hj => ?_, fun j hj => ?_, h.sn, h.tn⟩
  · have : 2 * j ∈ W := (List.mem_cons.1 hj).elim (fun e => by omega) id
    exact h.wE j this
  · by_cases hw : 2 * j + 1 ∈ W
    · exact h.wT j hw
    · have : j = i := (List.mem_cons.1 hj).elim (fun e => by omega) (fun e => absurd e hw)
      subst this
      rw [h.sT j hw, h.tT j hw]; simp [AS.setT]
  · exact h.sE j fun e => hj (.tail _ e)
  · have h1 : 2 * j + 1 ∉ W := fun e => hj (.tail _ e)
    have h2 : j ≠ i := fun e => hj (by rw [e]; exact .head _)
    rw [h.sT j h1]; simp [AS.setT, h2]
  · exact h.tE j fun e => hj (.tail _ e)
  · have h1 : 2 * j + 1 ∉ W := fun e => hj (.tail _ e)
    have h2 : j ≠ i := fun e => hj (by rw [e]; exact .head _)
    rw [h.tT j h1]; simp [AS.setT, h2]
theorem runsF_from (h : m.RunsF P s s' R W) : ∀ {t : AS}, Agree R s t → ∃ t', m.RunsF P t t' R W ∧ Same W s s' t t' := by
  induction h with
  | ret s => intro t _; exact ⟨t, .ret t, ⟨fun i h => (by cases h), fun i h => (by cases h), fun _ _ => rfl, fun _ _ => rfl, fun _ _ => rfl, fun _ _ => rfl, rfl, rfl⟩⟩
  | getE i k s s' R W h ih =>
    intro t ha
    obtain ⟨t', h1, h2⟩ := ih ha.tail
    refine ⟨t', .getE i k t t' R W ?_, h2⟩
    rw [← ha.1 i (.head _)]; exact h1
  | getT i k s s' R W h ih =>
    intro t ha
    obtain ⟨t', h1, h2⟩ := ih ha.tail
    refine ⟨t', .getT i k t t' R W ?_, h2⟩
    rw [← ha.2 i (.head _)]; exact h1
  | putE i x k s s' R W h ih =>
    intro t ha
    obtain ⟨t', h1, h2⟩ := ih (ha.setE i x)
    exact ⟨t', .putE i x k t t' R W h1, h2.putE⟩
  | putT i x k s s' R W h ih =>
    intro t ha
    obtain ⟨t', h1, h2⟩ := ih (ha.setT i x)
    exact ⟨t', .putT i x k t t' R W h1, h2.putT⟩
  | call b f args N dst st s s' R W r T hc hb h ih =>
    intro t ha
    obtain ⟨t', h1, h2⟩ := ih ha
    exact ⟨t', .call b f args N dst st t t' R W r T hc hb h1, h2⟩
theorem runsF_self (h : m.RunsF P s s' R W) : Same W s s' s s' := by
  induction h with
  | ret s => exact ⟨fun i h => (by cases h), fun i h => (by cases h), fun _ _ => rfl, fun _ _ => rfl, fun _ _ => rfl, fun _ _ => rfl, rfl, rfl⟩
  | getE i k s s' R W h ih => exact ih
  | getT i k s s' R W h ih => exact ih
  | putE i x k s s' R W h ih => exact ih.putE
  | putT i x k s s' R W h ih => exact ih.putT
  | call b f args N dst st s s' R W r T hc hb h ih => exact ih
/-- Neither changes what the other looks at or changes. -/
def indep (x y : List Nat × List Nat) : Bool := x.2.all (fun c => !(y.1.contains c) && !(y.2.contains c)) && y.2.all (fun c => !(x.1.contains c))
theorem indep_spec {x y : List Nat × List Nat} (h : indep x y = true) : (∀ c ∈ x.2, c ∉ y.1 ∧ c ∉ y.2) ∧ (∀ c ∈ y.2, c ∉ x.1) := by
  simp only [indep, Bool.and_eq_true, List.all_eq_true, Bool.not_eq_true', List.contains_eq_mem, decide_eq_false_iff_not] at h
  exact h
theorem AS.ext' {s t : AS} (h1 : ∀ i, s.env i = t.env i) (h2 : ∀ i, s.tk i = t.tk i) (h3 : s.nx = t.nx) : s = t := by
  cases s; cases t
  simp only at h1 h2 h3
  rw [funext h1, funext h2, h3]
theorem diamond (h1 : m1.RunsF P s s1 R1 W1) (h2 : m2.RunsF P s1 s2 R2 W2) (hi : indep (R1, W1) (R2, W2) = true) : ∃ s3, m2.RunsF P s s3 R2 W2 ∧ m1.RunsF P s3 s2 R1 W1 := by
  obtain ⟨hA, hB⟩ := indep_spec hi
  have q1 := runsF_self h1
  have q2 := runsF_self h2
  have a1 : Agree R2 s1 s := ⟨fun i hr => q1.sE i fun hw => (hA _ hw).1 hr, fun i hr => q1.sT i fun hw => (hA _ hw).1 hr⟩
  obtain ⟨s3, r3, p3⟩ := runsF_from h2 a1
  have a2 : Agree R1 s s3 := ⟨fun i hr => (p3.tE i fun hw => hB _ hw hr).symm, fun i hr => (p3.tT i fun hw => hB _ hw hr).symm⟩
  obtain ⟨s4, r4, p4⟩ := runsF_from h1 a2
  have : s4 = s2 := by
    refine AS.ext' (fun i => ?_) (fun i => ?_) (by rw [p4.tn, p3.tn, q2.sn, q1.sn])
    · by_cases w1 : 2 * i ∈ W1
      · rw [p4.wE i w1, q2.sE i (hA _ w1).2]
      · rw [p4.tE i w1]
        by_cases w2 : 2 * i ∈ W2
        · exact p3.wE i w2
        · rw [p3.tE i w2, q2.sE i w2, q1.sE i w1]
    · by_cases w1 : 2 * i + 1 ∈ W1
      · rw [p4.wT i w1, q2.sT i (hA _ w1).2]
      · rw [p4.tT i w1]
        by_cases w2 : 2 * i + 1 ∈ W2
        · exact p3.wT i w2
        · rw [p3.tT i w2, q2.sT i w2, q1.sT i w1]
  subst this
  exact ⟨s3, r3, r4⟩

/-! ### Guarded operations as programs -/
def skipM (N : Nat) (o : Oper) : M :=
  match o.dst with
  | some d => if d < N then .putE d (.tup []) .ret else .fail
  | none => .ret
def gop (P : Program) (N : Nat) (ops : Array Oper) (st : Nat) (o : Oper) : M :=
  match o.guard with
  | none => aop P N st o
  | some (j, want) => match (ops[j]?).bind (·.dst) with
    | some d => if d < N then .getE d fun x => (match x with
      | .bool b => if b == want then aop P N st o else skipM N o
      | .tup [] => skipM N o
      | _ => .fail) else .fail
    | none => .fail
theorem skipM_runs {o : Oper} (h : (skipM N o).Runs P s s1) : match o.dst with | some d => d < N ∧ s1 = s.setE d (.tup []) | none => s1 = s := by
  unfold skipM at h
  cases hd : o.dst with
  | none => rw [hd] at h; cases h; rfl
  | some d =>
    rw [hd] at h
    simp only at h ⊢
    split at h
    · rename_i hlt
      cases h with
      | putE _ _ _ _ _ h => cases h; exact ⟨hlt, rfl⟩
    · cases h
theorem gop_runs {ops : Array Oper} {st : Nat} {o : Oper} (h : (gop P N ops st o).Runs P s s1) :
    ∃ b, wanted? N ops o s = some b ∧ if b = true then (aop P N st o).Runs P s s1 else (match o.dst with | some d => d < N ∧ s1 = s.setE d (.tup []) | none => s1 = s) := by
  unfold gop at h
  unfold wanted?
  cases hg : o.guard with
  | none => rw [hg] at h; exact ⟨true, rfl, h⟩
  | some q =>
    obtain ⟨j, want⟩ := q
    rw [hg] at h
    simp only at h ⊢
    cases hd : (ops[j]?).bind (·.dst) with
    | none => rw [hd] at h; cases h
    | some d =>
      rw [hd] at h
      simp only at h ⊢
      split at h
      · rename_i hlt
        rw [if_pos hlt]
        cases h with
        | getE _ _ _ _ h =>
          cases he : s.env d with
          | bool b =>
            rw [he] at h
            simp only at h ⊢
            refine ⟨b == want, rfl, ?_⟩
            split at h
            · rename_i hb; rw [if_pos hb]; exact h
            · rename_i hb; rw [if_neg hb]; exact skipM_runs h
          | tup l =>
            rw [he] at h
            cases l with
            | nil => exact ⟨false, rfl, by simpa using skipM_runs h⟩
            | cons => cases h
          | _ => rw [he] at h; cases h
      · cases h
theorem op_step' {ops : Array Oper} {o : Oper} {st : Nat} {Q : Exit → Act → World → Prop} {K : Act → World → Prop} {i : Nat} (ho : ops[i]? = some o) {U : Nat → Prop} (hst : ¬ U st) {s1 : AS} (hs : Sim N F U s a w)
    (hr : (gop P N ops st o).Runs P s s1) (hn : ∀ a' w', Sim N F (fun g => U g ∨ g = st) s1 a' w' → K a' w') : wpOp P ops Q i K a w := by
  obtain ⟨cx, rfl, hs⟩ := hs
  obtain ⟨b, hb, hr⟩ := gop_runs hr
  have hwd := wanted_eq hs hb
  simp only [wpOp, ho]
  cases b with
  | true =>
    rw [hwd]
    simp only [if_true] at hr ⊢
    left
    exact snd_all st o F s s1 cx a w _ Q hr hst hs hn
  | false =>
    rw [hwd]
    simp only [Bool.false_eq_true, if_false] at hr ⊢
    cases hd : o.dst with
    | none => rw [hd] at hr; simp only at hr; subst hr; exact hn _ _ (Sim.moreU ⟨cx, rfl, hs⟩ fun g hg => .inl hg)
    | some d =>
      rw [hd] at hr
      obtain ⟨hlt, rfl⟩ := hr
      exact hn _ _ (Sim.moreU ⟨cx, rfl, hs.putE hlt (.tup [] #[] rfl (by simp))⟩ fun g hg => .inl hg)

/-! ### A run in the order of the text, and in every other -/
abbrev Foot := List Nat × List Nat
inductive TraceF (P : Program) (N : Nat) (ops : Array Oper) (nx : Nat) : List (Nat × Foot) → AS → AS → Prop
  | nil (s : AS) : TraceF P N ops nx [] s s
  | cons (i : Nat) (f : Foot) (l : List (Nat × Foot)) (s s1 s' : AS) (o : Oper) (ho : ops[i]? = some o) (h : (gop P N ops (nx + i) o).RunsF P s s1 f.1 f.2) (r : TraceF P N ops nx l s1 s') : TraceF P N ops nx ((i, f) :: l) s s'
theorem trace_front {ops : Array Oper} {nx : Nat} {x : Nat × Foot} {l2 : List (Nat × Foot)} : ∀ {l1 : List (Nat × Foot)} {s s' : AS}, TraceF P N ops nx (l1 ++ x :: l2) s s' → (∀ y ∈ l1, indep y.2 x.2 = true) →
    ∃ s1 o, ops[x.1]? = some o ∧ (gop P N ops (nx + x.1) o).RunsF P s s1 x.2.1 x.2.2 ∧ TraceF P N ops nx (l1 ++ l2) s1 s'
  | [], s, s', h, _ => by
    cases h with
    | cons i f l s s1 s' o ho h r => exact ⟨s1, o, ho, h, r⟩
  | y :: l1, s, s', h, hi => by
    cases h with
    | cons i f l s sa s' o ho h r =>
      obtain ⟨sb, ox, hox, hx, hr⟩ := trace_front r fun y hy => hi y (.tail _ hy)
      obtain ⟨sc, h1, h2⟩ := diamond h hx (hi _ (.head _))
      exact ⟨sc, ox, hox, h1, .cons i f _ sc sb s' o ho h2 hr⟩

def ordered (ops : Array Oper) : Nat → Nat → Nat → Bool
  | 0, _, _ => false
  | n + 1, y, i => match ops[i]? with
    | some o => o.after.any fun e => Region.binds .any e && (e.on == y || ordered ops n y e.on)
    | none => false
theorem binds_any {md : Region.Mode} {e : Edge} (h : Region.binds .any e = true) : Region.binds md e = true := by
  unfold Region.binds at *
  cases he : e.ground <;> rw [he] at h <;> first | rfl | (cases h)
def Closed (md : Region.Mode) (ops : Array Oper) (listed : Array Bool) : Prop := ∀ (i : Nat) (o : Oper), listed.getD i false = true → ops[i]? = some o → ∀ e ∈ o.after, Region.binds md e = true → listed.getD e.on false = true
theorem ordered_listed {md : Region.Mode} {ops : Array Oper} {listed : Array Bool} (hc : Closed md ops listed) : ∀ (n y i : Nat), ordered ops n y i = true → (∀ o, ops[i]? = some o → ∀ e ∈ o.after, Region.binds md e = true → listed.getD e.on false = true) → listed.getD y false = true
  | 0, y, i, h, _ => by cases h
  | n + 1, y, i, h, hi => by
    unfold ordered at h
    cases ho : ops[i]? with
    | none => rw [ho] at h; cases h
    | some o =>
      rw [ho] at h
      simp only [Array.any_eq_true'] at h
      obtain ⟨e, he, hh⟩ := h
      rw [Bool.and_eq_true, Bool.or_eq_true] at hh
      have hl := hi o ho e he (binds_any hh.1)
      rcases hh.2 with h1 | h1
      · rw [← eq_of_beq h1]; exact hl
      · exact ordered_listed hc n y e.on h1 fun o' ho' => hc e.on o' hl ho'
/-- What holds the order of two steps, where they are not apart. -/
def okPair (ops : Array Oper) (y x : Nat × Foot) : Bool := ordered ops ops.size y.1 x.1 || indep y.2 x.2
def okTr (ops : Array Oper) (l : List (Nat × Foot)) : Bool :=
  (match l with
  | [] => true
  | x :: r => r.all (fun y => okPair ops x y) && okTr ops r)
theorem okTr_pairwise {ops : Array Oper} : ∀ {l : List (Nat × Foot)}, okTr ops l = true → l.Pairwise (fun y x => okPair ops y x = true)
  | [], _ => .nil
  | x :: r, h => by
    simp only [okTr, Bool.and_eq_true, List.all_eq_true] at h
    exact .cons (fun y hy => h.1 y hy) (okTr_pairwise h.2)
def okOps (ops : Array Oper) : Bool := (List.range ops.size).all fun i => match ops[i]? with | some o => o.after.all fun e => !Region.binds .any e || decide (e.on < i) | none => true
theorem okOps_spec {ops : Array Oper} (h : okOps ops = true) {i : Nat} {o : Oper} (ho : ops[i]? = some o) : ∀ e ∈ o.after, Region.binds .any e = true → e.on < i := by
  intro e he hb
  have hlt : i < ops.size := (Array.getElem?_eq_some_iff.1 ho).1
  simp only [okOps, List.all_eq_true, List.mem_range] at h
  have := h i hlt
  rw [ho] at this
  simp only [Array.all_eq_true_iff_forall_mem, Bool.or_eq_true, Bool.not_eq_true', decide_eq_true_eq] at this
  exact (this e he).resolve_left (by rw [hb]; simp)

theorem sched {ops : Array Oper} {Q : Exit → Act → World → Prop} {nx : Nat} (hops : okOps ops = true) {s' : AS} (hK : ∀ a w, Sim N F (fun g => g < nx + ops.size) s' a w → Q .normal a w) :
    ∀ (fuel : Nat) (listed : Array Bool) (l : List (Nat × Foot)) (s : AS) (a : Act) (w : World), l.length = fuel → listed.size = ops.size → (∀ i, listed.getD i true = false ↔ i ∈ l.map (·.1)) → Closed Region.Mode.any ops listed →
      TraceF P N ops nx l s s' → l.Pairwise (fun y x => okPair ops y x = true) → l.Pairwise (fun y x => y.1 < x.1) → Sim N F (fun g => g < nx ∨ ∃ j, j < ops.size ∧ j ∉ l.map (·.1) ∧ g = nx + j) s a w → wpAny P Region.Mode.any ops Q fuel listed a w
  | 0, listed, l, s, a, w, hl, hsz, hli, hc, htr, hp, hlt, hs => by
    have : l = [] := List.eq_nil_of_length_eq_zero hl
    subst this
    cases htr
    refine ⟨?_, hK a w (Sim.moreU hs fun g hg => ?_)⟩
    · cases hr : Region.ready Region.Mode.any ops listed with
      | nil => rfl
      | cons x xs =>
        have : x ∈ Region.ready Region.Mode.any ops listed := by rw [hr]; exact .head _
        have := (hli x).1 (mem_ready.1 this).1
        cases this
    · rcases hg with hg | ⟨j, h1, _, h3⟩ <;> omega
  | fuel + 1, listed, l, s, a, w, hl, hsz, hli, hc, htr, hp, hlt, hs => by
    refine ⟨fun hr => ?_, fun i hi => ?_⟩
    · exfalso
      cases l with
      | nil => cases hl
      | cons x r =>
        cases htr with
        | cons i f _ _ s1 _ o ho h rr =>
          have : i ∈ Region.ready Region.Mode.any ops listed := by
            rw [mem_ready]
            refine ⟨(hli i).2 (.head _), o, ho, fun e he hb => ?_⟩
            have h1 := okOps_spec hops ho e he hb
            have h2 : i < ops.size := (Array.getElem?_eq_some_iff.1 ho).1
            have h3 : e.on ∉ ((i, f) :: r).map (·.1) := by
              intro hm
              rcases List.mem_cons.1 hm with h4 | h4
              · simp only at h4; omega
              · obtain ⟨y, hy, h5⟩ := List.mem_map.1 h4
                have := (List.pairwise_cons.1 hlt).1 y hy
                simp only at this
                omega
            have h4 : ¬ listed.getD e.on true = false := fun h => h3 ((hli _).1 h)
            have h5 : e.on < listed.size := by omega
            simp [h5] at h4 ⊢
            exact h4
          rw [hr] at this
          cases this
    · obtain ⟨hun, o, ho, hafter⟩ := mem_ready.1 hi
      have hmem := (hli i).1 hun
      obtain ⟨x, hx, hxi⟩ := List.mem_map.1 hmem
      subst hxi
      obtain ⟨l1, l2, rfl⟩ := List.append_of_mem hx
      rw [List.pairwise_append] at hp hlt
      have hind : ∀ y ∈ l1, indep y.2 x.2 = true := by
        intro y hy
        have h1 := hp.2.2 y hy x (.head _)
        rw [okPair, Bool.or_eq_true] at h1
        rcases h1 with h1 | h1
        · exfalso
          have h2 := ordered_listed hc _ _ _ h1 (fun o' ho' => by rw [ho] at ho'; cases ho'; exact hafter)
          have h3 := (hli y.1).2 (List.mem_map.2 ⟨y, List.mem_append_left _ hy, rfl⟩)
          rcases Nat.lt_or_ge y.1 listed.size with h4 | h4
          · simp [h4] at h2 h3; rw [h2] at h3; cases h3
          · simp [Array.getElem?_eq_none h4] at h2
        · exact h1
      obtain ⟨s1, o', ho', hrun, hrest⟩ := trace_front htr hind
      rw [ho] at ho'
      cases ho'
      have hi_lt : x.1 < ops.size := (Array.getElem?_eq_some_iff.1 ho).1
      have hne1 : ∀ y ∈ l1, y.1 < x.1 := fun y hy => hlt.2.2 y hy x (.head _)
      have hne2 : ∀ y ∈ l2, x.1 < y.1 := fun y hy => (List.pairwise_cons.1 hlt.2.1).1 y hy
      have hxn : x.1 ∉ (l1 ++ l2).map (·.1) := by
        intro hm
        obtain ⟨y, hy, h5⟩ := List.mem_map.1 hm
        rcases List.mem_append.1 hy with h6 | h6
        · have := hne1 y h6; omega
        · have := hne2 y h6; omega
      have hsub : ∀ j, j ∈ (l1 ++ x :: l2).map (·.1) ↔ j = x.1 ∨ j ∈ (l1 ++ l2).map (·.1) := by
        intro j
        simp only [List.map_append, List.map_cons, List.mem_append, List.mem_cons]
        constructor
        · rintro (h | h | h)
          · exact .inr (.inl h)
          · exact .inl h
          · exact .inr (.inr h)
        · rintro (h | h | h)
          · exact .inr (.inl h)
          · exact .inl h
          · exact .inr (.inr h)
      refine op_step' ho (U := fun g => g < nx ∨ ∃ j, j < ops.size ∧ j ∉ (l1 ++ x :: l2).map (·.1) ∧ g = nx + j) ?_ hs hrun.runs fun a' w' hs' => ?_
      · rintro (h | ⟨j, h1, h2, h3⟩)
        · omega
        · have : j = x.1 := by omega
          exact h2 ((hsub j).2 (.inl this))
      · refine sched hops hK fuel _ (l1 ++ l2) s1 a' w' ?_ (by simp [hsz]) (fun j => ?_) ?_ hrest ?_ ?_ (Sim.moreU hs' fun g hg => ?_)
        · simp only [List.length_append, List.length_cons] at hl ⊢; omega
        · by_cases hj : x.1 = j
          · subst hj
            have h4 : x.1 < listed.size := by omega
            simp only [Array.getD_eq_getD_getElem?, Array.getElem?_setIfInBounds_self]
            simp [h4]
            simpa using hxn
          · rw [getD_set_ne true hj, hli j, hsub j]
            constructor
            · rintro (h | h)
              · exact absurd h.symm hj
              · exact h
            · exact .inr
        · intro j oj hj hoj e he hb
          by_cases hji : x.1 = j
          · subst hji
            rw [ho] at hoj
            cases hoj
            exact getD_set_true (hafter e he hb)
          · rw [getD_set_ne false hji] at hj
            exact getD_set_true (hc j oj hj hoj e he hb)
        · rw [List.pairwise_append]
          exact ⟨hp.1, (List.pairwise_cons.1 hp.2.1).2, fun y hy z hz => hp.2.2 y hy z (.tail _ hz)⟩
        · rw [List.pairwise_append]
          exact ⟨hlt.1, (List.pairwise_cons.1 hlt.2.1).2, fun y hy z hz => hlt.2.2 y hy z (.tail _ hz)⟩
        · rcases hg with (hg | ⟨j, h1, h2, h3⟩) | hg
          · exact .inl hg
          · exact .inr ⟨j, h1, fun hm => h2 ((hsub j).2 (.inr hm)), h3⟩
          · exact .inr ⟨x.1, hi_lt, hxn, hg⟩

/-! ### Running with an eye on what is looked at -/
def CallWpF (P : Program) (b : Bool) (f : FuncId) (args : List AV) (N : Nat) (dst : Option Tmp) (st : Nat) (s : AS) (K : AS → Foot → Prop) : Prop :=
  ∃ r T s' R W, ACall P f args r T ∧ (b = true → r.noSl = true ∧ ∀ T0, T = some T0 → noSlL T0.cs = true) ∧ (back N dst st r T).RunsF P s s' R W ∧ K s' (R, W)
def M.wpF (P : Program) : M → AS → (AS → Foot → Prop) → Prop
  | .ret, s, K => K s ([], [])
  | .fail, _, _ => False
  | .getE i k, s, K => (k (s.env i)).wpF P s fun s' f => K s' (2 * i :: f.1, f.2)
  | .getT t k, s, K => (k (s.tk t)).wpF P s fun s' f => K s' ((2 * t + 1) :: f.1, f.2)
  | .putE i x k, s, K => k.wpF P (s.setE i x) fun s' f => K s' (f.1, 2 * i :: f.2)
  | .putT t T k, s, K => k.wpF P (s.setT t T) fun s' f => K s' (f.1, (2 * t + 1) :: f.2)
  | .call b f args N dst st, s, K => CallWpF P b f args N dst st s K
theorem M.wpF_runs : ∀ {m : M} {s : AS} {K : AS → Foot → Prop}, m.wpF P s K → ∃ s' R W, m.RunsF P s s' R W ∧ K s' (R, W)
  | .ret, s, K, h => ⟨s, [], [], .ret s, h⟩
  | .fail, _, _, h => h.elim
  | .getE i k, s, K, h => let ⟨s', R, W, r, hk⟩ := M.wpF_runs (m := k (s.env i)) h; ⟨s', _, _, .getE i k s s' R W r, hk⟩
  | .getT t k, s, K, h => let ⟨s', R, W, r, hk⟩ := M.wpF_runs (m := k (s.tk t)) h; ⟨s', _, _, .getT t k s s' R W r, hk⟩
  | .putE i x k, s, K, h => let ⟨s', R, W, r, hk⟩ := M.wpF_runs (m := k) h; ⟨s', _, _, .putE i x k s s' R W r, hk⟩
  | .putT t T k, s, K, h => let ⟨s', R, W, r, hk⟩ := M.wpF_runs (m := k) h; ⟨s', _, _, .putT t T k s s' R W r, hk⟩
  | .call b f args N dst st, s, K, h => let ⟨r, T, s', R, W, hc, hb, rr, hk⟩ := h; ⟨s', R, W, .call b f args N dst st s s' R W r T hc hb rr, hk⟩
/-- A call is met by its contract. -/
theorem call_introF {b : Bool} {f : FuncId} {args : List AV} {N : Nat} {dst : Option Tmp} {st : Nat} {s : AS} {K : AS → Foot → Prop} {r : AV} {T : Option Tok} (hc : ACall P f args r T)
    (hb : b = true → r.noSl = true ∧ ∀ T0, T = some T0 → noSlL T0.cs = true) (h : (back N dst st r T).wpF P s K) : CallWpF P b f args N dst st s K :=
  let ⟨s', R, W, rr, hk⟩ := M.wpF_runs h
  ⟨r, T, s', R, W, hc, hb, rr, hk⟩
def OpsWpD (P : Program) (N : Nat) (ops : Array Oper) : List Oper → Nat → Nat → List (Nat × Foot) → (AS → Prop) → AS → Prop
  | [], _, _, tr, K, s => okTr ops tr.reverse = true ∧ K s
  | o :: r, st, i, tr, K, s =>
    match o.guard with
    | none => (aop P N st o).wpF P s fun s f => OpsWpD P N ops r (st + 1) (i + 1) ((i, f) :: tr) K s
    | some (j, want) => match (ops[j]?).bind (·.dst) with
      | some d => if d < N then GWp (s.env d) d want (fun s => (aop P N st o).wpF P s fun s f => OpsWpD P N ops r (st + 1) (i + 1) ((i, (2 * d :: f.1, f.2)) :: tr) K s)
          (fun s => (skipM N o).wpF P s fun s f => OpsWpD P N ops r (st + 1) (i + 1) ((i, (2 * d :: f.1, f.2)) :: tr) K s) s else False
      | none => False
theorem opsWpD_cons {ops : Array Oper} {o : Oper} {r : List Oper} {st i : Nat} {tr : List (Nat × Foot)} {K : AS → Prop} {s : AS} (h : OpsWpD P N ops (o :: r) st i tr K s) :
    ∃ s1 R W, (gop P N ops st o).RunsF P s s1 R W ∧ OpsWpD P N ops r (st + 1) (i + 1) ((i, (R, W)) :: tr) K s1 := by
  unfold OpsWpD at h
  unfold gop
  cases hg : o.guard with
  | none => rw [hg] at h; exact M.wpF_runs h
  | some q =>
    obtain ⟨j, want⟩ := q
    rw [hg] at h
    simp only at h ⊢
    cases hd : (ops[j]?).bind (·.dst) with
    | none => rw [hd] at h; exact h.elim
    | some d =>
      rw [hd] at h
      simp only at h ⊢
      split at h
      · rename_i hlt
        rw [if_pos hlt]
        unfold GWp at h
        cases he : s.env d with
        | bool b =>
          rw [he] at h
          simp only at h
          have hx : (if (b == want) = true then (aop P N st o).wpF P s fun s f => OpsWpD P N ops r (st + 1) (i + 1) ((i, (2 * d :: f.1, f.2)) :: tr) K s
              else (skipM N o).wpF P s fun s f => OpsWpD P N ops r (st + 1) (i + 1) ((i, (2 * d :: f.1, f.2)) :: tr) K s) := by
            cases b with
            | true =>
              have h1 := h.1 rfl
              rw [setE_same he] at h1
              cases want <;> simpa using h1
            | false =>
              have h1 := h.2 rfl
              rw [setE_same he] at h1
              cases want <;> simpa using h1
          split at hx
          · rename_i hb
            obtain ⟨s1, R, W, h1, h2⟩ := M.wpF_runs hx
            exact ⟨s1, _, _, .getE d _ s s1 R W (by rw [he]; simp only; rw [if_pos hb]; exact h1), h2⟩
          · rename_i hb
            obtain ⟨s1, R, W, h1, h2⟩ := M.wpF_runs hx
            exact ⟨s1, _, _, .getE d _ s s1 R W (by rw [he]; simp only; rw [if_neg hb]; exact h1), h2⟩
        | tup l =>
          rw [he] at h
          cases l with
          | nil =>
            obtain ⟨s1, R, W, h1, h2⟩ := M.wpF_runs h
            exact ⟨s1, _, _, .getE d _ s s1 R W (by rw [he]; exact h1), h2⟩
          | cons => exact h.elim
        | _ => rw [he] at h; exact h.elim
      · exact h.elim
theorem opsWpD_trace {ops : Array Oper} {K : AS → Prop} {nx : Nat} : ∀ {l : List Oper} {i : Nat} {tr : List (Nat × Foot)} {s : AS}, (∀ j, l[j]? = ops[i + j]?) → OpsWpD P N ops l (nx + i) i tr K s →
    ∃ t s', TraceF P N ops nx t s s' ∧ t.map (·.1) = List.range' i l.length ∧ okTr ops (tr.reverse ++ t) = true ∧ K s' ∧ s'.nx = s.nx
  | [], i, tr, s, hl, h => ⟨[], s, .nil s, rfl, by rw [List.append_nil]; exact h.1, h.2, rfl⟩
  | o :: l, i, tr, s, hl, h => by
    obtain ⟨s1, R, W, h1, h2⟩ := opsWpD_cons h
    obtain ⟨t, s', q1, q2, q3, q4, q5⟩ := opsWpD_trace (i := i + 1) (fun j => by
      have := hl (j + 1)
      rw [List.getElem?_cons_succ] at this
      rw [this]; congr 1; omega) h2
    have ho : ops[i]? = some o := by have := hl 0; simpa using this.symm
    refine ⟨(i, (R, W)) :: t, s', .cons i (R, W) t s s1 s' o ho h1 q1, ?_, ?_, q4, ?_⟩
    · rw [List.map_cons, q2, List.length_cons, List.range'_succ]
    · rw [List.reverse_cons, List.append_assoc] at q3; exact q3
    · rw [q5, nx_runs h1.runs]
/-- A region that draws its order. -/
theorem run_draw {id : Nat} {ops : Array Oper} {k : List It} {Q : AS → Prop} (h : P.follows .mixedOrders = true ∧ okOps ops = true ∧ OpsWpD P N ops ops.toList s.nx 0 [] (Run P N k Q) (s.bump ops.size)) : Run P N (.code (.region id ops true) :: k) Q s := by
  obtain ⟨hm, hops, h⟩ := h
  refine ⟨fun F a w hs => ?_⟩
  show (Code.region id ops true).wp P _ a w
  obtain ⟨t, s', q1, q2, q3, q4, q5⟩ := opsWpD_trace (nx := s.nx) (i := 0) (fun j => by simp) h
  rw [List.reverse_nil, List.nil_append] at q3
  rw [← List.range_eq_range', Array.length_toList] at q2
  have key : wpAny P .any ops (Kont P N F k (Fin N F Q)) ops.size (Array.replicate ops.size false) a { w with drawn := w.drawn + 1 } := by
    refine sched hops (s' := s') (nx := s.nx) (N := N) (F := F) (fun a' w' hs' => q4.out F a' w' ?_) ops.size _ t (s.bump ops.size) a _ ?_ (by simp) (fun i => ?_) ?_ q1 (okTr_pairwise q3) ?_ ?_
    · show Sim N F (fun g => g < s'.nx) s' a' w'
      rw [q5]; exact hs'
    · rw [← List.length_map (f := (·.1)), q2, List.length_range]
    · rw [q2, List.mem_range]
      rcases Nat.lt_or_ge i ops.size with h | h
      · simp [h]
      · simp [Nat.not_lt.2 h]
    · intro i o h1
      rcases Nat.lt_or_ge i ops.size with h | h
      · simp [h] at h1
      · simp [Nat.not_lt.2 h] at h1
    · have h5 : (t.map (·.1)).Pairwise (· < ·) := by rw [q2]; exact List.pairwise_lt_range
      exact List.pairwise_map.1 h5
    · obtain ⟨cx, hU, hc⟩ := hs
      exact Sim.moreU ⟨cx, hU, { hc with tk := hc.tk, env := hc.env, os := hc.os, tape := hc.tape, output := hc.output, h := hc.h, Zlt := hc.Zlt, grow := hc.grow, prot := hc.prot }⟩ fun g hg => .inl hg
  exact wp_region_any hm key
theorem wpF_imp {K K' : AS → Foot → Prop} {n : Nat} (hk : ∀ s f, s.nx = n → K s f → K' s f) : ∀ {m : M} {s : AS} {g : Foot → Foot}, s.nx = n → m.wpF P s (fun s f => K s (g f)) → m.wpF P s (fun s f => K' s (g f))
  | .ret, s, g, hn, h => hk s _ hn h
  | .fail, _, _, _, h => h
  | .getE i k, s, g, hn, h => wpF_imp hk (m := k (s.env i)) (g := fun f => g (2 * i :: f.1, f.2)) hn h
  | .getT i k, s, g, hn, h => wpF_imp hk (m := k (s.tk i)) (g := fun f => g ((2 * i + 1) :: f.1, f.2)) hn h
  | .putE i x k, s, g, hn, h => wpF_imp hk (m := k) (s := s.setE i x) (g := fun f => g (f.1, 2 * i :: f.2)) hn h
  | .putT i x k, s, g, hn, h => wpF_imp hk (m := k) (s := s.setT i x) (g := fun f => g (f.1, (2 * i + 1) :: f.2)) hn h
  | .call b f args N' dst st, s, g, hn, h => let ⟨r, T, s', R, W, h1, h2, h3, h4⟩ := h; ⟨r, T, s', R, W, h1, h2, h3, hk s' _ (by rw [nx_runs h3.runs, hn]) h4⟩
theorem opsWpD_imp {ops : Array Oper} {K K' : AS → Prop} {n : Nat} (hk : ∀ s, s.nx = n → K s → K' s) : ∀ {l : List Oper} {st i : Nat} {tr : List (Nat × Foot)} {s : AS}, s.nx = n → OpsWpD P N ops l st i tr K s → OpsWpD P N ops l st i tr K' s
  | [], st, i, tr, s, hn, h => ⟨h.1, hk s hn h.2⟩
  | o :: l, st, i, tr, s, hn, h => by
    have hr : ∀ (m : M) (g : Foot → Foot) s, s.nx = n → m.wpF P s (fun s f => OpsWpD P N ops l (st + 1) (i + 1) ((i, g f) :: tr) K s) → m.wpF P s (fun s f => OpsWpD P N ops l (st + 1) (i + 1) ((i, g f) :: tr) K' s) :=
      fun m g s hn h => wpF_imp (K := fun s f => OpsWpD P N ops l (st + 1) (i + 1) ((i, f) :: tr) K s) (K' := fun s f => OpsWpD P N ops l (st + 1) (i + 1) ((i, f) :: tr) K' s) (fun s f hn h => opsWpD_imp hk hn h) (g := g) hn h
    unfold OpsWpD at h ⊢
    cases hg : o.guard with
    | none => rw [hg] at h; exact hr _ id s hn h
    | some q =>
      obtain ⟨j, want⟩ := q
      rw [hg] at h
      simp only at h ⊢
      cases hd : (ops[j]?).bind (·.dst) with
      | none => rw [hd] at h; exact h.elim
      | some d =>
        rw [hd] at h
        simp only at h ⊢
        split at h
        · rename_i hlt; rw [if_pos hlt]; exact gwp_imp (hr _ fun f => (2 * d :: f.1, f.2)) (hr _ fun f => (2 * d :: f.1, f.2)) hn h
        · exact h.elim
end Go.Eng
