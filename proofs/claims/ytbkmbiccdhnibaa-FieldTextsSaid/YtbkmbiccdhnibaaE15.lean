/- The engine, part 15: running, step by step. For every program. -/
import Derived.Test.YtbkmbiccdhnibaaE14
import Derived.IntWalk
set_option linter.unusedVariables false
namespace Go.Eng
open Go.RowKit

variable {P : Program} {N : Nat} {F : Fr} {s s' : AS} {cx : Cx} {a : Act} {w : World}

/-- Many steps, as far as no loop and no call stands in the way. -/
def Ex (P : Program) (N : Nat) : Nat → List It → (AS → Prop) → AS → Prop
  | 0, k, Q, s => Run P N k Q s
  | n + 1, [], Q, s => Q s
  | n + 1, .inBlock _ :: k, Q, s => Ex P N n k Q s
  | n + 1, .back I :: k, Q, s => Run P N (.back I :: k) Q s
  | n + 1, .code c :: k, Q, s =>
    match c with
    | .skip => Ex P N n k Q s
    | .seq x y => Ex P N n (.code x :: .code y :: k) Q s
    | .block id c => Ex P N n (.code c :: .inBlock id :: k) Q s
    | .cond c x y => CondWp (condOf N s c) (Ex P N n (.code x :: k) Q s) (Ex P N n (.code y :: k) Q s)
    | .exit id => (match exitI id k with | some k' => Ex P N n k' Q s | none => False)
    | .ret => Q s
    | .region id ops false => OpsWp P N ops ops.toList s.nx (Ex P N n k Q) (s.bump ops.size)
    | .region id ops true => P.follows .mixedOrders = true ∧ okOps ops = true ∧ OpsWpD P N ops ops.toList s.nx 0 [] (Ex P N n k Q) (s.bump ops.size)
    | c => Run P N (.code c :: k) Q s
theorem CondWp.imp {q : Option Bool} {A B A' B' : Prop} (h : CondWp q A B) (ha : A → A') (hb : B → B') : CondWp q A' B' := by
  cases q with
  | none => exact h
  | some b => exact ⟨fun e => ha (h.1 e), fun e => hb (h.2 e)⟩
theorem OpsWp.imp {ops : Array Oper} {K K' : AS → Prop} (hk : ∀ s, K s → K' s) {l : List Oper} {st : Nat} {s : AS} (h : OpsWp P N ops l st K s) : OpsWp P N ops l st K' s := opsWp_imp_nx (n := s.nx) (fun s _ h => hk s h) rfl h
theorem ex_run : ∀ (n : Nat) {k : List It} {Q : AS → Prop} {s : AS}, Ex P N n k Q s → Run P N k Q s
  | 0, k, Q, s, h => h
  | n + 1, [], Q, s, h => run_nil h
  | n + 1, .inBlock _ :: k, Q, s, h => run_inBlock (ex_run n h)
  | n + 1, .back I :: k, Q, s, h => h
  | n + 1, .code c :: k, Q, s, h => by
    cases c with
    | skip => exact run_skip (ex_run n h)
    | seq x y => exact run_seq (ex_run n h)
    | block id c => exact run_block (ex_run n h)
    | cond c x y => exact run_cond (CondWp.imp h (fun h => ex_run n h) (fun h => ex_run n h))
    | exit id =>
      simp only [Ex] at h
      cases he : exitI id k with
      | none => rw [he] at h; exact h.elim
      | some k' => rw [he] at h; exact run_exit he (ex_run n h)
    | ret => exact run_ret h
    | region id ops draw =>
      cases draw with
      | false => exact run_region (OpsWp.imp (fun s h => ex_run n h) h)
      | true => exact run_draw ⟨h.1, h.2.1, opsWpD_imp (n := (s.bump ops.size).nx) (fun s _ h => ex_run n h) rfl h.2.2⟩
    | _ => exact h

/-! ### Rules for running -/
theorem condWp_congr {q q' : Option Bool} {A B : Prop} (h : q = q') : CondWp q A B = CondWp q' A B := by rw [h]
theorem condWp_true (A B : Prop) : CondWp (some true) A B = A := by simp [CondWp]
theorem condWp_false (A B : Prop) : CondWp (some false) A B = B := by simp [CondWp]
theorem condWp_decide (p : Prop) [Decidable p] (A B : Prop) : CondWp (some (decide p)) A B = ((p → A) ∧ (¬ p → B)) := by simp [CondWp]
theorem gwp_congr {x x' : AV} {d : Nat} {want : Bool} {A B : AS → Prop} {s : AS} (h : x = x') : GWp x d want A B s = GWp x' d want A B s := by rw [h]
theorem gwp_true {d : Nat} {want : Bool} {A B : AS → Prop} {s : AS} : GWp (.bool true) d want A B s = if want = true then A (s.setE d (.bool true)) else B (s.setE d (.bool true)) := by simp [GWp]
theorem gwp_false {d : Nat} {want : Bool} {A B : AS → Prop} {s : AS} : GWp (.bool false) d want A B s = if want = true then B (s.setE d (.bool false)) else A (s.setE d (.bool false)) := by simp [GWp]
theorem gwp_undef {d : Nat} {want : Bool} {A B : AS → Prop} {s : AS} : GWp (.tup []) d want A B s = B s := _root_.id rfl
theorem gwp_dec {d : Nat} {want : Bool} {A B : AS → Prop} {s : AS} (p : Prop) [Decidable p] : GWp (.bool (decide p)) d want A B s = ((p → if want = true then A (s.setE d (.bool true)) else B (s.setE d (.bool true))) ∧ (¬ p → if want = true then B (s.setE d (.bool false)) else A (s.setE d (.bool false)))) := by simp [GWp]
theorem gwp_ndec {d : Nat} {want : Bool} {A B : AS → Prop} {s : AS} (p : Prop) [Decidable p] : GWp (.bool (!decide p)) d want A B s = ((¬ p → if want = true then A (s.setE d (.bool true)) else B (s.setE d (.bool true))) ∧ (p → if want = true then B (s.setE d (.bool false)) else A (s.setE d (.bool false)))) := by simp [GWp]
theorem condWp_ndec (p : Prop) [Decidable p] (A B : Prop) : CondWp (some (!decide p)) A B = ((p → B) ∧ (¬ p → A)) := by by_cases h : p <;> simp [h, CondWp]
theorem beq_tt (b : Bool) : (b == true) = b := by cases b <;> rfl
theorem beq_ff (b : Bool) : (b == false) = !b := by cases b <;> rfl
theorem dec_tt : decide True = true := _root_.id rfl
theorem dec_ff : decide False = false := _root_.id rfl
theorem int_beq (a b : Int) : (a == b) = decide (a = b) := by by_cases h : a = b <;> simp [h]
theorem int_bne (a b : Int) : (a != b) = !decide (a = b) := by by_cases h : a = b <;> simp [h]
theorem dec_eq_tt (p : Prop) [Decidable p] : (decide p = true) = p := by simp
theorem wp_ret' {s : AS} {K : AS → Prop} : M.ret.wp P s K = K s := _root_.id rfl
theorem wp_fail' {s : AS} {K : AS → Prop} : M.fail.wp P s K = False := _root_.id rfl
theorem wp_getE' {i : Nat} {k : AV → M} {s : AS} {K : AS → Prop} : (M.getE i k).wp P s K = (k (s.env i)).wp P s K := _root_.id rfl
theorem wp_getT' {i : Nat} {k : Option Tok → M} {s : AS} {K : AS → Prop} : (M.getT i k).wp P s K = (k (s.tk i)).wp P s K := _root_.id rfl
theorem wp_putE' {i : Nat} {x : AV} {k : M} {s : AS} {K : AS → Prop} : (M.putE i x k).wp P s K = k.wp P (s.setE i x) K := _root_.id rfl
theorem wp_putT' {i : Nat} {x : Tok} {k : M} {s : AS} {K : AS → Prop} : (M.putT i x k).wp P s K = k.wp P (s.setT i x) K := _root_.id rfl
theorem wp_call' {b : Bool} {f : FuncId} {args : List AV} {N' : Nat} {dst : Option Tmp} {st : Nat} {s : AS} {K : AS → Prop} : (M.call b f args N' dst st).wp P s K = CallWp P b f args N' dst st s K := _root_.id rfl
theorem wp_ite' {c : Prop} [Decidable c] {m n : M} {s : AS} {K : AS → Prop} : (if c then m else n).wp P s K = if c then m.wp P s K else n.wp P s K := by split <;> rfl
theorem ite_false' {c : Prop} [Decidable c] {A : Prop} : (if c then A else False) = (c ∧ A) := by by_cases h : c <;> simp [h]
theorem u8s_length (l : List Int) : (u8s l).length = l.length := by simp [u8s]
theorem u8s_take (l : List Int) (n : Nat) : (u8s l).take n = u8s (l.take n) := by simp [u8s, List.map_take]
theorem u8s_drop (l : List Int) (n : Nat) : (u8s l).drop n = u8s (l.drop n) := by simp [u8s, List.map_drop]
theorem u8s_append (l m : List Int) : u8s l ++ u8s m = u8s (l ++ m) := by simp [u8s]
theorem u8s_closed : ∀ (l : List Int), closedL (u8s l) = true
  | [] => rfl
  | n :: l => by have := u8s_closed l; simp [u8s, closedL, AV.closed] at this ⊢; exact this
theorem u8s_noSl : ∀ (l : List Int), noSlL (u8s l) = true
  | [] => rfl
  | n :: l => by have := u8s_noSl l; simp [u8s, noSlL, AV.noSl] at this ⊢; exact this
theorem u8s_getD (l : List Int) (i : Nat) (h : i < l.length) : (u8s l).getD i .dead = .int .u8 (l.getD i 0) := by
  simp [u8s, List.getD_eq_getElem?_getD, h]
theorem intsOf_u8s : ∀ (l : List Int), intsOf (u8s l) = some l
  | [] => rfl
  | n :: l => by have := intsOf_u8s l; simp only [u8s, List.map_cons] at this ⊢; simp [intsOf, this]
theorem u8n_eq {l : List Int} (h : ∀ x ∈ l, 0 ≤ x ∧ x < 256) : u8n l = l := by
  unfold u8n
  apply List.ext_getElem?
  intro i
  rw [List.getElem?_map]
  cases e : l[i]? with
  | none => rfl
  | some x =>
    have := h x (List.mem_of_getElem? e)
    simp
    omega
theorem mwp_congr {m m' : M} {s : AS} {K : AS → Prop} (h : m = m') : m.wp P s K = m'.wp P s K := by rw [h]
theorem mwpF_congr {m m' : M} {s : AS} {K : AS → Foot → Prop} (h : m = m') : m.wpF P s K = m'.wpF P s K := by rw [h]
theorem opsWp_congr {ops : Array Oper} {l : List Oper} {st st' : Nat} {K : AS → Prop} {s s' : AS} (h : s = s') (h' : st = st') : OpsWp P N ops l st K s = OpsWp P N ops l st' K s' := by rw [h, h']
theorem opsWpD_congr {ops : Array Oper} {l : List Oper} {st st' i i' : Nat} {tr : List (Nat × Foot)} {K : AS → Prop} {s s' : AS} (h : s = s') (h' : st = st') (h'' : i = i') : OpsWpD P N ops l st i tr K s = OpsWpD P N ops l st' i' tr K s' := by rw [h, h', h'']
theorem okTr_congr (ops : Array Oper) (l : List (Nat × Foot)) : okTr ops l = okTr ops l := _root_.id rfl
theorem okOps_congr (ops : Array Oper) : okOps ops = okOps ops := _root_.id rfl
theorem ex_congr {n : Nat} {k : List It} {Q : AS → Prop} {s s' : AS} (h : s = s') : Ex P N n k Q s = Ex P N n k Q s' := by rw [h]
theorem run_congr {k : List It} {Q : AS → Prop} {s s' : AS} (h : s = s') : Run P N k Q s = Run P N k Q s' := by rw [h]
theorem wpF_ret' {s : AS} {K : AS → Foot → Prop} : M.ret.wpF P s K = K s ([], []) := _root_.id rfl
theorem wpF_fail' {s : AS} {K : AS → Foot → Prop} : M.fail.wpF P s K = False := _root_.id rfl
theorem wpF_getE' {i : Nat} {k : AV → M} {s : AS} {K : AS → Foot → Prop} : (M.getE i k).wpF P s K = (k (s.env i)).wpF P s fun s' f => K s' (2 * i :: f.1, f.2) := _root_.id rfl
theorem wpF_getT' {i : Nat} {k : Option Tok → M} {s : AS} {K : AS → Foot → Prop} : (M.getT i k).wpF P s K = (k (s.tk i)).wpF P s fun s' f => K s' ((2 * i + 1) :: f.1, f.2) := _root_.id rfl
theorem wpF_putE' {i : Nat} {x : AV} {k : M} {s : AS} {K : AS → Foot → Prop} : (M.putE i x k).wpF P s K = k.wpF P (s.setE i x) fun s' f => K s' (f.1, 2 * i :: f.2) := _root_.id rfl
theorem wpF_putT' {i : Nat} {x : Tok} {k : M} {s : AS} {K : AS → Foot → Prop} : (M.putT i x k).wpF P s K = k.wpF P (s.setT i x) fun s' f => K s' (f.1, (2 * i + 1) :: f.2) := _root_.id rfl
theorem wpF_call' {b : Bool} {f : FuncId} {args : List AV} {N' : Nat} {dst : Option Tmp} {st : Nat} {s : AS} {K : AS → Foot → Prop} : (M.call b f args N' dst st).wpF P s K = CallWpF P b f args N' dst st s K := _root_.id rfl
theorem wpF_ite' {c : Prop} [Decidable c] {m n : M} {s : AS} {K : AS → Foot → Prop} : (if c then m else n).wpF P s K = if c then m.wpF P s K else n.wpF P s K := by split <;> rfl
theorem ex_nil' {n : Nat} {Q : AS → Prop} {l : List (Nat × AV)} {t : List (Nat × Tok)} {nx : Nat} : Ex P N (n + 1) [] Q (mkS l t nx) = Q (mkS l t nx) := _root_.id rfl
theorem ex_inBlock' {n id : Nat} {k : List It} {Q : AS → Prop} {l : List (Nat × AV)} {t : List (Nat × Tok)} {nx : Nat} : Ex P N (n + 1) (.inBlock id :: k) Q (mkS l t nx) = Ex P N n k Q (mkS l t nx) := _root_.id rfl
theorem ex_back' {n : Nat} {I : AS → Prop} {k : List It} {Q : AS → Prop} {l : List (Nat × AV)} {t : List (Nat × Tok)} {nx : Nat} : Ex P N (n + 1) (.back I :: k) Q (mkS l t nx) = Run P N (.back I :: k) Q (mkS l t nx) := _root_.id rfl
theorem ex_skip' {n : Nat} {k : List It} {Q : AS → Prop} {l : List (Nat × AV)} {t : List (Nat × Tok)} {nx : Nat} : Ex P N (n + 1) (.code .skip :: k) Q (mkS l t nx) = Ex P N n k Q (mkS l t nx) := _root_.id rfl
theorem ex_seq' {n : Nat} {x y : Code} {k : List It} {Q : AS → Prop} {l : List (Nat × AV)} {t : List (Nat × Tok)} {nx : Nat} : Ex P N (n + 1) (.code (.seq x y) :: k) Q (mkS l t nx) = Ex P N n (.code x :: .code y :: k) Q (mkS l t nx) := _root_.id rfl
theorem ex_block' {n id : Nat} {c : Code} {k : List It} {Q : AS → Prop} {l : List (Nat × AV)} {t : List (Nat × Tok)} {nx : Nat} : Ex P N (n + 1) (.code (.block id c) :: k) Q (mkS l t nx) = Ex P N n (.code c :: .inBlock id :: k) Q (mkS l t nx) := _root_.id rfl
theorem ex_cond' {n : Nat} {c : Operand} {x y : Code} {k : List It} {Q : AS → Prop} {l : List (Nat × AV)} {t : List (Nat × Tok)} {nx : Nat} : Ex P N (n + 1) (.code (.cond c x y) :: k) Q (mkS l t nx) = CondWp (condOf N (mkS l t nx) c) (Ex P N n (.code x :: k) Q (mkS l t nx)) (Ex P N n (.code y :: k) Q (mkS l t nx)) := _root_.id rfl
theorem ex_exit' {n id : Nat} {k : List It} {Q : AS → Prop} {l : List (Nat × AV)} {t : List (Nat × Tok)} {nx : Nat} : Ex P N (n + 1) (.code (.exit id) :: k) Q (mkS l t nx) = (match exitI id k with | some k' => Ex P N n k' Q (mkS l t nx) | none => False) := _root_.id rfl
theorem ex_ret' {n : Nat} {k : List It} {Q : AS → Prop} {l : List (Nat × AV)} {t : List (Nat × Tok)} {nx : Nat} : Ex P N (n + 1) (.code .ret :: k) Q (mkS l t nx) = Q (mkS l t nx) := _root_.id rfl
theorem ex_region' {n id : Nat} {ops : Array Oper} {k : List It} {Q : AS → Prop} {l : List (Nat × AV)} {t : List (Nat × Tok)} {nx : Nat} : Ex P N (n + 1) (.code (.region id ops false) :: k) Q (mkS l t nx) = OpsWp P N ops ops.toList nx (Ex P N n k Q) (mkS l t (nx + ops.size)) := _root_.id rfl
theorem ex_draw' {n id : Nat} {ops : Array Oper} {k : List It} {Q : AS → Prop} {l : List (Nat × AV)} {t : List (Nat × Tok)} {nx : Nat} : Ex P N (n + 1) (.code (.region id ops true) :: k) Q (mkS l t nx) = (P.follows .mixedOrders = true ∧ okOps ops = true ∧ OpsWpD P N ops ops.toList nx 0 [] (Ex P N n k Q) (mkS l t (nx + ops.size))) := _root_.id rfl
theorem ex_loop' {n : Nat} {c : Code} {k : List It} {Q : AS → Prop} {l : List (Nat × AV)} {t : List (Nat × Tok)} {nx : Nat} : Ex P N (n + 1) (.code (.loop c) :: k) Q (mkS l t nx) = Run P N (.code (.loop c) :: k) Q (mkS l t nx) := _root_.id rfl
theorem ex_zero' {k : List It} {Q : AS → Prop} {l : List (Nat × AV)} {t : List (Nat × Tok)} {nx : Nat} : Ex P N 0 k Q (mkS l t nx) = Run P N k Q (mkS l t nx) := _root_.id rfl
theorem opsWp_nil' {ops : Array Oper} {st : Nat} {K : AS → Prop} {l : List (Nat × AV)} {t : List (Nat × Tok)} {nx : Nat} : OpsWp P N ops [] st K (mkS l t nx) = K (mkS l t nx) := _root_.id rfl
theorem opsWp_cons' {ops : Array Oper} {o : Oper} {r : List Oper} {st : Nat} {K : AS → Prop} {l : List (Nat × AV)} {t : List (Nat × Tok)} {nx : Nat} : OpsWp P N ops (o :: r) st K (mkS l t nx) = (match o.guard with
    | none => (aop P N st o).wp P (mkS l t nx) (OpsWp P N ops r (st + 1) K)
    | some (j, want) => match (ops[j]?).bind (·.dst) with
      | some d => if d < N then GWp ((mkS l t nx).env d) d want (runWp P N o st (OpsWp P N ops r (st + 1) K)) (skipWp N o (OpsWp P N ops r (st + 1) K)) (mkS l t nx) else False
      | none => False) := _root_.id rfl
theorem runWp' {o : Oper} {st : Nat} {K : AS → Prop} {l : List (Nat × AV)} {t : List (Nat × Tok)} {nx : Nat} : runWp P N o st K (mkS l t nx) = (aop P N st o).wp P (mkS l t nx) K := _root_.id rfl
theorem skipWp' {o : Oper} {K : AS → Prop} {l : List (Nat × AV)} {t : List (Nat × Tok)} {nx : Nat} : skipWp N o K (mkS l t nx) = (match o.dst with
  | some d => if d < N then K (mkS ((d, .tup []) :: l) t nx) else False
  | none => K (mkS l t nx)) := by cases h : o.dst <;> simp only [skipWp, h, mkS_setE]
/-- As runWp and skipWp, with an eye on what is looked at. -/
def runD (P : Program) (N : Nat) (o : Oper) (st : Nat) (ops : Array Oper) (r : List Oper) (i : Nat) (d : Nat) (tr : List (Nat × Foot)) (K : AS → Prop) (s : AS) : Prop :=
  (aop P N st o).wpF P s fun s f => OpsWpD P N ops r (st + 1) (i + 1) ((i, (2 * d :: f.1, f.2)) :: tr) K s
def skipD (P : Program) (N : Nat) (o : Oper) (st : Nat) (ops : Array Oper) (r : List Oper) (i : Nat) (d : Nat) (tr : List (Nat × Foot)) (K : AS → Prop) (s : AS) : Prop :=
  (skipM N o).wpF P s fun s f => OpsWpD P N ops r (st + 1) (i + 1) ((i, (2 * d :: f.1, f.2)) :: tr) K s
def goD (P : Program) (N : Nat) (st : Nat) (ops : Array Oper) (r : List Oper) (i : Nat) (tr : List (Nat × Foot)) (K : AS → Prop) (s : AS) (f : Foot) : Prop := OpsWpD P N ops r (st + 1) (i + 1) ((i, f) :: tr) K s
theorem runD' {o : Oper} {st : Nat} {ops : Array Oper} {r : List Oper} {i d : Nat} {tr : List (Nat × Foot)} {K : AS → Prop} {l : List (Nat × AV)} {t : List (Nat × Tok)} {nx : Nat} : runD P N o st ops r i d tr K (mkS l t nx) = (aop P N st o).wpF P (mkS l t nx) fun s f => goD P N st ops r i tr K s (2 * d :: f.1, f.2) := _root_.id rfl
theorem skipD' {o : Oper} {st : Nat} {ops : Array Oper} {r : List Oper} {i d : Nat} {tr : List (Nat × Foot)} {K : AS → Prop} {l : List (Nat × AV)} {t : List (Nat × Tok)} {nx : Nat} : skipD P N o st ops r i d tr K (mkS l t nx) = (skipM N o).wpF P (mkS l t nx) fun s f => goD P N st ops r i tr K s (2 * d :: f.1, f.2) := _root_.id rfl
theorem goD' {st : Nat} {ops : Array Oper} {r : List Oper} {i : Nat} {tr : List (Nat × Foot)} {K : AS → Prop} {l : List (Nat × AV)} {t : List (Nat × Tok)} {nx : Nat} {R W : List Nat} : goD P N st ops r i tr K (mkS l t nx) (R, W) = OpsWpD P N ops r (st + 1) (i + 1) ((i, (R, W)) :: tr) K (mkS l t nx) := _root_.id rfl
theorem opsWpD_nil' {ops : Array Oper} {st i : Nat} {tr : List (Nat × Foot)} {K : AS → Prop} {l : List (Nat × AV)} {t : List (Nat × Tok)} {nx : Nat} : OpsWpD P N ops [] st i tr K (mkS l t nx) = (okTr ops tr.reverse = true ∧ K (mkS l t nx)) := _root_.id rfl
theorem opsWpD_cons' {ops : Array Oper} {o : Oper} {r : List Oper} {st i : Nat} {tr : List (Nat × Foot)} {K : AS → Prop} {l : List (Nat × AV)} {t : List (Nat × Tok)} {nx : Nat} : OpsWpD P N ops (o :: r) st i tr K (mkS l t nx) = (match o.guard with
    | none => (aop P N st o).wpF P (mkS l t nx) (goD P N st ops r i tr K)
    | some (j, want) => match (ops[j]?).bind (·.dst) with
      | some d => if d < N then GWp ((mkS l t nx).env d) d want (runD P N o st ops r i d tr K) (skipD P N o st ops r i d tr K) (mkS l t nx) else False
      | none => False) := _root_.id rfl
attribute [congr] condWp_congr gwp_congr mwp_congr mwpF_congr opsWp_congr opsWpD_congr ex_congr run_congr
attribute [push_cast] List.getD_cons_zero List.getD_cons_succ List.take_succ_cons List.take_zero List.take_nil List.drop_succ_cons List.mapM_cons List.mapM_nil Option.bind_eq_bind Option.pure_def Option.map_none Option.bind_none Nat.mul_one Nat.zero_mul Nat.sub_zero List.set_cons_zero List.set_cons_succ List.cons_append List.nil_append List.append_nil List.map_cons List.map_nil clA Option.toList_none Option.toList_some List.head?_nil List.head?_cons Option.isSome_none Option.isSome_some List.drop_zero Int.toNat_zero Int.le_refl
attribute [push_cast] wpF_ret' wpF_fail' wpF_getE' wpF_getT' wpF_putE' wpF_putT' wpF_call' wpF_ite' skipM
attribute [push_cast] wp_ret' wp_fail' wp_getE' wp_getT' wp_putE' wp_putT' wp_call' wp_ite' condWp_true condWp_false
attribute [push_cast] gwp_true gwp_undef gwp_false gwp_dec gwp_ndec condWp_ndec beq_tt beq_ff dec_tt dec_ff int_beq int_bne dec_eq_tt Bool.not_true Bool.not_false Int.ofNat_lt Int.ofNat_le Int.toNat_natCast Int.natCast_nonneg List.size_toArray not_true_eq_false not_false_eq_true false_implies true_implies implies_true ge_iff_le gt_iff_lt
attribute [push_cast] Bool.false_eq_true eq_self Bool.true_eq_false Nat.zero_add if_true if_false true_and and_true List.getElem?_toArray List.getElem?_cons_zero List.getElem?_cons_succ List.getElem?_nil argL Option.bind_some Option.map_some List.length_cons List.length_nil
attribute [push_cast] ex_nil' ex_inBlock' ex_back' ex_skip' ex_seq' ex_block' ex_cond' ex_exit' ex_ret' ex_region' ex_draw' ex_loop' ex_zero' opsWp_nil' opsWp_cons' skipWp' runWp' runD' skipD' goD' opsWpD_nil' opsWpD_cons' Bool.and_true Bool.true_and condWp_decide ite_false' condOf exitI mkS_env mkS_tk mkS_nx mkS_setE mkS_setT mkS_bump lkF lkG aop out ev evL evP mk row? isRow ldV ldCells load store aint isNilS isNilP rowT eqOf bin aun cellsOf conv intOf? loOf bounds slice fieldAddr part field indexAddr index lenB srcOf appendB copyB minmax cl reifyC reifyL reify reifyA back clA callV AV.cells? setAll absV afill places u8s_length u8s_take u8s_drop u8s_append u8s_closed u8s_noSl intsOf_u8s AV.closed closedL AV.noSl noSlL AV.ren renL
theorem wrap_i64 {x : Int} (h : -9223372036854775808 ≤ x ∧ x ≤ 9223372036854775807) : IntKind.i64.wrap x = x := by
  have := IntWalk.i64_in x h
  exact this
end Go.Eng
