/- GEc: the texts E12, E13, E14, E15, E16, E17, E18, E19, E20, one behind the other. -/
import Derived.Test.YteapibifebnboaaGEb
import Derived.Deep.LoopGhost
import Derived.Orders
import Derived.IntWalk
import Derived.ChangeArms
import Derived.SizedLaws
set_option linter.unusedVariables false
set_option linter.unusedSimpArgs false

/- The engine, part 12: code, loops, how a function is entered and left. For every program. -/
set_option linter.unusedVariables false
namespace Go.Eng
open Go.RowKit

variable {P : Program} {N : Nat} {F : Fr} {s s' : AS} {cx : Cx} {a : Act} {w : World}

def SimN (N : Nat) (F : Fr) (s : AS) (a : Act) (w : World) : Prop := Sim N F (fun g => g < s.nx) s a w

inductive It where
  | code (c : Code)
  | inBlock (id : Nat)
  | back (I : AS → Prop)

def Kont (P : Program) (N : Nat) (F : Fr) : List It → (Exit → Act → World → Prop) → (Exit → Act → World → Prop)
  | [], R => R
  | .code c :: k, R => Exit.then (fun a w => c.wp P (Kont P N F k R) a w) (Kont P N F k R)
  | .inBlock id :: k, R => Exit.inBlock id (Kont P N F k R)
  | .back I :: k, R => Exit.then (fun a w => ∃ s, I s ∧ SimN N F s a w) (Kont P N F k R)
def Fin (N : Nat) (F : Fr) (Q : AS → Prop) : Exit → Act → World → Prop := fun e a w => (e = .normal ∨ e = .ret) ∧ ∃ s, Q s ∧ SimN N F s a w

/-- From here on the code comes to an end at which Q holds. -/
structure Run (P : Program) (N : Nat) (k : List It) (Q : AS → Prop) (s : AS) : Prop where
  out : ∀ F a w, SimN N F s a w → Kont P N F k (Fin N F Q) .normal a w

/-! ### A region, in the order of the text -/
def wanted? (N : Nat) (ops : Array Oper) (o : Oper) (s : AS) : Option Bool :=
  match o.guard with
  | none => some true
  | some (j, want) => match (ops[j]?).bind (·.dst) with
    | some d => if d < N then (match s.env d with | .bool b => some (b == want) | .tup [] => some false | _ => none) else none
    | none => none
/-- An operation that is not wanted. -/
def skipWp (N : Nat) (o : Oper) (K : AS → Prop) (s : AS) : Prop :=
  match o.dst with
  | some d => if d < N then K (s.setE d (.tup [])) else False
  | none => K s
/-- A guard: what is known of it is known from here on. -/
def GWp (x : AV) (d : Nat) (want : Bool) (A B : AS → Prop) (s : AS) : Prop :=
  match x with
  | .bool b => (b = true → (if want = true then A (s.setE d (.bool true)) else B (s.setE d (.bool true)))) ∧ (b = false → (if want = true then B (s.setE d (.bool false)) else A (s.setE d (.bool false))))
  | .tup [] => B s
  | _ => False
def runWp (P : Program) (N : Nat) (o : Oper) (st : Nat) (K : AS → Prop) (s : AS) : Prop := (aop P N st o).wp P s K
def OpsWp (P : Program) (N : Nat) (ops : Array Oper) : List Oper → Nat → (AS → Prop) → AS → Prop
  | [], _, K, s => K s
  | o :: r, st, K, s =>
    match o.guard with
    | none => runWp P N o st (OpsWp P N ops r (st + 1) K) s
    | some (j, want) => match (ops[j]?).bind (·.dst) with
      | some d => if d < N then GWp (s.env d) d want (runWp P N o st (OpsWp P N ops r (st + 1) K)) (skipWp N o (OpsWp P N ops r (st + 1) K)) s else False
      | none => False
theorem setE_same {s : AS} {d : Nat} {x : AV} (h : s.env d = x) : s.setE d x = s := by
  cases s with
  | mk env tk nx =>
    simp only [AS.setE, AS.mk.injEq, and_true]
    funext i
    split
    · rename_i e; rw [e]; exact h.symm
    · rfl
/-- What a step of a region is. -/
theorem opsWp_cons {P : Program} {N : Nat} {ops : Array Oper} {o : Oper} {r : List Oper} {st : Nat} {K : AS → Prop} {s : AS} (h : OpsWp P N ops (o :: r) st K s) :
    ∃ b, wanted? N ops o s = some b ∧ (if b = true then runWp P N o st (OpsWp P N ops r (st + 1) K) s else skipWp N o (OpsWp P N ops r (st + 1) K) s) := by
  unfold OpsWp at h
  unfold wanted?
  cases hg : o.guard with
  | none => rw [hg] at h; exact ⟨true, rfl, h⟩
  | some q =>
    obtain ⟨j, want⟩ := q
    rw [hg] at h
    simp only at h ⊢
    cases hd : (ops[j]?).bind (·.dst) with
    | none => rw [hd] at h; exact h.elim
    | some d =>
      rw [hd] at h
      simp only at h ⊢
      split at h
      · rename_i hlt
        rw [if_pos hlt]
        unfold GWp at h
        cases he : s.env d with
        | bool b =>
          rw [he] at h
          simp only at h ⊢
          refine ⟨b == want, rfl, ?_⟩
          cases b with
          | true =>
            have h1 := h.1 rfl
            rw [setE_same he] at h1
            cases want <;> simpa using h1
          | false =>
            have h1 := h.2 rfl
            rw [setE_same he] at h1
            cases want <;> simpa using h1
        | tup l =>
          rw [he] at h
          cases l with
          | nil => exact ⟨false, rfl, h⟩
          | cons => exact h.elim
        | _ => rw [he] at h; exact h.elim
      · exact h.elim

theorem yielded_eq (ops : Array Oper) (tmps : Array Value) (j : Nat) : yielded ops tmps j = match (ops[j]?).bind (·.dst) with
    | some d => (match tmps.getD d undef with | .bool b => some b | _ => none)
    | none => none := by
  unfold yielded
  cases h : (ops[j]?).bind (·.dst) with
  | none => simp
  | some d =>
    simp only [Option.bind_some, Array.getD_eq_getD_getElem?]
    cases tmps[d]? with
    | none => rfl
    | some v => cases v <;> rfl

theorem wanted_eq {ops : Array Oper} {o : Oper} {b : Bool} (h : SimC N F s cx a w) (hw : wanted? N ops o s = some b) : Region.wanted o (yielded ops a.tmps) = b := by
  unfold wanted? at hw
  unfold Region.wanted
  cases hg : o.guard with
  | none => rw [hg] at hw; cases hw; rfl
  | some q =>
    obtain ⟨j, want⟩ := q
    rw [hg] at hw
    simp only at hw ⊢
    rw [yielded_eq]
    cases hd : (ops[j]?).bind (·.dst) with
    | none => rw [hd] at hw; cases hw
    | some d =>
      rw [hd] at hw
      simp only at hw ⊢
      split at hw
      · rename_i hlt
        have hr := h.env d hlt
        cases he : s.env d with
        | bool b' =>
          rw [he] at hw hr
          cases hw
          rw [rep_bool hr]
          cases b' <;> cases want <;> rfl
        | tup l =>
          cases l with
          | nil =>
            rw [he] at hw hr
            cases hw
            obtain ⟨vs, e, hl⟩ := rep_tup hr
            rw [e]
            cases want <;> rfl
          | cons => rw [he] at hw; cases hw
        | _ => rw [he] at hw; cases hw
      · cases hw

/-- One operation of a region. -/
theorem op_step {ops : Array Oper} {o : Oper} {st : Nat} {Q : Exit → Act → World → Prop} {rest : List Nat} {i : Nat} (ho : ops[i]? = some o) {U : Nat → Prop} (hst : ¬ U st) {s1 : AS} (hs : Sim N F U s a w)
    (hr : (∃ b, wanted? N ops o s = some b ∧ if b = true then (aop P N st o).Runs P s s1 else (match o.dst with | some d => d < N ∧ s1 = s.setE d (.tup []) | none => s1 = s)))
    (hn : ∀ a' w', Sim N F (fun g => U g ∨ g = st) s1 a' w' → wpOps P ops Q rest a' w') : wpOps P ops Q (i :: rest) a w := by
  obtain ⟨cx, rfl, hs⟩ := hs
  obtain ⟨b, hb, hr⟩ := hr
  have hwd := wanted_eq hs hb
  simp only [wpOps, ho]
  cases b with
  | true =>
    rw [hwd]
    simp only [if_true] at hr ⊢
    left
    exact snd_all st o F s s1 cx a w _ Q hr hst hs hn
  | false =>
    rw [hwd]
    simp only [Bool.false_eq_true, if_false] at hr ⊢
    cases hd : o.dst with
    | none => rw [hd] at hr; simp only at hr; subst hr; exact hn _ _ (Sim.moreU ⟨cx, rfl, hs⟩ fun g hg => .inl hg)
    | some d =>
      rw [hd] at hr
      obtain ⟨hlt, rfl⟩ := hr
      exact hn _ _ (Sim.moreU ⟨cx, rfl, hs.putE hlt (.tup [] #[] rfl (by simp))⟩ fun g hg => .inl hg)

theorem ops_wp {ops : Array Oper} {K : AS → Prop} {Q : Exit → Act → World → Prop} {nx : Nat} : ∀ (l : List Oper) (i : Nat) (s : AS) (a : Act) (w : World), (∀ j, l[j]? = ops[i + j]?) → i + l.length = ops.size →
    OpsWp P N ops l (nx + i) K s → Sim N F (fun g => g < nx + i) s a w → (∀ s a w, K s → Sim N F (fun g => g < nx + ops.size) s a w → Q .normal a w) → wpOps P ops Q (List.range' i l.length) a w
  | [], i, s, a, w, hl, hlen, h, hs, hK => hK s a w h (by simpa [← hlen] using hs)
  | o :: l, i, s, a, w, hl, hlen, h, hs, hK => by
    have ho : ops[i]? = some o := by have := hl 0; simpa using this.symm
    rw [List.length_cons, List.range'_succ]
    have step : ∀ s1, (∃ b, wanted? N ops o s = some b ∧ if b = true then (aop P N (nx + i) o).Runs P s s1 else (match o.dst with | some d => d < N ∧ s1 = s.setE d (.tup []) | none => s1 = s)) → OpsWp P N ops l (nx + i + 1) K s1 → wpOps P ops Q (i :: List.range' (i + 1) l.length) a w := by
      intro s1 hr hk
      refine op_step ho (U := fun g => g < nx + i) (by simp) hs hr fun a' w' hs' => ?_
      refine ops_wp l (i + 1) s1 a' w' (fun j => ?_) (by simp at hlen; omega) hk (Sim.moreU hs' fun g hg => by rcases hg with hg | hg <;> omega) hK
      have := hl (j + 1)
      rw [List.getElem?_cons_succ] at this
      rw [this]; congr 1; omega
    obtain ⟨b, hw, h⟩ := opsWp_cons h
    cases b with
    | true =>
      rw [if_pos rfl] at h
      obtain ⟨s1, hr, hk⟩ := M.wp_runs h
      exact step s1 ⟨true, hw, hr⟩ hk
    | false =>
      rw [if_neg (by simp)] at h
      unfold skipWp at h
      cases hd : o.dst with
      | none => rw [hd] at h; exact step s ⟨false, hw, by simp [hd]⟩ h
      | some d =>
        rw [hd] at h
        simp only at h
        split at h
        · rename_i hlt; exact step _ ⟨false, hw, by simp [hd, hlt]⟩ h
        · exact h.elim

def AS.bump (s : AS) (n : Nat) : AS := { s with nx := s.nx + n }
theorem nx_runs {m : M} {s s' : AS} (h : m.Runs P s s') : s'.nx = s.nx := by
  induction h with
  | ret s => rfl
  | getE i k s s' h ih => exact ih
  | getT i k s s' h ih => exact ih
  | putE i x k s s' h ih => exact ih
  | putT i x k s s' h ih => exact ih
  | call b f args N dst st s s' r T hc hb h ih => exact ih
theorem wp_imp_nx {K K' : AS → Prop} {n : Nat} (hk : ∀ s, s.nx = n → K s → K' s) : ∀ {m : M} {s : AS}, s.nx = n → m.wp P s K → m.wp P s K'
  | .ret, s, hn, h => hk s hn h
  | .fail, _, _, h => h
  | .getE i k, s, hn, h => wp_imp_nx hk (m := k (s.env i)) hn h
  | .getT i k, s, hn, h => wp_imp_nx hk (m := k (s.tk i)) hn h
  | .putE i x k, s, hn, h => wp_imp_nx hk (m := k) (s := s.setE i x) hn h
  | .putT i x k, s, hn, h => wp_imp_nx hk (m := k) (s := s.setT i x) hn h
  | .call b f args N' dst st, s, hn, h => let ⟨r, T, s', h1, h2, h3, h4⟩ := h; ⟨r, T, s', h1, h2, h3, hk s' (by rw [nx_runs h3, hn]) h4⟩
theorem skip_imp_nx {K K' : AS → Prop} {n : Nat} (hk : ∀ s, s.nx = n → K s → K' s) {o : Oper} {s : AS} (hn : s.nx = n) (h : skipWp N o K s) : skipWp N o K' s := by
  unfold skipWp at h ⊢
  cases hd : o.dst with
  | none => rw [hd] at h; exact hk s hn h
  | some d =>
    rw [hd] at h
    simp only at h ⊢
    split at h
    · rename_i hlt; rw [if_pos hlt]; exact hk _ hn h
    · exact h.elim
theorem gwp_imp {x : AV} {d : Nat} {want : Bool} {A A' B B' : AS → Prop} {n : Nat} (ha : ∀ s, s.nx = n → A s → A' s) (hb : ∀ s, s.nx = n → B s → B' s) {s : AS} (hn : s.nx = n) (h : GWp x d want A B s) : GWp x d want A' B' s := by
  unfold GWp at h ⊢
  cases x with
  | bool b =>
    simp only at h ⊢
    refine ⟨fun e => ?_, fun e => ?_⟩
    · have := h.1 e
      split at this
      · rename_i hw; rw [if_pos hw]; exact ha _ hn this
      · rename_i hw; rw [if_neg hw]; exact hb _ hn this
    · have := h.2 e
      split at this
      · rename_i hw; rw [if_pos hw]; exact hb _ hn this
      · rename_i hw; rw [if_neg hw]; exact ha _ hn this
  | tup l => cases l with
    | nil => exact hb s hn h
    | cons => exact h
  | _ => exact h
theorem opsWp_imp_nx {ops : Array Oper} {K K' : AS → Prop} {n : Nat} (hk : ∀ s, s.nx = n → K s → K' s) : ∀ {l : List Oper} {st : Nat} {s : AS}, s.nx = n → OpsWp P N ops l st K s → OpsWp P N ops l st K' s
  | [], st, s, hn, h => hk s hn h
  | o :: l, st, s, hn, h => by
    have hr : ∀ s, s.nx = n → runWp P N o st (OpsWp P N ops l (st + 1) K) s → runWp P N o st (OpsWp P N ops l (st + 1) K') s := fun s hn h => wp_imp_nx (fun s hn h => opsWp_imp_nx hk hn h) hn h
    have hsk : ∀ s, s.nx = n → skipWp N o (OpsWp P N ops l (st + 1) K) s → skipWp N o (OpsWp P N ops l (st + 1) K') s := fun s hn h => skip_imp_nx (fun s hn h => opsWp_imp_nx hk hn h) hn h
    unfold OpsWp at h ⊢
    cases hg : o.guard with
    | none => rw [hg] at h; exact hr s hn h
    | some q =>
      obtain ⟨j, want⟩ := q
      rw [hg] at h
      simp only at h ⊢
      cases hd : (ops[j]?).bind (·.dst) with
      | none => rw [hd] at h; exact h.elim
      | some d =>
        rw [hd] at h
        simp only at h ⊢
        split at h
        · rename_i hlt; rw [if_pos hlt]; exact gwp_imp hr hsk hn h
        · exact h.elim
/-- The state behind a region: the stamps have gone on. -/
theorem run_region {id : Nat} {ops : Array Oper} {k : List It} {Q : AS → Prop} (h : OpsWp P N ops ops.toList s.nx (Run P N k Q) (s.bump ops.size)) : Run P N (.code (.region id ops false) :: k) Q s := by
  refine ⟨fun F a w hs => ?_⟩
  show (Code.region id ops false).wp P _ a w
  refine wp_region ?_
  rw [List.range_eq_range']
  have hlen : ops.toList.length = ops.size := by simp
  rw [← hlen]
  refine ops_wp (F := F) (nx := s.nx) (K := fun s' => s'.nx = (s.bump ops.size).nx ∧ Run P N k Q s') ops.toList 0 (s.bump ops.size) a w (fun j => by simp) (by simp) (opsWp_imp_nx (n := (s.bump ops.size).nx) (fun s' hn h => ⟨hn, h⟩) rfl h) ?_ fun s' a' w' hk hs' => ?_
  · obtain ⟨cx, hU, hc⟩ := hs
    exact ⟨cx, hU, { hc with tk := hc.tk, env := hc.env }⟩
  · refine hk.2.out F a' w' ?_
    show Sim N F (fun g => g < s'.nx) s' a' w'
    rw [hk.1]
    exact hs'

/-! ### Code -/
theorem run_seq {x y : Code} {k : List It} {Q : AS → Prop} (h : Run P N (.code x :: .code y :: k) Q s) : Run P N (.code (.seq x y) :: k) Q s :=
  ⟨fun F a w hs => wp_seq (h.out F a w hs)⟩
theorem run_skip {k : List It} {Q : AS → Prop} (h : Run P N k Q s) : Run P N (.code .skip :: k) Q s := ⟨fun F a w hs => wp_skip (h.out F a w hs)⟩
theorem run_block {id : Nat} {c : Code} {k : List It} {Q : AS → Prop} (h : Run P N (.code c :: .inBlock id :: k) Q s) : Run P N (.code (.block id c) :: k) Q s := ⟨fun F a w hs => wp_block (h.out F a w hs)⟩
theorem run_inBlock {id : Nat} {k : List It} {Q : AS → Prop} (h : Run P N k Q s) : Run P N (.inBlock id :: k) Q s := ⟨fun F a w hs => h.out F a w hs⟩
theorem run_nil {Q : AS → Prop} (h : Q s) : Run P N [] Q s := ⟨fun F a w hs => ⟨.inl rfl, s, h, hs⟩⟩
theorem run_back {I : AS → Prop} {k : List It} {Q : AS → Prop} (h : I s) : Run P N (.back I :: k) Q s := ⟨fun F a w hs => ⟨s, h, hs⟩⟩
theorem kont_ret {R : Exit → Act → World → Prop} : ∀ (k : List It), Kont P N F k R .ret a w = R .ret a w
  | [] => rfl
  | .code c :: k => kont_ret k
  | .inBlock id :: k => kont_ret k
  | .back I :: k => kont_ret k
theorem run_ret {k : List It} {Q : AS → Prop} (h : Q s) : Run P N (.code .ret :: k) Q s := ⟨fun F a w hs => wp_ret (by rw [kont_ret]; exact ⟨.inr rfl, s, h, hs⟩)⟩
def exitI (id : Nat) : List It → Option (List It)
  | [] => none
  | .inBlock id' :: k => if id = id' then some k else exitI id k
  | .code _ :: k => exitI id k
  | .back _ :: k => exitI id k
theorem kont_exit {R : Exit → Act → World → Prop} {id : Nat} : ∀ {k k' : List It}, exitI id k = some k' → Kont P N F k R (.exit id) a w = Kont P N F k' R .normal a w
  | .inBlock id' :: k, k', h => by
    unfold exitI at h
    show Exit.inBlock id' (Kont P N F k R) (.exit id) a w = _
    split at h
    · rename_i e; cases h; simp [Exit.inBlock, e]
    · rename_i e; simp only [Exit.inBlock, e, if_false]; exact kont_exit h
  | .code c :: k, k', h => by unfold exitI at h; exact kont_exit (k := k) h
  | .back I :: k, k', h => by unfold exitI at h; exact kont_exit (k := k) h
theorem run_exit {id : Nat} {k k' : List It} {Q : AS → Prop} (he : exitI id k = some k') (h : Run P N k' Q s) : Run P N (.code (.exit id) :: k) Q s := ⟨fun F a w hs => wp_exit (by rw [kont_exit he]; exact h.out F a w hs)⟩
def condOf (N : Nat) (s : AS) (c : Operand) : Option Bool :=
  match c with
  | .tmp t => if t < N then (match s.env t with | .bool b => some b | _ => none) else none
  | .const v => (match v with | .bool b => some b | _ => none)
  | _ => none
def CondWp (q : Option Bool) (A B : Prop) : Prop :=
  match q with
  | some b => (b = true → A) ∧ (b = false → B)
  | none => False
theorem run_cond {c : Operand} {x y : Code} {k : List It} {Q : AS → Prop} (h : CondWp (condOf N s c) (Run P N (.code x :: k) Q s) (Run P N (.code y :: k) Q s)) : Run P N (.code (.cond c x y) :: k) Q s := by
  refine ⟨fun F a w hs => ?_⟩
  cases hq : condOf N s c with
  | none => rw [hq] at h; exact h.elim
  | some b =>
    rw [hq] at h
    have hc : a.eval c = .bool b := by
      unfold condOf at hq
      cases c with
      | tmp t =>
        simp only at hq
        split at hq
        · rename_i hlt
          obtain ⟨cx, hU, hc⟩ := hs
          have := hc.env t hlt
          cases he : s.env t with
          | bool b' => rw [he] at hq this; cases hq; exact rep_bool this
          | _ => rw [he] at hq; cases hq
        · cases hq
      | const v => cases v <;> cases hq; rfl
      | _ => cases hq
    exact wp_cond_split hc (fun hb => (h.1 hb).out F a w hs) (fun hb => (h.2 hb).out F a w hs)
/-- A loop: an invariant that bears a number, which each round lowers. -/
theorem run_loop {c : Code} {k : List It} {Q : AS → Prop} (I : Nat → AS → Prop) (n : Nat) (h0 : I n s) (round : ∀ n s, I n s → Run P N (.code c :: .back (fun s' => ∃ m, m < n ∧ I m s') :: k) Q s) : Run P N (.code (.loop c) :: k) Q s := by
  refine ⟨fun F a w hs => ?_⟩
  refine wp_loop_ghost (fun n a w => ∃ s, I n s ∧ SimN N F s a w) n ⟨s, h0, hs⟩ fun n a w h => ?_
  obtain ⟨s, hI, hs⟩ := h
  refine wp_mono ((round n s hI).out F a w hs) fun e a' w' hq => ?_
  cases e with
  | normal =>
    obtain ⟨s', ⟨m, hm, hI'⟩, hs'⟩ := hq
    exact ⟨m, hm, s', hI', hs'⟩
  | exit id => exact hq
  | goto l => exact hq
  | ret => exact hq
  | panic ch => exact hq
  | outgrown => exact hq
/-- What is told of a state may be told with less. -/
def Le (N : Nat) (s s' : AS) : Prop := ∀ F a w, SimN N F s a w → SimN N F s' a w
theorem run_le {k : List It} {Q : AS → Prop} (hle : Le N s s') (h : Run P N k Q s') : Run P N k Q s := ⟨fun F a w hs => h.out F a w (hle F a w hs)⟩
theorem run_back_le {I : AS → Prop} {k : List It} {Q : AS → Prop} (hle : Le N s s') (h : I s') : Run P N (.back I :: k) Q s := run_le hle (run_back h)
end Go.Eng

/- The engine, part 13: states written out; a function's entry and its end. For every program. -/
set_option linter.unusedVariables false
namespace Go.Eng
open Go.RowKit

variable {P : Program} {N : Nat} {F : Fr} {s s' : AS} {cx : Cx} {a : Act} {w : World}

/-! ### States, written out -/
@[reducible] def lkE : List (Nat × AV) → Nat → AV
  | [], _ => .dead
  | (j, x) :: r, i => match Nat.beq i j with
    | true => x
    | false => lkE r i
@[reducible] def lkT : List (Nat × Tok) → Nat → Option Tok
  | [], _ => none
  | (j, T) :: r, i => match Nat.beq i j with
    | true => some T
    | false => lkT r i
theorem lkE_cons (j : Nat) (x : AV) (r : List (Nat × AV)) (i : Nat) : lkE ((j, x) :: r) i = if i = j then x else lkE r i := by
  show (match Nat.beq i j with | true => x | false => lkE r i) = _
  by_cases h : i = j
  · subst h; simp
  · rw [if_neg h]
    have : Nat.beq i j = false := by
      cases e : Nat.beq i j with
      | false => rfl
      | true => exact absurd (Nat.eq_of_beq_eq_true e) h
    rw [this]
theorem lkT_cons (j : Nat) (x : Tok) (r : List (Nat × Tok)) (i : Nat) : lkT ((j, x) :: r) i = if i = j then some x else lkT r i := by
  show (match Nat.beq i j with | true => some x | false => lkT r i) = _
  by_cases h : i = j
  · subst h; simp
  · rw [if_neg h]
    have : Nat.beq i j = false := by
      cases e : Nat.beq i j with
      | false => rfl
      | true => exact absurd (Nat.eq_of_beq_eq_true e) h
    rw [this]
/-- The value itself, looked at. -/
def lkF (l : List (Nat × AV)) (i : Nat) : AV :=
  match lkE l i with
  | .bool b => .bool b
  | .int k n => .int k n
  | .str l => .str l
  | .nilS => .nilS
  | .nilP => .nilP
  | .em b => .em b
  | .sl n cs => .sl n cs
  | .own t g off n => .own t g off n
  | .arr t g off n => .arr t g off n
  | .addr t g off => .addr t g off
  | .ptr cs off => .ptr cs off
  | .fn f caps => .fn f caps
  | .agg cs => .agg cs
  | .tup cs => .tup cs
  | .dead => .dead
theorem lkF_eq (l : List (Nat × AV)) (i : Nat) : lkF l i = lkE l i := by unfold lkF; cases lkE l i <;> rfl
def lkG (l : List (Nat × Tok)) (i : Nat) : Option Tok :=
  match lkT l i with
  | some T => some T
  | none => none
theorem lkG_eq (l : List (Nat × Tok)) (i : Nat) : lkG l i = lkT l i := by unfold lkG; cases lkT l i <;> rfl
def mkS (l : List (Nat × AV)) (t : List (Nat × Tok)) (nx : Nat) : AS := ⟨lkE l, lkT t, nx⟩
theorem mkS_env (l : List (Nat × AV)) (t : List (Nat × Tok)) (nx i : Nat) : (mkS l t nx).env i = lkF l i := (lkF_eq l i).symm
theorem mkS_tk (l : List (Nat × AV)) (t : List (Nat × Tok)) (nx i : Nat) : (mkS l t nx).tk i = lkG t i := (lkG_eq t i).symm
theorem mkS_nx (l : List (Nat × AV)) (t : List (Nat × Tok)) (nx : Nat) : (mkS l t nx).nx = nx := _root_.id rfl
theorem mkS_setE (l : List (Nat × AV)) (t : List (Nat × Tok)) (nx i : Nat) (x : AV) : (mkS l t nx).setE i x = mkS ((i, x) :: l) t nx := by
  simp only [mkS, AS.setE, AS.mk.injEq, and_true]
  funext j
  rw [lkE_cons]
theorem mkS_setT (l : List (Nat × AV)) (t : List (Nat × Tok)) (nx i : Nat) (T : Tok) : (mkS l t nx).setT i T = mkS l ((i, T) :: t) nx := by
  simp only [mkS, AS.setT, AS.mk.injEq, true_and, and_true]
  funext j
  rw [lkT_cons]
theorem mkS_bump (l : List (Nat × AV)) (t : List (Nat × Tok)) (nx n : Nat) : (mkS l t nx).bump n = mkS l t (nx + n) := _root_.id rfl
theorem lkE_nil (i : Nat) : lkE [] i = .dead := rfl
theorem lkT_nil (i : Nat) : lkT [] i = none := rfl

/-! ### Less is told -/
inductive Sub : AV → AV → Prop
  | refl (x : AV) : Sub x x
  | nil : Sub .nilS (.sl 0 [])
  | em (b : Bool) : Sub (.em b) (.sl 0 [])
  | dead (x : AV) : Sub x .dead
  | agg (cs ds : List AV) (hl : cs.length = ds.length) (h : ∀ (i : Nat) (x y : AV), cs[i]? = some x → ds[i]? = some y → Sub x y) : Sub (.agg cs) (.agg ds)
  | tup (cs ds : List AV) (hl : cs.length = ds.length) (h : ∀ (i : Nat) (x y : AV), cs[i]? = some x → ds[i]? = some y → Sub x y) : Sub (.tup cs) (.tup ds)
  | sl (n : Nat) (cs ds : List AV) (hl : cs.length = ds.length) (h : ∀ (i : Nat) (x y : AV), cs[i]? = some x → ds[i]? = some y → Sub x y) : Sub (.sl n cs) (.sl n ds)
theorem Sub.of_eq {x y : AV} (h : x = y) : Sub x y := h ▸ .refl x
theorem Rep.sub {x y : AV} (h : Sub x y) : ∀ {v : Value}, Rep cx x v → Rep cx y v := by
  induction h with
  | refl x => exact id
  | nil => intro v h; cases h; exact .sl0 _ _
  | em b => intro v h; cases h; exact .sl0 _ _
  | dead x => intro v h; exact .dead v
  | agg cs ds hl h ih =>
    intro v hv
    obtain ⟨vs, rfl, h1, h2⟩ := rep_agg hv
    refine rep_mkagg ⟨by rw [← hl]; exact h1.1, fun i y u hy hu => ?_⟩ h2
    have hi : i < cs.length := by rw [hl]; exact (List.getElem?_eq_some_iff.1 hy).1
    exact ih i _ y (List.getElem?_eq_getElem hi) hy (h1.2 i _ u (List.getElem?_eq_getElem hi) hu)
  | tup cs ds hl h ih =>
    intro v hv
    obtain ⟨vs, rfl, h1⟩ := rep_tup hv
    refine rep_mktup ⟨by rw [← hl]; exact h1.1, fun i y u hy hu => ?_⟩
    have hi : i < cs.length := by rw [hl]; exact (List.getElem?_eq_some_iff.1 hy).1
    exact ih i _ y (List.getElem?_eq_getElem hi) hy (h1.2 i _ u (List.getElem?_eq_getElem hi) hu)
  | sl n cs ds hl h ih =>
    intro v hv
    cases hv with
    | sl0 a c =>
      have : ds = [] := by cases ds with | nil => rfl | cons => simp at hl
      subst this; exact .sl0 a c
    | sl _ _ ad c arr el fz hz hb hs hn hl' h1 h2 =>
      refine .sl n ds ad c arr el fz hz hb hs hn (by rw [← hl]; exact hl') (fun i v hi hv => h1 i v (by rw [hl]; exact hi) hv) fun i y u hy hu => ?_
      have hi : i < cs.length := by rw [hl]; exact (List.getElem?_eq_some_iff.1 hy).1
      exact ih i _ y (List.getElem?_eq_getElem hi) hy (h2 i _ u (List.getElem?_eq_getElem hi) hu)
def SubL : List AV → List AV → Prop
  | [], [] => True
  | x :: r, y :: q => Sub x y ∧ SubL r q
  | _, _ => False
theorem SubL.get : ∀ {cs ds : List AV}, SubL cs ds → cs.length = ds.length ∧ ∀ (i : Nat) (x y : AV), cs[i]? = some x → ds[i]? = some y → Sub x y
  | [], [], _ => ⟨rfl, fun i x y h => by simp at h⟩
  | x :: r, y :: q, h => by
    obtain ⟨h1, h2⟩ := SubL.get h.2
    refine ⟨by simp [h1], fun i u v hu hv => ?_⟩
    cases i with
    | zero => simp at hu hv; subst hu; subst hv; exact h.1
    | succ i => exact h2 i u v (by simpa using hu) (by simpa using hv)
  | [], _ :: _, h => h.elim
  | _ :: _, [], h => h.elim
theorem SubL.refl : ∀ (cs : List AV), SubL cs cs
  | [] => trivial
  | x :: r => ⟨.refl x, SubL.refl r⟩
def leE (l : List (Nat × AV)) : List (Nat × AV) → Prop
  | [] => True
  | (i, x) :: r => Sub (lkE l i) x ∧ leE l r
def leT (t : List (Nat × Tok)) : List (Nat × Tok) → Prop
  | [] => True
  | (i, T') :: r => (∃ T, lkT t i = some T ∧ T.g = T'.g ∧ T.sz = T'.sz ∧ SubL T.cs T'.cs) ∧ leT t r
theorem leE_get {l : List (Nat × AV)} : ∀ {l' : List (Nat × AV)}, leE l l' → ∀ i, Sub (lkE l i) (lkE l' i)
  | [], _, i => .dead _
  | (j, x) :: r, h, i => by
    rw [lkE_cons]
    by_cases e : i = j
    · subst e; rw [if_pos rfl]; exact h.1
    · rw [if_neg e]; exact leE_get h.2 i
theorem leT_get {t : List (Nat × Tok)} : ∀ {t' : List (Nat × Tok)}, leT t t' → ∀ i T', lkT t' i = some T' → ∃ T, lkT t i = some T ∧ T.g = T'.g ∧ T.sz = T'.sz ∧ SubL T.cs T'.cs
  | [], _, i, T', h => by cases h
  | (j, x) :: r, h, i, T', h' => by
    rw [lkT_cons] at h'
    split at h'
    · rename_i e; cases h'; subst e; exact h.1
    · exact leT_get h.2 i T' h'
theorem le_mk {l l' : List (Nat × AV)} {t t' : List (Nat × Tok)} {nx nx' : Nat} (hE : leE l l') (hT : leT t t') (hn : nx ≤ nx') : Le N (mkS l t nx) (mkS l' t' nx') := by
  rintro F a w ⟨cx, hU, h⟩
  let cx' : Cx := { cx with tk := lkT t', U := fun g => g < nx' }
  have htk : cx.tk = lkT t := h.tk
  have hTr : Tr cx cx' := by
    refine Tr.of (fun b hb => ⟨hb, rfl⟩) (fun g hg => ?_) (fun i T' e _ => ?_) (fun i T b arr el fz _ _ e => ⟨arr, el, fz, e, Nat.le_refl _⟩)
    · show g < nx'
      rw [hU] at hg
      exact Nat.lt_of_lt_of_le hg hn
    · obtain ⟨T, e1, e2, e3, _⟩ := leT_get hT i T' e
      exact ⟨T, by rw [htk]; exact e1, e2, e3, rfl⟩
  refine ⟨cx', rfl, { h := h.h, tk := rfl, size := h.size, defers := h.defers, env := fun i hi => ((h.env i hi).sub (leE_get hE i)).tr hTr, none_ := fun i T' e1 e2 => ?_, row := fun i T' b e1 e2 => ?_, stamp := fun i T' e => ?_, inj := fun i j T T' b e1 e2 e3 e4 => ?_, apart := fun i T' b e1 e2 => ?_, free := fun i T' b e1 e2 => ?_, Zlt := h.Zlt, tr := h.tr.trans hTr, Z0 := h.Z0, Znew := h.Znew, os := h.os, tape := h.tape, output := h.output, grow := h.grow, prot := h.prot }⟩
  · obtain ⟨T, f1, f2, f3, f4⟩ := leT_get hT i T' e1
    have := h.none_ i T (by rw [htk]; exact f1) e2
    have hl := f4.get.1
    rw [this] at hl
    exact List.eq_nil_of_length_eq_zero hl.symm
  · obtain ⟨T, f1, f2, f3, f4⟩ := leT_get hT i T' e1
    obtain ⟨arr, el, fz, g1, g2, g3, g4, g5⟩ := h.row i T b (by rw [htk]; exact f1) e2
    obtain ⟨q1, q2⟩ := f4.get
    refine ⟨arr, el, fz, g1, g2, g3, by rw [← q1]; exact g4, fun j x v hx hv => ?_⟩
    have hj : j < T.cs.length := by rw [q1]; exact (List.getElem?_eq_some_iff.1 hx).1
    exact ((g5 j _ v (List.getElem?_eq_getElem hj) hv).sub (q2 j _ x (List.getElem?_eq_getElem hj) hx)).tr hTr
  · obtain ⟨T, f1, f2, f3, f4⟩ := leT_get hT i T' e
    have := h.stamp i T (by rw [htk]; exact f1)
    rw [f2] at this
    exact hTr.U _ this
  · obtain ⟨Ta, f1, _⟩ := leT_get hT i T e1
    obtain ⟨Tb, f2, _⟩ := leT_get hT j T' e2
    exact h.inj i j Ta Tb b (by rw [htk]; exact f1) (by rw [htk]; exact f2) e3 e4
  · obtain ⟨Ta, f1, _⟩ := leT_get hT i T' e1
    exact h.apart i Ta b (by rw [htk]; exact f1) e2
  · obtain ⟨Ta, f1, _⟩ := leT_get hT i T' e1
    exact h.free i Ta b (by rw [htk]; exact f1) e2
theorem run_keep {l l' : List (Nat × AV)} {t t' : List (Nat × Tok)} {nx nx' : Nat} {k : List It} {Q : AS → Prop} (hE : leE l l') (hT : leT t t') (hn : nx ≤ nx') (h : Run P N k Q (mkS l' t' nx')) : Run P N k Q (mkS l t nx) :=
  run_le (le_mk hE hT hn) h

/-- A nil slice in a slot is a row of one's own that is none yet. -/
theorem run_lazy {l : List (Nat × AV)} {t : List (Nat × Tok)} {nx : Nat} {k : List It} {Q : AS → Prop} (i d sz : Nat) (hi : lkE l i = .nilS) (h : Run P N k Q (mkS ((i, .own d nx 0 0) :: l) ((d, ⟨nx, sz, []⟩) :: t) (nx + 1))) : Run P N k Q (mkS l t nx) := by
  refine run_le ?_ h
  rintro F a w ⟨cx, hU, hc⟩
  have hst : ¬ cx.U nx := by rw [hU]; exact Nat.lt_irrefl nx
  have hk := hc.lazyTok d ⟨nx, sz, []⟩ w rfl rfl rfl rfl hst rfl
  have hU' : ∀ g, (cx.newTok w d none ⟨nx, sz, []⟩).U g → g < nx + 1 := by
    intro g hg
    rcases hg with hg | hg
    · rw [hU] at hg; exact Nat.lt_succ_of_lt hg
    · rw [hg]; exact Nat.lt_succ_self nx
  refine Sim.moreU ⟨_, rfl, ?_⟩ hU'
  refine { hk.2 with tk := by rw [hk.2.tk, mkS_setT]; rfl, env := fun j hj => ?_ }
  show Rep _ (lkE ((i, .own d nx 0 0) :: l) j) _
  rw [lkE_cons]
  split
  · rename_i e
    subst e
    have hr := hc.env j hj
    have hr' : Rep cx .nilS (a.tmps.getD j undef) := by rw [← hi]; exact hr
    cases hv : a.tmps.getD j undef with
    | slice p n c => rw [hv] at hr'; cases hr'; exact .own d nx 0 0 none 0 (.inr rfl) (Nat.le_refl _) fun T hT hg => .inl ⟨rfl, rfl⟩
    | _ => rw [hv] at hr'; cases hr'
  · exact hk.2.env j hj

/-! ### A function's end -/
def loadV (P : Program) (t : TypeId) (x : AV) (s : AS) : Option AV :=
  match x with
  | .addr tk g off => (match s.tk tk with
    | some T => if T.g = g then ldV P t T.cs off else none
    | none => none)
  | .ptr cs off => ldV P t cs off
  | _ => none
def resV (P : Program) (N : Nat) (s : AS) : List ResultVar → Option (List AV)
  | [] => some []
  | .tmp t :: r => if t < N then (resV P N s r).map (s.env t :: ·) else none
  | .cell t ty :: r => if t < N then (match loadV P ty (s.env t) s, resV P N s r with
    | some x, some xs => some (x :: xs)
    | _, _ => none) else none
/-- A value, as the caller sees it: row t0 (if any) comes along as row 0. -/
def outC (s : AS) (t0 : Option Nat) (x : AV) : Option AV :=
  match x with
  | .nilS => some .nilS
  | .own t g off n => (match s.tk t with
    | some T => if T.g = g then (if t0 = some t then some (.own 0 0 off n) else if closedL ((T.cs.drop off).take (n * T.sz)) = true then some (.sl n ((T.cs.drop off).take (n * T.sz))) else none) else none
    | none => none)
  | .addr t g off => (match s.tk t with
    | some T => if T.g = g then (if t0 = some t then some (.addr 0 0 off) else if closedL T.cs = true then some (.ptr T.cs off) else none) else none
    | none => none)
  | x => if x.closed = true then some x else none
def outL (s : AS) (t0 : Option Nat) : List AV → Option (List AV)
  | [] => some []
  | x :: r => match outC s t0 x, outL s t0 r with
    | some y, some ys => some (y :: ys)
    | _, _ => none
def outV (s : AS) (t0 : Option Nat) (x : AV) : Option AV :=
  match x with
  | .agg cs => (outL s t0 cs).map .agg
  | x => outC s t0 x
def outA (s : AS) (t0 : Option Nat) : List AV → Option (List AV)
  | [] => some []
  | x :: r => match outV s t0 x, outA s t0 r with
    | some y, some ys => some (y :: ys)
    | _, _ => none
def pack : List AV → AV
  | [x] => x
  | xs => .tup xs
/-- The end is what the contract says. -/
def Done (P : Program) (N : Nat) (res : List ResultVar) (t0 : Option Nat) (r : AV) (T : Option Tok) (s : AS) : Prop :=
  ∃ xs ys, resV P N s res = some xs ∧ outA s t0 xs = some ys ∧ Sub (pack ys) r ∧
    match t0 with
    | none => T = none
    | some t => ∃ T0, s.tk t = some T0 ∧ closedL T0.cs = true ∧ T = some ⟨0, T0.sz, T0.cs⟩

/-- The blocks that the caller may read: what was handed in, and what is new but the row that comes along. -/
def outZ (cx : Cx) (w0 : World) (Z0 : Nat → Prop) (w : World) (t0 : Option Nat) (b : Nat) : Prop :=
  b < w.heap.size ∧ (Z0 b ∨ w0.heap.size ≤ b) ∧ ∀ t, t0 = some t → cx.ρ t ≠ some b
def outCx (cx : Cx) (w0 : World) (Z0 : Nat → Prop) (w : World) (t0 : Option Nat) (T : Option Tok) : Cx :=
  { h := w.heap, Z := outZ cx w0 Z0 w t0, ρ := fun _ => match t0 with | some t => cx.ρ t | none => none, tk := fun i => if i = 0 then T else none, U := fun g => g = 0 }

/-- Nothing was handed in to be changed. -/
def Plain (F : Fr) : Prop := (∀ b, b < F.w0.heap.size → F.prot b) ∧ ∀ b, ¬ F.sh b
theorem SimC.Zplain (h : SimC N F s cx a w) (hprot : Plain F) : ∀ b, cx.Z b → F.Z0 b ∨ F.w0.heap.size ≤ b := fun b hb =>
  (h.Znew b hb).imp id fun q => q.elim id fun q => absurd q (hprot.2 b)
theorem out_move (h : SimC N F s cx a w) (hprot : Plain F) {t0 : Option Nat} {T : Option Tok} (ht0 : ∀ t, t0 = some t → ∃ T0, cx.tk t = some T0) {x : AV} {v : Value} (hx : Rep cx x v) (hc : x.closed = true) : Rep (outCx cx F.w0 F.Z0 w t0 T) x v := by
  refine hx.move hc (.inl fun b hb => ⟨⟨h.Zlt b hb, h.Zplain hprot b hb, fun t e1 e2 => ?_⟩, by show w.heap[b]? = _; rw [h.h]⟩)
  obtain ⟨T0, e3⟩ := ht0 t e1
  exact h.apart t T0 b e3 e2 hb
theorem row_out (h : SimC N F s cx a w) (hprot : Plain F) {t0 : Option Nat} (ht0 : ∀ t, t0 = some t → ∃ T0, cx.tk t = some T0) {t b : Nat} {T0 : Tok} (e1 : cx.tk t = some T0) (e2 : cx.ρ t = some b) (hne : t0 ≠ some t) :
    outZ cx F.w0 F.Z0 w t0 b := by
  refine ⟨h.blk e1 e2, .inr ?_, fun t' e3 e4 => ?_⟩
  · rcases Nat.lt_or_ge b F.w0.heap.size with hlt | hge
    · exact absurd (hprot.1 b hlt) (h.free t T0 b e1 e2)
    · exact hge
  · obtain ⟨T1, e5⟩ := ht0 t' e3
    have := h.inj t' t T1 T0 b e5 e1 e4 e2
    exact hne (by rw [e3, this])
theorem outC_rep (h : SimC N F s cx a w) (hprot : Plain F) {t0 : Option Nat} {T : Option Tok} (ht0 : ∀ t, t0 = some t → ∃ T0, cx.tk t = some T0 ∧ T = some ⟨0, T0.sz, T0.cs⟩) {x y : AV} {v : Value} (hx : Rep cx x v)
    (hy : outC s t0 x = some y) : Rep (outCx cx F.w0 F.Z0 w t0 T) y v := by
  have ht0' : ∀ t, t0 = some t → ∃ T0, cx.tk t = some T0 := fun t e => let ⟨T0, h1, _⟩ := ht0 t e; ⟨T0, h1⟩
  unfold outC at hy
  cases x with
  | nilS => cases hy; cases hx; exact .nilS
  | own t g off n =>
    simp only [← h.tk] at hy
    cases e1 : cx.tk t with
    | none => rw [e1] at hy; cases hy
    | some T0 =>
      rw [e1] at hy
      simp only at hy
      split at hy
      · rename_i hg
        cases hx with
        | own _ _ _ _ p c hU hnc hh =>
          split at hy
          · rename_i hteq
            cases hy
            obtain ⟨T1, f1, f2⟩ := ht0 t hteq
            rw [e1] at f1
            cases f1
            refine .own 0 0 off n p c rfl hnc fun T' hT _ => ?_
            have hT1 : T' = ⟨0, T0.sz, T0.cs⟩ := by
              simp only [outCx, if_true, f2] at hT
              cases hT; rfl
            subst hT1
            rcases hh T0 e1 hg with h0 | ⟨b, arr, el, fz, g1, g2, g3, g4⟩
            · exact .inl h0
            · refine .inr ⟨b, arr, el, fz, by simp [outCx, hteq, g1], g2, ?_, g4⟩
              show w.heap[b]? = _
              rw [← h.h]; exact g3
          · rename_i hteq
            split at hy
            · rename_i hcl
              cases hy
              rcases hh T0 e1 hg with ⟨h0, hc0⟩ | ⟨b, arr, el, fz, g1, g2, g3, g4⟩
              · subst h0; simp; exact .sl0 _ _
              · obtain ⟨arr', el', fz', f1, f2, f3, f4, f5⟩ := h.row t T0 b e1 g1
                rw [g3] at f1
                cases f1
                subst g2
                have hlen : off + ((T0.cs.drop off).take (n * T0.sz)).length ≤ arr.size := by
                  have : n * T0.sz ≤ c * T0.sz := Nat.mul_le_mul_right _ hnc
                  simp only [List.length_take, List.length_drop]
                  omega
                refine .sl n _ _ c arr el fz (row_out h hprot ht0' e1 g1 hteq) ?_ rfl hnc hlen (fun i v _ hv => f3 _ v hv) fun i x v hx hv => ?_
                · show w.heap[b]? = _
                  rw [← h.h]; exact g3
                · have hx' := hx
                  rw [List.getElem?_take, List.getElem?_drop] at hx
                  split at hx
                  · exact out_move h hprot ht0' (f5 _ x v hx hv) (closedL_get hcl hx')
                  · cases hx
            · cases hy
      · cases hy
  | addr t g off =>
    simp only [← h.tk] at hy
    cases e1 : cx.tk t with
    | none => rw [e1] at hy; cases hy
    | some T0 =>
      rw [e1] at hy
      simp only at hy
      split at hy
      · rename_i hg
        cases hx with
        | addr _ _ _ ad hU hh =>
          obtain ⟨b, g1, rfl⟩ := hh T0 e1 hg
          split at hy
          · rename_i hteq
            cases hy
            exact .addr 0 0 off _ rfl fun T' hT _ => ⟨b, by simp [outCx, hteq, g1], rfl⟩
          · rename_i hteq
            split at hy
            · rename_i hcl
              cases hy
              obtain ⟨arr, el, fz, f1, f2, f3, f4, f5⟩ := h.row t T0 b e1 g1
              refine .ptr T0.cs off _ 0 arr el fz (row_out h hprot ht0' e1 g1 hteq) ?_ rfl (by simp) (by omega) (fun i v _ hv => f3 _ v hv) fun i x v hx hv => out_move h hprot ht0' (f5 i x v hx (by simpa using hv)) (closedL_get hcl hx)
              show w.heap[b]? = _
              rw [← h.h]; exact f1
            · cases hy
      · cases hy
  | _ =>
    simp only at hy
    split at hy
    · rename_i hc; cases hy; exact out_move h hprot ht0' hx hc
    · cases hy
theorem outL_rep (h : SimC N F s cx a w) (hprot : Plain F) {t0 : Option Nat} {T : Option Tok} (ht0 : ∀ t, t0 = some t → ∃ T0, cx.tk t = some T0 ∧ T = some ⟨0, T0.sz, T0.cs⟩) : ∀ {xs ys : List AV} {vs : List Value}, RepL cx xs vs →
    outL s t0 xs = some ys → RepL (outCx cx F.w0 F.Z0 w t0 T) ys vs
  | [], ys, vs, hx, hy => by cases hy; have := hx.1; simp at this; rw [List.eq_nil_of_length_eq_zero this.symm]; exact RepL.nil _
  | x :: xs, ys, vs, hx, hy => by
    obtain ⟨v, vs', rfl, h1, h2⟩ := hx.uncons
    unfold outL at hy
    cases e1 : outC s t0 x with
    | none => rw [e1] at hy; cases hy
    | some y =>
      rw [e1] at hy
      cases e2 : outL s t0 xs with
      | none => rw [e2] at hy; cases hy
      | some ys' => rw [e2] at hy; cases hy; exact .cons (outC_rep h hprot ht0 h1 e1) (outL_rep h hprot ht0 h2 e2)
theorem outV_rep (h : SimC N F s cx a w) (hprot : Plain F) {t0 : Option Nat} {T : Option Tok} (ht0 : ∀ t, t0 = some t → ∃ T0, cx.tk t = some T0 ∧ T = some ⟨0, T0.sz, T0.cs⟩) {x y : AV} {v : Value} (hx : Rep cx x v)
    (hy : outV s t0 x = some y) : Rep (outCx cx F.w0 F.Z0 w t0 T) y v := by
  unfold outV at hy
  cases x with
  | agg cs =>
    obtain ⟨vs, rfl, h1, h2⟩ := rep_agg hx
    simp only at hy
    cases e : outL s t0 cs with
    | none => rw [e] at hy; cases hy
    | some ys => rw [e] at hy; cases hy; exact rep_mkagg (outL_rep h hprot ht0 h1 e) h2
  | _ => exact outC_rep h hprot ht0 hx hy
theorem outA_rep (h : SimC N F s cx a w) (hprot : Plain F) {t0 : Option Nat} {T : Option Tok} (ht0 : ∀ t, t0 = some t → ∃ T0, cx.tk t = some T0 ∧ T = some ⟨0, T0.sz, T0.cs⟩) : ∀ {xs ys : List AV} {vs : List Value}, RepL cx xs vs →
    outA s t0 xs = some ys → RepL (outCx cx F.w0 F.Z0 w t0 T) ys vs
  | [], ys, vs, hx, hy => by cases hy; have := hx.1; simp at this; rw [List.eq_nil_of_length_eq_zero this.symm]; exact RepL.nil _
  | x :: xs, ys, vs, hx, hy => by
    obtain ⟨v, vs', rfl, h1, h2⟩ := hx.uncons
    unfold outA at hy
    cases e1 : outV s t0 x with
    | none => rw [e1] at hy; cases hy
    | some y =>
      rw [e1] at hy
      cases e2 : outA s t0 xs with
      | none => rw [e2] at hy; cases hy
      | some ys' => rw [e2] at hy; cases hy; exact .cons (outV_rep h hprot ht0 h1 e1) (outA_rep h hprot ht0 h2 e2)
def resF (tmps : Array Value) : ResultVar → Sem Value
  | .tmp t => pure (tmps.getD t undef)
  | .cell c t => do loadVar t (← asAddr (tmps.getD c undef))
theorem results_eq (fn : Func) (tmps : Array Value) : results fn tmps = (do
    let vs ← fn.results.mapM (resF tmps)
    pure (if h : vs.size = 1 then vs[0] else .tuple vs)) := rfl
theorem resV_run (h : SimC N F s cx a w) : ∀ {res : List ResultVar} {xs : List AV}, resV P N s res = some xs → ∃ vs : List Value, (res.mapM (resF a.tmps)).run P w = .ok vs w ∧ RepL cx xs vs
  | [], xs, hx => by cases hx; exact ⟨[], by simp, RepL.nil _⟩
  | .tmp t :: r, xs, hx => by
    unfold resV at hx
    split at hx
    · rename_i hlt
      cases e : resV P N s r with
      | none => rw [e] at hx; cases hx
      | some ys =>
        rw [e] at hx
        cases hx
        obtain ⟨vs, h1, h2⟩ := resV_run h e
        refine ⟨a.tmps.getD t undef :: vs, ?_, .cons (h.env t hlt) h2⟩
        rw [List.mapM_cons]
        simp only [resF, Sem.run_bind, Sem.run_pure, Result.andThen_ok, h1]
    · cases hx
  | .cell c ty :: r, xs, hx => by
    unfold resV at hx
    split at hx
    · rename_i hlt
      cases e0 : loadV P ty (s.env c) s with
      | none => rw [e0] at hx; cases hx
      | some y =>
        rw [e0] at hx
        cases e : resV P N s r with
        | none => rw [e] at hx; cases hx
        | some ys =>
          rw [e] at hx
          cases hx
          obtain ⟨vs, h1, h2⟩ := resV_run h e
          have hr := h.env c hlt
          have hv : ∃ v, (do loadVar ty (← asAddr (a.tmps.getD c undef)) : Sem Value).run P w = .ok v w ∧ Rep cx y v := by
            unfold loadV at e0
            cases hx' : s.env c with
            | addr tk g off =>
              rw [hx'] at e0 hr
              simp only [← h.tk] at e0
              cases e1 : cx.tk tk with
              | none => rw [e1] at e0; cases e0
              | some T =>
                rw [e1] at e0
                simp only at e0
                split at e0
                · rename_i hg
                  cases hp : a.tmps.getD c undef with
                  | pointer p =>
                    rw [hp] at hr
                    cases hr with
                    | addr _ _ _ ad hU hh =>
                      obtain ⟨b, g1, rfl⟩ := hh T e1 hg
                      obtain ⟨arr, el, fz, f1, f2, f3, f4, f5⟩ := h.row tk T b e1 g1
                      rw [h.h] at f1
                      obtain ⟨v, q1, q2⟩ := ld_val (P := P) (base := 0) e0 f1 (by omega) (fun i v _ hv => f3 _ v hv) (fun i x v hx hv => f5 i x v hx (by simpa using hv))
                      rw [Nat.zero_add] at q1
                      exact ⟨v, by simp [asAddr, q1], q2⟩
                  | _ => rw [hp] at hr; cases hr
                · cases e0
            | ptr cs off =>
              rw [hx'] at e0 hr
              cases hp : a.tmps.getD c undef with
              | pointer p =>
                rw [hp] at hr
                cases hr with
                | ptr _ _ ad base arr el fz hz hb hsp ho hl h1 h2 =>
                  rw [h.h] at hb
                  obtain ⟨v, q1, q2⟩ := ld_val (P := P) e0 hb hl h1 h2
                  have : ad = ⟨ad.block, base + off, none⟩ := by cases ad; simp_all
                  rw [← this] at q1
                  exact ⟨v, by simp [asAddr, q1], q2⟩
              | _ => rw [hp] at hr; cases hr
            | _ => rw [hx'] at e0; cases e0
          obtain ⟨v, h3, h4⟩ := hv
          refine ⟨v :: vs, ?_, .cons h4 h2⟩
          rw [List.mapM_cons]
          simp only [Sem.run_bind] at h3
          simp only [resF, Sem.run_bind, h3, Result.andThen_ok, h1, Sem.run_pure]
    · cases hx
theorem pack_rep {xs : List AV} {vs : List Value} (h : RepL cx xs vs) : Rep cx (pack xs) (if h : vs.toArray.size = 1 then vs.toArray[0] else .tuple vs.toArray) := by
  cases xs with
  | nil =>
    have : vs = [] := by have := h.1; simp at this; exact List.eq_nil_of_length_eq_zero this.symm
    subst this
    exact rep_mktup (by simpa using h)
  | cons x xs =>
    obtain ⟨v, vs', rfl, h1, h2⟩ := h.uncons
    cases xs with
    | nil =>
      have : vs' = [] := by have := h2.1; simp at this; exact List.eq_nil_of_length_eq_zero this.symm
      subst this
      simpa [pack] using h1
    | cons y ys =>
      obtain ⟨v2, vs2, rfl, h3, h4⟩ := h2.uncons
      have : ¬ ((v :: v2 :: vs2).toArray.size = 1) := by simp
      rw [dif_neg this]
      exact rep_mktup (by simpa using h)
theorem results_run (h : SimC N F s cx a w) {fn : Func} {xs : List AV} (hx : resV P N s fn.results.toList = some xs) : ∃ vs : List Value, (results fn a.tmps).run P w = .ok (if h : vs.toArray.size = 1 then vs.toArray[0] else .tuple vs.toArray) w ∧ RepL cx xs vs := by
  obtain ⟨vs, h1, h2⟩ := resV_run (P := P) h hx
  refine ⟨vs, ?_, h2⟩
  rw [results_eq, Array.mapM_eq_mapM_toList]
  simp only [Sem.run_bind, Sem.run_map]
  rw [h1]
  simp only [Result.andThen_ok, Sem.run_pure]

/-! ### A function's entry -/
def argL : Nat → List AV → List (Nat × AV)
  | _, [] => []
  | i, x :: r => (i, x) :: argL (i + 1) r
theorem argL_get : ∀ (xs : List AV) (k i : Nat), lkE (argL k xs) (k + i) = xs.getD i .dead
  | [], k, i => by simp [argL, lkE]
  | x :: xs, k, 0 => by rw [argL, lkE_cons]; simp
  | x :: xs, k, i + 1 => by
    simp only [argL]
    rw [lkE_cons, if_neg (by omega), show k + (i + 1) = k + 1 + i by omega, argL_get xs (k + 1) i]
    simp
theorem acall_intro {f : FuncId} {fn : Func} {c : Code} {args : List AV} {r : AV} {T : Option Tok} (t0 : Option Nat) (hf : P.funcs[f]? = some fn) (hb : fn.body = some c) (hname : (fn.name == "runtime.NumGoroutine") = false) (hN : args.length ≤ fn.ntmps)
    (h : Run P fn.ntmps [.code c] (Done P fn.ntmps fn.results.toList t0 r T) (mkS (argL 0 args) [] 0)) : ACall P f args r T := by
  refine ⟨⟨fn, c, hf, hb, hname⟩, fun w vargs Z0 hZ0 hargs => ?_⟩
  have hva : vargs.size = args.length := by have := hargs.1; simp at this; omega
  let cx0 : Cx := ⟨w.heap, Z0, fun _ => none, fun _ => none, fun g => g < 0⟩
  let F : Fr := ⟨w, fun b => b < w.heap.size, Z0, fun _ => False, cx0, fun _ h => .inl h⟩
  have hTr : Tr (cxA w Z0) cx0 := ⟨fun b hb => ⟨hb, rfl⟩, fun g hg => hg.elim, (fun t T' e _ => by cases e), (fun t T _ b arr el fz e _ _ _ _ _ => by cases e)⟩
  have hsim : SimN fn.ntmps F (mkS (argL 0 args) [] 0) { tmps := vargs ++ Array.replicate (fn.ntmps - vargs.size) undef, defers := [] } w := by
    refine ⟨cx0, rfl, { h := rfl, tk := by funext i; rfl, size := by simp; omega, defers := rfl, env := fun i hi => ?_, none_ := (fun t T e => by cases e), row := (fun t T b e => by cases e), stamp := (fun t T e => by cases e), inj := (fun t t' T T' b e => by cases e), apart := (fun t T b e => by cases e), free := (fun t T b e => by cases e), Zlt := hZ0, Z0 := fun b hb => hb, Znew := fun b hb => .inl hb, tr := Tr.refl _, os := rfl, tape := rfl, output := rfl, grow := Nat.le_refl _, prot := fun b hb => ⟨hb, rfl⟩ }⟩
    show Rep cx0 (lkE (argL 0 args) i) _
    have := argL_get args 0 i
    rw [Nat.zero_add] at this
    rw [this]
    rcases Nat.lt_or_ge i args.length with hlt | hge
    · have h1 : args[i]? = some args[i] := List.getElem?_eq_getElem hlt
      have h2 : vargs[i]? = some vargs[i] := Array.getElem?_eq_getElem (by omega)
      rw [List.getD_eq_getElem?_getD, h1, Array.getD_eq_getD_getElem?, Array.getElem?_append, if_pos (by omega), h2]
      exact (hargs.2 i _ _ h1 (by simp [h2])).tr hTr
    · rw [List.getD_eq_getElem?_getD, List.getElem?_eq_none hge]
      exact .dead _
  refine calls_of_wp hf hb (wp_mono (h.out F _ w hsim) ?_)
  rintro e a' w' ⟨he, s, ⟨xs, ys, h1, h2, h3, h4⟩, cx, hU, hc⟩
  obtain ⟨vs, hr, hrep⟩ := results_run hc h1
  have ht0 : ∀ t, t0 = some t → ∃ T0, cx.tk t = some T0 ∧ T = some ⟨0, T0.sz, T0.cs⟩ := by
    intro t ht
    subst ht
    obtain ⟨T0, q1, q2, q3⟩ := h4
    exact ⟨T0, by rw [hc.tk]; exact q1, q3⟩
  have hprot : Plain F := ⟨fun b hb => hb, fun b hb => hb⟩
  have hbelow : Below w.heap.size w w' := ⟨hc.os, hc.tape, hc.output, hc.grow, fun k hk => (hc.prot k hk).2⟩
  have hfin : ∃ v cx', (results fn a'.tmps).run P w' = .ok v w' ∧ Ret w Z0 T cx' w' ∧ Rep cx' r v := by
    refine ⟨_, outCx cx F.w0 F.Z0 w' t0 T, hr, ?_, (pack_rep (outA_rep hc hprot ht0 hrep h2)).sub h3⟩
    refine { h := rfl, tk := rfl, U := rfl, Zlt := fun b hb => hb.1, Znew := fun b hb => hb.2.1, tok := fun T0 hT => ?_, below := hbelow }
    cases t0 with
    | none => rw [hT] at h4; cases h4
    | some t =>
      obtain ⟨T1, q1, q2, q3⟩ := h4
      rw [hT] at q3
      cases q3
      rw [← hc.tk] at q1
      refine ⟨rfl, fun hρ => hc.none_ t T1 q1 hρ, fun b hρ => ⟨?_, ?_, fun hz => hz.2.2 t rfl hρ⟩⟩
      · obtain ⟨arr, el, fz, f1, f2, f3, f4, f5⟩ := hc.row t T1 b q1 hρ
        refine ⟨arr, el, fz, by (show w'.heap[b]? = _); rw [← hc.h]; exact f1, f2, f3, f4, fun i x v hx hv => ?_⟩
        refine (f5 i x v hx hv).move (closedL_get q2 hx) (.inl fun b' hb' => ⟨⟨hc.Zlt b' hb', hc.Zplain hprot b' hb', fun t' e1 e2 => ?_⟩, by show w'.heap[b']? = _; rw [hc.h]⟩)
        cases e1
        exact hc.apart t T1 b' q1 e2 hb'
      · rcases Nat.lt_or_ge b w.heap.size with hlt | hge
        · exact absurd hlt (hc.free t T1 b q1 hρ)
        · exact hge
  obtain ⟨v, cx', g1, g2, g3⟩ := hfin
  rcases he with rfl | rfl
  · exact ⟨hc.defers, v, g1, v, cx', rfl, g2, g3⟩
  · exact ⟨hc.defers, v, g1, v, cx', rfl, g2, g3⟩
end Go.Eng

/- The engine, part 14: regions that draw their order. For every program. -/
set_option linter.unusedVariables false
namespace Go.Eng
open Go.RowKit

variable {P : Program} {N : Nat} {F : Fr} {s s' s1 s2 t t' : AS} {cx : Cx} {a : Act} {w : World} {m m1 m2 : M} {R R1 R2 W W1 W2 : List Nat}

/-! ### What a step looks at and what it changes -/
inductive M.RunsF (P : Program) : M → AS → AS → List Nat → List Nat → Prop
  | ret (s : AS) : RunsF P .ret s s [] []
  | getE (i : Nat) (k : AV → M) (s s' : AS) (R W : List Nat) (h : RunsF P (k (s.env i)) s s' R W) : RunsF P (.getE i k) s s' (2 * i :: R) W
  | getT (t : Nat) (k : Option Tok → M) (s s' : AS) (R W : List Nat) (h : RunsF P (k (s.tk t)) s s' R W) : RunsF P (.getT t k) s s' ((2 * t + 1) :: R) W
  | putE (i : Nat) (x : AV) (k : M) (s s' : AS) (R W : List Nat) (h : RunsF P k (s.setE i x) s' R W) : RunsF P (.putE i x k) s s' R (2 * i :: W)
  | putT (t : Nat) (T : Tok) (k : M) (s s' : AS) (R W : List Nat) (h : RunsF P k (s.setT t T) s' R W) : RunsF P (.putT t T k) s s' R ((2 * t + 1) :: W)
  | call (b : Bool) (f : FuncId) (args : List AV) (N : Nat) (dst : Option Tmp) (st : Nat) (s s' : AS) (R W : List Nat) (r : AV) (T : Option Tok) (hc : ACallX P f args r T)
      (hb : b = true → r.noSl = true ∧ ∀ T0, T = some T0 → noSlL T0.cs = true) (h : RunsF P (back N dst st r T) s s' R W) : RunsF P (.call b f args N dst st) s s' R W
theorem M.RunsF.runs (h : m.RunsF P s s' R W) : m.Runs P s s' := by
  induction h with
  | ret s => exact .ret s
  | getE i k s s' R W h ih => exact .getE i k s s' ih
  | getT i k s s' R W h ih => exact .getT i k s s' ih
  | putE i x k s s' R W h ih => exact .putE i x k s s' ih
  | putT i x k s s' R W h ih => exact .putT i x k s s' ih
  | call b f args N dst st s s' R W r T hc hb h ih => exact .call b f args N dst st s s' r T hc hb ih
def Agree (R : List Nat) (s t : AS) : Prop := (∀ i, 2 * i ∈ R → s.env i = t.env i) ∧ (∀ i, 2 * i + 1 ∈ R → s.tk i = t.tk i)
theorem Agree.tail {x : Nat} (h : Agree (x :: R) s t) : Agree R s t := ⟨fun i hi => h.1 i (.tail _ hi), fun i hi => h.2 i (.tail _ hi)⟩
theorem Agree.setE (h : Agree R s t) (i : Nat) (x : AV) : Agree R (s.setE i x) (t.setE i x) := by
  refine ⟨fun j hj => ?_, h.2⟩
  show (if j = i then x else s.env j) = (if j = i then x else t.env j)
  split
  · rfl
  · exact h.1 j hj
theorem Agree.setT (h : Agree R s t) (i : Nat) (x : Tok) : Agree R (s.setT i x) (t.setT i x) := by
  refine ⟨h.1, fun j hj => ?_⟩
  show (if j = i then some x else s.tk j) = (if j = i then some x else t.tk j)
  split
  · rfl
  · exact h.2 j hj
/-- From s to s' and from t to t' the same is written, and nothing else. -/
structure Same (W : List Nat) (s s' t t' : AS) : Prop where
  wE : ∀ i, 2 * i ∈ W → t'.env i = s'.env i
  wT : ∀ i, 2 * i + 1 ∈ W → t'.tk i = s'.tk i
  sE : ∀ i, 2 * i ∉ W → s'.env i = s.env i
  sT : ∀ i, 2 * i + 1 ∉ W → s'.tk i = s.tk i
  tE : ∀ i, 2 * i ∉ W → t'.env i = t.env i
  tT : ∀ i, 2 * i + 1 ∉ W → t'.tk i = t.tk i
  sn : s'.nx = s.nx
  tn : t'.nx = t.nx
theorem Same.putE {i : Nat} {x : AV} (h : Same W (s.setE i x) s' (t.setE i x) t') : Same (2 * i :: W) s s' t t' := by
  refine ⟨fun j hj => ?_, fun j hj => ?_, fun j hj => ?_, fun j hj => ?_, fun j hj => ?_, fun j hj => ?_, h.sn, h.tn⟩
  · by_cases hw : 2 * j ∈ W
    · exact h.wE j hw
    · have : j = i := (List.mem_cons.1 hj).elim (fun e => by omega) (fun e => absurd e hw)
      subst this
      rw [h.sE j hw, h.tE j hw]; simp [AS.setE]
  · have : 2 * j + 1 ∈ W := (List.mem_cons.1 hj).elim (fun e => by omega) id
    exact h.wT j this
  · have h1 : 2 * j ∉ W := fun e => hj (.tail _ e)
    have h2 : j ≠ i := fun e => hj (by rw [e]; exact .head _)
    rw [h.sE j h1]; simp [AS.setE, h2]
  · exact h.sT j fun e => hj (.tail _ e)
  · have h1 : 2 * j ∉ W := fun e => hj (.tail _ e)
    have h2 : j ≠ i := fun e => hj (by rw [e]; exact .head _)
    rw [h.tE j h1]; simp [AS.setE, h2]
  · exact h.tT j fun e => hj (.tail _ e)
theorem Same.putT {i : Nat} {x : Tok} (h : Same W (s.setT i x) s' (t.setT i x) t') : Same ((2 * i + 1) :: W) s s' t t' := by
  refine ⟨fun j hj => ?_, fun j hj => ?_, fun j hj => ?_, fun j hj => ?_, fun j hj => ?_, fun j hj => ?_, h.sn, h.tn⟩
  · have : 2 * j ∈ W := (List.mem_cons.1 hj).elim (fun e => by omega) id
    exact h.wE j this
  · by_cases hw : 2 * j + 1 ∈ W
    · exact h.wT j hw
    · have : j = i := (List.mem_cons.1 hj).elim (fun e => by omega) (fun e => absurd e hw)
      subst this
      rw [h.sT j hw, h.tT j hw]; simp [AS.setT]
  · exact h.sE j fun e => hj (.tail _ e)
  · have h1 : 2 * j + 1 ∉ W := fun e => hj (.tail _ e)
    have h2 : j ≠ i := fun e => hj (by rw [e]; exact .head _)
    rw [h.sT j h1]; simp [AS.setT, h2]
  · exact h.tE j fun e => hj (.tail _ e)
  · have h1 : 2 * j + 1 ∉ W := fun e => hj (.tail _ e)
    have h2 : j ≠ i := fun e => hj (by rw [e]; exact .head _)
    rw [h.tT j h1]; simp [AS.setT, h2]
theorem runsF_from (h : m.RunsF P s s' R W) : ∀ {t : AS}, Agree R s t → ∃ t', m.RunsF P t t' R W ∧ Same W s s' t t' := by
  induction h with
  | ret s => intro t _; exact ⟨t, .ret t, ⟨fun i h => (by cases h), fun i h => (by cases h), fun _ _ => rfl, fun _ _ => rfl, fun _ _ => rfl, fun _ _ => rfl, rfl, rfl⟩⟩
  | getE i k s s' R W h ih =>
    intro t ha
    obtain ⟨t', h1, h2⟩ := ih ha.tail
    refine ⟨t', .getE i k t t' R W ?_, h2⟩
    rw [← ha.1 i (.head _)]; exact h1
  | getT i k s s' R W h ih =>
    intro t ha
    obtain ⟨t', h1, h2⟩ := ih ha.tail
    refine ⟨t', .getT i k t t' R W ?_, h2⟩
    rw [← ha.2 i (.head _)]; exact h1
  | putE i x k s s' R W h ih =>
    intro t ha
    obtain ⟨t', h1, h2⟩ := ih (ha.setE i x)
    exact ⟨t', .putE i x k t t' R W h1, h2.putE⟩
  | putT i x k s s' R W h ih =>
    intro t ha
    obtain ⟨t', h1, h2⟩ := ih (ha.setT i x)
    exact ⟨t', .putT i x k t t' R W h1, h2.putT⟩
  | call b f args N dst st s s' R W r T hc hb h ih =>
    intro t ha
    obtain ⟨t', h1, h2⟩ := ih ha
    exact ⟨t', .call b f args N dst st t t' R W r T hc hb h1, h2⟩
theorem runsF_self (h : m.RunsF P s s' R W) : Same W s s' s s' := by
  induction h with
  | ret s => exact ⟨fun i h => (by cases h), fun i h => (by cases h), fun _ _ => rfl, fun _ _ => rfl, fun _ _ => rfl, fun _ _ => rfl, rfl, rfl⟩
  | getE i k s s' R W h ih => exact ih
  | getT i k s s' R W h ih => exact ih
  | putE i x k s s' R W h ih => exact ih.putE
  | putT i x k s s' R W h ih => exact ih.putT
  | call b f args N dst st s s' R W r T hc hb h ih => exact ih
/-- Neither changes what the other looks at or changes. -/
def indep (x y : List Nat × List Nat) : Bool := x.2.all (fun c => !(y.1.contains c) && !(y.2.contains c)) && y.2.all (fun c => !(x.1.contains c))
theorem indep_spec {x y : List Nat × List Nat} (h : indep x y = true) : (∀ c ∈ x.2, c ∉ y.1 ∧ c ∉ y.2) ∧ (∀ c ∈ y.2, c ∉ x.1) := by
  simp only [indep, Bool.and_eq_true, List.all_eq_true, Bool.not_eq_true', List.contains_eq_mem, decide_eq_false_iff_not] at h
  exact h
theorem AS.ext' {s t : AS} (h1 : ∀ i, s.env i = t.env i) (h2 : ∀ i, s.tk i = t.tk i) (h3 : s.nx = t.nx) : s = t := by
  cases s; cases t
  simp only at h1 h2 h3
  rw [funext h1, funext h2, h3]
theorem diamond (h1 : m1.RunsF P s s1 R1 W1) (h2 : m2.RunsF P s1 s2 R2 W2) (hi : indep (R1, W1) (R2, W2) = true) : ∃ s3, m2.RunsF P s s3 R2 W2 ∧ m1.RunsF P s3 s2 R1 W1 := by
  obtain ⟨hA, hB⟩ := indep_spec hi
  have q1 := runsF_self h1
  have q2 := runsF_self h2
  have a1 : Agree R2 s1 s := ⟨fun i hr => q1.sE i fun hw => (hA _ hw).1 hr, fun i hr => q1.sT i fun hw => (hA _ hw).1 hr⟩
  obtain ⟨s3, r3, p3⟩ := runsF_from h2 a1
  have a2 : Agree R1 s s3 := ⟨fun i hr => (p3.tE i fun hw => hB _ hw hr).symm, fun i hr => (p3.tT i fun hw => hB _ hw hr).symm⟩
  obtain ⟨s4, r4, p4⟩ := runsF_from h1 a2
  have : s4 = s2 := by
    refine AS.ext' (fun i => ?_) (fun i => ?_) (by rw [p4.tn, p3.tn, q2.sn, q1.sn])
    · by_cases w1 : 2 * i ∈ W1
      · rw [p4.wE i w1, q2.sE i (hA _ w1).2]
      · rw [p4.tE i w1]
        by_cases w2 : 2 * i ∈ W2
        · exact p3.wE i w2
        · rw [p3.tE i w2, q2.sE i w2, q1.sE i w1]
    · by_cases w1 : 2 * i + 1 ∈ W1
      · rw [p4.wT i w1, q2.sT i (hA _ w1).2]
      · rw [p4.tT i w1]
        by_cases w2 : 2 * i + 1 ∈ W2
        · exact p3.wT i w2
        · rw [p3.tT i w2, q2.sT i w2, q1.sT i w1]
  subst this
  exact ⟨s3, r3, r4⟩

/-! ### Guarded operations as programs -/
def skipM (N : Nat) (o : Oper) : M :=
  match o.dst with
  | some d => if d < N then .putE d (.tup []) .ret else .fail
  | none => .ret
def gop (P : Program) (N : Nat) (ops : Array Oper) (st : Nat) (o : Oper) : M :=
  match o.guard with
  | none => aop P N st o
  | some (j, want) => match (ops[j]?).bind (·.dst) with
    | some d => if d < N then .getE d fun x => (match x with
      | .bool b => if b == want then aop P N st o else skipM N o
      | .tup [] => skipM N o
      | _ => .fail) else .fail
    | none => .fail
theorem skipM_runs {o : Oper} (h : (skipM N o).Runs P s s1) : match o.dst with | some d => d < N ∧ s1 = s.setE d (.tup []) | none => s1 = s := by
  unfold skipM at h
  cases hd : o.dst with
  | none => rw [hd] at h; cases h; rfl
  | some d =>
    rw [hd] at h
    simp only at h ⊢
    split at h
    · rename_i hlt
      cases h with
      | putE _ _ _ _ _ h => cases h; exact ⟨hlt, rfl⟩
    · cases h
theorem gop_runs {ops : Array Oper} {st : Nat} {o : Oper} (h : (gop P N ops st o).Runs P s s1) :
    ∃ b, wanted? N ops o s = some b ∧ if b = true then (aop P N st o).Runs P s s1 else (match o.dst with | some d => d < N ∧ s1 = s.setE d (.tup []) | none => s1 = s) := by
  unfold gop at h
  unfold wanted?
  cases hg : o.guard with
  | none => rw [hg] at h; exact ⟨true, rfl, h⟩
  | some q =>
    obtain ⟨j, want⟩ := q
    rw [hg] at h
    simp only at h ⊢
    cases hd : (ops[j]?).bind (·.dst) with
    | none => rw [hd] at h; cases h
    | some d =>
      rw [hd] at h
      simp only at h ⊢
      split at h
      · rename_i hlt
        rw [if_pos hlt]
        cases h with
        | getE _ _ _ _ h =>
          cases he : s.env d with
          | bool b =>
            rw [he] at h
            simp only at h ⊢
            refine ⟨b == want, rfl, ?_⟩
            split at h
            · rename_i hb; rw [if_pos hb]; exact h
            · rename_i hb; rw [if_neg hb]; exact skipM_runs h
          | tup l =>
            rw [he] at h
            cases l with
            | nil => exact ⟨false, rfl, by simpa using skipM_runs h⟩
            | cons => cases h
          | _ => rw [he] at h; cases h
      · cases h
theorem op_step' {ops : Array Oper} {o : Oper} {st : Nat} {Q : Exit → Act → World → Prop} {K : Act → World → Prop} {i : Nat} (ho : ops[i]? = some o) {U : Nat → Prop} (hst : ¬ U st) {s1 : AS} (hs : Sim N F U s a w)
    (hr : (gop P N ops st o).Runs P s s1) (hn : ∀ a' w', Sim N F (fun g => U g ∨ g = st) s1 a' w' → K a' w') : wpOp P ops Q i K a w := by
  obtain ⟨cx, rfl, hs⟩ := hs
  obtain ⟨b, hb, hr⟩ := gop_runs hr
  have hwd := wanted_eq hs hb
  simp only [wpOp, ho]
  cases b with
  | true =>
    rw [hwd]
    simp only [if_true] at hr ⊢
    left
    exact snd_all st o F s s1 cx a w _ Q hr hst hs hn
  | false =>
    rw [hwd]
    simp only [Bool.false_eq_true, if_false] at hr ⊢
    cases hd : o.dst with
    | none => rw [hd] at hr; simp only at hr; subst hr; exact hn _ _ (Sim.moreU ⟨cx, rfl, hs⟩ fun g hg => .inl hg)
    | some d =>
      rw [hd] at hr
      obtain ⟨hlt, rfl⟩ := hr
      exact hn _ _ (Sim.moreU ⟨cx, rfl, hs.putE hlt (.tup [] #[] rfl (by simp))⟩ fun g hg => .inl hg)

/-! ### A run in the order of the text, and in every other -/
abbrev Foot := List Nat × List Nat
inductive TraceF (P : Program) (N : Nat) (ops : Array Oper) (nx : Nat) : List (Nat × Foot) → AS → AS → Prop
  | nil (s : AS) : TraceF P N ops nx [] s s
  | cons (i : Nat) (f : Foot) (l : List (Nat × Foot)) (s s1 s' : AS) (o : Oper) (ho : ops[i]? = some o) (h : (gop P N ops (nx + i) o).RunsF P s s1 f.1 f.2) (r : TraceF P N ops nx l s1 s') : TraceF P N ops nx ((i, f) :: l) s s'
theorem trace_front {ops : Array Oper} {nx : Nat} {x : Nat × Foot} {l2 : List (Nat × Foot)} : ∀ {l1 : List (Nat × Foot)} {s s' : AS}, TraceF P N ops nx (l1 ++ x :: l2) s s' → (∀ y ∈ l1, indep y.2 x.2 = true) →
    ∃ s1 o, ops[x.1]? = some o ∧ (gop P N ops (nx + x.1) o).RunsF P s s1 x.2.1 x.2.2 ∧ TraceF P N ops nx (l1 ++ l2) s1 s'
  | [], s, s', h, _ => by
    cases h with
    | cons i f l s s1 s' o ho h r => exact ⟨s1, o, ho, h, r⟩
  | y :: l1, s, s', h, hi => by
    cases h with
    | cons i f l s sa s' o ho h r =>
      obtain ⟨sb, ox, hox, hx, hr⟩ := trace_front r fun y hy => hi y (.tail _ hy)
      obtain ⟨sc, h1, h2⟩ := diamond h hx (hi _ (.head _))
      exact ⟨sc, ox, hox, h1, .cons i f _ sc sb s' o ho h2 hr⟩

def ordered (ops : Array Oper) : Nat → Nat → Nat → Bool
  | 0, _, _ => false
  | n + 1, y, i => match ops[i]? with
    | some o => o.after.any fun e => Region.binds .any e && (e.on == y || ordered ops n y e.on)
    | none => false
theorem binds_any {md : Region.Mode} {e : Edge} (h : Region.binds .any e = true) : Region.binds md e = true := by
  unfold Region.binds at *
  cases he : e.ground <;> rw [he] at h <;> first | rfl | (cases h)
def Closed (md : Region.Mode) (ops : Array Oper) (listed : Array Bool) : Prop := ∀ (i : Nat) (o : Oper), listed.getD i false = true → ops[i]? = some o → ∀ e ∈ o.after, Region.binds md e = true → listed.getD e.on false = true
theorem ordered_listed {md : Region.Mode} {ops : Array Oper} {listed : Array Bool} (hc : Closed md ops listed) : ∀ (n y i : Nat), ordered ops n y i = true → (∀ o, ops[i]? = some o → ∀ e ∈ o.after, Region.binds md e = true → listed.getD e.on false = true) → listed.getD y false = true
  | 0, y, i, h, _ => by cases h
  | n + 1, y, i, h, hi => by
    unfold ordered at h
    cases ho : ops[i]? with
    | none => rw [ho] at h; cases h
    | some o =>
      rw [ho] at h
      simp only [Array.any_eq_true'] at h
      obtain ⟨e, he, hh⟩ := h
      rw [Bool.and_eq_true, Bool.or_eq_true] at hh
      have hl := hi o ho e he (binds_any hh.1)
      rcases hh.2 with h1 | h1
      · rw [← eq_of_beq h1]; exact hl
      · exact ordered_listed hc n y e.on h1 fun o' ho' => hc e.on o' hl ho'
/-- What holds the order of two steps, where they are not apart. -/
def okPair (ops : Array Oper) (y x : Nat × Foot) : Bool := ordered ops ops.size y.1 x.1 || indep y.2 x.2
def okTr (ops : Array Oper) (l : List (Nat × Foot)) : Bool :=
  (match l with
  | [] => true
  | x :: r => r.all (fun y => okPair ops x y) && okTr ops r)
theorem okTr_pairwise {ops : Array Oper} : ∀ {l : List (Nat × Foot)}, okTr ops l = true → l.Pairwise (fun y x => okPair ops y x = true)
  | [], _ => .nil
  | x :: r, h => by
    simp only [okTr, Bool.and_eq_true, List.all_eq_true] at h
    exact .cons (fun y hy => h.1 y hy) (okTr_pairwise h.2)
def okOps (ops : Array Oper) : Bool := (List.range ops.size).all fun i => match ops[i]? with | some o => o.after.all fun e => !Region.binds .any e || decide (e.on < i) | none => true
theorem okOps_spec {ops : Array Oper} (h : okOps ops = true) {i : Nat} {o : Oper} (ho : ops[i]? = some o) : ∀ e ∈ o.after, Region.binds .any e = true → e.on < i := by
  intro e he hb
  have hlt : i < ops.size := (Array.getElem?_eq_some_iff.1 ho).1
  simp only [okOps, List.all_eq_true, List.mem_range] at h
  have := h i hlt
  rw [ho] at this
  simp only [Array.all_eq_true_iff_forall_mem, Bool.or_eq_true, Bool.not_eq_true', decide_eq_true_eq] at this
  exact (this e he).resolve_left (by rw [hb]; simp)

theorem sched {ops : Array Oper} {Q : Exit → Act → World → Prop} {nx : Nat} (hops : okOps ops = true) {s' : AS} (hK : ∀ a w, Sim N F (fun g => g < nx + ops.size) s' a w → Q .normal a w) :
    ∀ (fuel : Nat) (listed : Array Bool) (l : List (Nat × Foot)) (s : AS) (a : Act) (w : World), l.length = fuel → listed.size = ops.size → (∀ i, listed.getD i true = false ↔ i ∈ l.map (·.1)) → Closed Region.Mode.any ops listed →
      TraceF P N ops nx l s s' → l.Pairwise (fun y x => okPair ops y x = true) → l.Pairwise (fun y x => y.1 < x.1) → Sim N F (fun g => g < nx ∨ ∃ j, j < ops.size ∧ j ∉ l.map (·.1) ∧ g = nx + j) s a w → wpAny P Region.Mode.any ops Q fuel listed a w
  | 0, listed, l, s, a, w, hl, hsz, hli, hc, htr, hp, hlt, hs => by
    have : l = [] := List.eq_nil_of_length_eq_zero hl
    subst this
    cases htr
    refine ⟨?_, hK a w (Sim.moreU hs fun g hg => ?_)⟩
    · cases hr : Region.ready Region.Mode.any ops listed with
      | nil => rfl
      | cons x xs =>
        have : x ∈ Region.ready Region.Mode.any ops listed := by rw [hr]; exact .head _
        have := (hli x).1 (mem_ready.1 this).1
        cases this
    · rcases hg with hg | ⟨j, h1, _, h3⟩ <;> omega
  | fuel + 1, listed, l, s, a, w, hl, hsz, hli, hc, htr, hp, hlt, hs => by
    refine ⟨fun hr => ?_, fun i hi => ?_⟩
    · exfalso
      cases l with
      | nil => cases hl
      | cons x r =>
        cases htr with
        | cons i f _ _ s1 _ o ho h rr =>
          have : i ∈ Region.ready Region.Mode.any ops listed := by
            rw [mem_ready]
            refine ⟨(hli i).2 (.head _), o, ho, fun e he hb => ?_⟩
            have h1 := okOps_spec hops ho e he hb
            have h2 : i < ops.size := (Array.getElem?_eq_some_iff.1 ho).1
            have h3 : e.on ∉ ((i, f) :: r).map (·.1) := by
              intro hm
              rcases List.mem_cons.1 hm with h4 | h4
              · simp only at h4; omega
              · obtain ⟨y, hy, h5⟩ := List.mem_map.1 h4
                have := (List.pairwise_cons.1 hlt).1 y hy
                simp only at this
                omega
            have h4 : ¬ listed.getD e.on true = false := fun h => h3 ((hli _).1 h)
            have h5 : e.on < listed.size := by omega
            simp [h5] at h4 ⊢
            exact h4
          rw [hr] at this
          cases this
    · obtain ⟨hun, o, ho, hafter⟩ := mem_ready.1 hi
      have hmem := (hli i).1 hun
      obtain ⟨x, hx, hxi⟩ := List.mem_map.1 hmem
      subst hxi
      obtain ⟨l1, l2, rfl⟩ := List.append_of_mem hx
      rw [List.pairwise_append] at hp hlt
      have hind : ∀ y ∈ l1, indep y.2 x.2 = true := by
        intro y hy
        have h1 := hp.2.2 y hy x (.head _)
        rw [okPair, Bool.or_eq_true] at h1
        rcases h1 with h1 | h1
        · exfalso
          have h2 := ordered_listed hc _ _ _ h1 (fun o' ho' => by rw [ho] at ho'; cases ho'; exact hafter)
          have h3 := (hli y.1).2 (List.mem_map.2 ⟨y, List.mem_append_left _ hy, rfl⟩)
          rcases Nat.lt_or_ge y.1 listed.size with h4 | h4
          · simp [h4] at h2 h3; rw [h2] at h3; cases h3
          · simp [Array.getElem?_eq_none h4] at h2
        · exact h1
      obtain ⟨s1, o', ho', hrun, hrest⟩ := trace_front htr hind
      rw [ho] at ho'
      cases ho'
      have hi_lt : x.1 < ops.size := (Array.getElem?_eq_some_iff.1 ho).1
      have hne1 : ∀ y ∈ l1, y.1 < x.1 := fun y hy => hlt.2.2 y hy x (.head _)
      have hne2 : ∀ y ∈ l2, x.1 < y.1 := fun y hy => (List.pairwise_cons.1 hlt.2.1).1 y hy
      have hxn : x.1 ∉ (l1 ++ l2).map (·.1) := by
        intro hm
        obtain ⟨y, hy, h5⟩ := List.mem_map.1 hm
        rcases List.mem_append.1 hy with h6 | h6
        · have := hne1 y h6; omega
        · have := hne2 y h6; omega
      have hsub : ∀ j, j ∈ (l1 ++ x :: l2).map (·.1) ↔ j = x.1 ∨ j ∈ (l1 ++ l2).map (·.1) := by
        intro j
        simp only [List.map_append, List.map_cons, List.mem_append, List.mem_cons]
        constructor
        · rintro (h | h | h)
          · exact .inr (.inl h)
          · exact .inl h
          · exact .inr (.inr h)
        · rintro (h | h | h)
          · exact .inr (.inl h)
          · exact .inl h
          · exact .inr (.inr h)
      refine op_step' ho (U := fun g => g < nx ∨ ∃ j, j < ops.size ∧ j ∉ (l1 ++ x :: l2).map (·.1) ∧ g = nx + j) ?_ hs hrun.runs fun a' w' hs' => ?_
      · rintro (h | ⟨j, h1, h2, h3⟩)
        · omega
        · have : j = x.1 := by omega
          exact h2 ((hsub j).2 (.inl this))
      · refine sched hops hK fuel _ (l1 ++ l2) s1 a' w' ?_ (by simp [hsz]) (fun j => ?_) ?_ hrest ?_ ?_ (Sim.moreU hs' fun g hg => ?_)
        · simp only [List.length_append, List.length_cons] at hl ⊢; omega
        · by_cases hj : x.1 = j
          · subst hj
            have h4 : x.1 < listed.size := by omega
            simp only [Array.getD_eq_getD_getElem?, Array.getElem?_setIfInBounds_self]
            simp [h4]
            simpa using hxn
          · rw [getD_set_ne true hj, hli j, hsub j]
            constructor
            · rintro (h | h)
              · exact absurd h.symm hj
              · exact h
            · exact .inr
        · intro j oj hj hoj e he hb
          by_cases hji : x.1 = j
          · subst hji
            rw [ho] at hoj
            cases hoj
            exact getD_set_true (hafter e he hb)
          · rw [getD_set_ne false hji] at hj
            exact getD_set_true (hc j oj hj hoj e he hb)
        · rw [List.pairwise_append]
          exact ⟨hp.1, (List.pairwise_cons.1 hp.2.1).2, fun y hy z hz => hp.2.2 y hy z (.tail _ hz)⟩
        · rw [List.pairwise_append]
          exact ⟨hlt.1, (List.pairwise_cons.1 hlt.2.1).2, fun y hy z hz => hlt.2.2 y hy z (.tail _ hz)⟩
        · rcases hg with (hg | ⟨j, h1, h2, h3⟩) | hg
          · exact .inl hg
          · exact .inr ⟨j, h1, fun hm => h2 ((hsub j).2 (.inr hm)), h3⟩
          · exact .inr ⟨x.1, hi_lt, hxn, hg⟩

/-! ### Running with an eye on what is looked at -/
def CallWpF (P : Program) (b : Bool) (f : FuncId) (args : List AV) (N : Nat) (dst : Option Tmp) (st : Nat) (s : AS) (K : AS → Foot → Prop) : Prop :=
  ∃ r T s' R W, ACallX P f args r T ∧ (b = true → r.noSl = true ∧ ∀ T0, T = some T0 → noSlL T0.cs = true) ∧ (back N dst st r T).RunsF P s s' R W ∧ K s' (R, W)
def M.wpF (P : Program) : M → AS → (AS → Foot → Prop) → Prop
  | .ret, s, K => K s ([], [])
  | .fail, _, _ => False
  | .getE i k, s, K => (k (s.env i)).wpF P s fun s' f => K s' (2 * i :: f.1, f.2)
  | .getT t k, s, K => (k (s.tk t)).wpF P s fun s' f => K s' ((2 * t + 1) :: f.1, f.2)
  | .putE i x k, s, K => k.wpF P (s.setE i x) fun s' f => K s' (f.1, 2 * i :: f.2)
  | .putT t T k, s, K => k.wpF P (s.setT t T) fun s' f => K s' (f.1, (2 * t + 1) :: f.2)
  | .call b f args N dst st, s, K => CallWpF P b f args N dst st s K
theorem M.wpF_runs : ∀ {m : M} {s : AS} {K : AS → Foot → Prop}, m.wpF P s K → ∃ s' R W, m.RunsF P s s' R W ∧ K s' (R, W)
  | .ret, s, K, h => ⟨s, [], [], .ret s, h⟩
  | .fail, _, _, h => h.elim
  | .getE i k, s, K, h => let ⟨s', R, W, r, hk⟩ := M.wpF_runs (m := k (s.env i)) h; ⟨s', _, _, .getE i k s s' R W r, hk⟩
  | .getT t k, s, K, h => let ⟨s', R, W, r, hk⟩ := M.wpF_runs (m := k (s.tk t)) h; ⟨s', _, _, .getT t k s s' R W r, hk⟩
  | .putE i x k, s, K, h => let ⟨s', R, W, r, hk⟩ := M.wpF_runs (m := k) h; ⟨s', _, _, .putE i x k s s' R W r, hk⟩
  | .putT t T k, s, K, h => let ⟨s', R, W, r, hk⟩ := M.wpF_runs (m := k) h; ⟨s', _, _, .putT t T k s s' R W r, hk⟩
  | .call b f args N dst st, s, K, h => let ⟨r, T, s', R, W, hc, hb, rr, hk⟩ := h; ⟨s', R, W, .call b f args N dst st s s' R W r T hc hb rr, hk⟩
/-- A call is met by its contract. -/
theorem call_introF {b : Bool} {f : FuncId} {args : List AV} {N : Nat} {dst : Option Tmp} {st : Nat} {s : AS} {K : AS → Foot → Prop} {r : AV} {T : Option Tok} (hc : ACall P f args r T)
    (hb : b = true → r.noSl = true ∧ ∀ T0, T = some T0 → noSlL T0.cs = true) (h : (back N dst st r T).wpF P s K) : CallWpF P b f args N dst st s K :=
  let ⟨s', R, W, rr, hk⟩ := M.wpF_runs h
  ⟨r, T, s', R, W, .inl hc, hb, rr, hk⟩
theorem call_introFX {b : Bool} {f : FuncId} {args : List AV} {N : Nat} {dst : Option Tmp} {st : Nat} {s : AS} {K : AS → Foot → Prop} {r : AV} {T : Option Tok} (hc : XCall P f args r T)
    (hb : b = true → r.noSl = true ∧ ∀ T0, T = some T0 → noSlL T0.cs = true) (h : (back N dst st r T).wpF P s K) : CallWpF P b f args N dst st s K :=
  let ⟨s', R, W, rr, hk⟩ := M.wpF_runs h
  ⟨r, T, s', R, W, .inr hc, hb, rr, hk⟩
def OpsWpD (P : Program) (N : Nat) (ops : Array Oper) : List Oper → Nat → Nat → List (Nat × Foot) → (AS → Prop) → AS → Prop
  | [], _, _, tr, K, s => okTr ops tr.reverse = true ∧ K s
  | o :: r, st, i, tr, K, s =>
    match o.guard with
    | none => (aop P N st o).wpF P s fun s f => OpsWpD P N ops r (st + 1) (i + 1) ((i, f) :: tr) K s
    | some (j, want) => match (ops[j]?).bind (·.dst) with
      | some d => if d < N then GWp (s.env d) d want (fun s => (aop P N st o).wpF P s fun s f => OpsWpD P N ops r (st + 1) (i + 1) ((i, (2 * d :: f.1, f.2)) :: tr) K s)
          (fun s => (skipM N o).wpF P s fun s f => OpsWpD P N ops r (st + 1) (i + 1) ((i, (2 * d :: f.1, f.2)) :: tr) K s) s else False
      | none => False
theorem opsWpD_cons {ops : Array Oper} {o : Oper} {r : List Oper} {st i : Nat} {tr : List (Nat × Foot)} {K : AS → Prop} {s : AS} (h : OpsWpD P N ops (o :: r) st i tr K s) :
    ∃ s1 R W, (gop P N ops st o).RunsF P s s1 R W ∧ OpsWpD P N ops r (st + 1) (i + 1) ((i, (R, W)) :: tr) K s1 := by
  unfold OpsWpD at h
  unfold gop
  cases hg : o.guard with
  | none => rw [hg] at h; exact M.wpF_runs h
  | some q =>
    obtain ⟨j, want⟩ := q
    rw [hg] at h
    simp only at h ⊢
    cases hd : (ops[j]?).bind (·.dst) with
    | none => rw [hd] at h; exact h.elim
    | some d =>
      rw [hd] at h
      simp only at h ⊢
      split at h
      · rename_i hlt
        rw [if_pos hlt]
        unfold GWp at h
        cases he : s.env d with
        | bool b =>
          rw [he] at h
          simp only at h
          have hx : (if (b == want) = true then (aop P N st o).wpF P s fun s f => OpsWpD P N ops r (st + 1) (i + 1) ((i, (2 * d :: f.1, f.2)) :: tr) K s
              else (skipM N o).wpF P s fun s f => OpsWpD P N ops r (st + 1) (i + 1) ((i, (2 * d :: f.1, f.2)) :: tr) K s) := by
            cases b with
            | true =>
              have h1 := h.1 rfl
              rw [setE_same he] at h1
              cases want <;> simpa using h1
            | false =>
              have h1 := h.2 rfl
              rw [setE_same he] at h1
              cases want <;> simpa using h1
          split at hx
          · rename_i hb
            obtain ⟨s1, R, W, h1, h2⟩ := M.wpF_runs hx
            exact ⟨s1, _, _, .getE d _ s s1 R W (by rw [he]; simp only; rw [if_pos hb]; exact h1), h2⟩
          · rename_i hb
            obtain ⟨s1, R, W, h1, h2⟩ := M.wpF_runs hx
            exact ⟨s1, _, _, .getE d _ s s1 R W (by rw [he]; simp only; rw [if_neg hb]; exact h1), h2⟩
        | tup l =>
          rw [he] at h
          cases l with
          | nil =>
            obtain ⟨s1, R, W, h1, h2⟩ := M.wpF_runs h
            exact ⟨s1, _, _, .getE d _ s s1 R W (by rw [he]; exact h1), h2⟩
          | cons => exact h.elim
        | _ => rw [he] at h; exact h.elim
      · exact h.elim
theorem opsWpD_trace {ops : Array Oper} {K : AS → Prop} {nx : Nat} : ∀ {l : List Oper} {i : Nat} {tr : List (Nat × Foot)} {s : AS}, (∀ j, l[j]? = ops[i + j]?) → OpsWpD P N ops l (nx + i) i tr K s →
    ∃ t s', TraceF P N ops nx t s s' ∧ t.map (·.1) = List.range' i l.length ∧ okTr ops (tr.reverse ++ t) = true ∧ K s' ∧ s'.nx = s.nx
  | [], i, tr, s, hl, h => ⟨[], s, .nil s, rfl, by rw [List.append_nil]; exact h.1, h.2, rfl⟩
  | o :: l, i, tr, s, hl, h => by
    obtain ⟨s1, R, W, h1, h2⟩ := opsWpD_cons h
    obtain ⟨t, s', q1, q2, q3, q4, q5⟩ := opsWpD_trace (i := i + 1) (fun j => by
      have := hl (j + 1)
      rw [List.getElem?_cons_succ] at this
      rw [this]; congr 1; omega) h2
    have ho : ops[i]? = some o := by have := hl 0; simpa using this.symm
    refine ⟨(i, (R, W)) :: t, s', .cons i (R, W) t s s1 s' o ho h1 q1, ?_, ?_, q4, ?_⟩
    · rw [List.map_cons, q2, List.length_cons, List.range'_succ]
    · rw [List.reverse_cons, List.append_assoc] at q3; exact q3
    · rw [q5, nx_runs h1.runs]
/-- A region that draws its order. -/
theorem run_draw {id : Nat} {ops : Array Oper} {k : List It} {Q : AS → Prop} (h : P.follows .mixedOrders = true ∧ okOps ops = true ∧ OpsWpD P N ops ops.toList s.nx 0 [] (Run P N k Q) (s.bump ops.size)) : Run P N (.code (.region id ops true) :: k) Q s := by
  obtain ⟨hm, hops, h⟩ := h
  refine ⟨fun F a w hs => ?_⟩
  show (Code.region id ops true).wp P _ a w
  obtain ⟨t, s', q1, q2, q3, q4, q5⟩ := opsWpD_trace (nx := s.nx) (i := 0) (fun j => by simp) h
  rw [List.reverse_nil, List.nil_append] at q3
  rw [← List.range_eq_range', Array.length_toList] at q2
  have key : wpAny P .any ops (Kont P N F k (Fin N F Q)) ops.size (Array.replicate ops.size false) a { w with drawn := w.drawn + 1 } := by
    refine sched hops (s' := s') (nx := s.nx) (N := N) (F := F) (fun a' w' hs' => q4.out F a' w' ?_) ops.size _ t (s.bump ops.size) a _ ?_ (by simp) (fun i => ?_) ?_ q1 (okTr_pairwise q3) ?_ ?_
    · show Sim N F (fun g => g < s'.nx) s' a' w'
      rw [q5]; exact hs'
    · rw [← List.length_map (f := (·.1)), q2, List.length_range]
    · rw [q2, List.mem_range]
      rcases Nat.lt_or_ge i ops.size with h | h
      · simp [h]
      · simp [Nat.not_lt.2 h]
    · intro i o h1
      rcases Nat.lt_or_ge i ops.size with h | h
      · simp [h] at h1
      · simp [Nat.not_lt.2 h] at h1
    · have h5 : (t.map (·.1)).Pairwise (· < ·) := by rw [q2]; exact List.pairwise_lt_range
      exact List.pairwise_map.1 h5
    · obtain ⟨cx, hU, hc⟩ := hs
      exact Sim.moreU ⟨cx, hU, { hc with tk := hc.tk, env := hc.env, os := hc.os, tape := hc.tape, output := hc.output, h := hc.h, Zlt := hc.Zlt, grow := hc.grow, prot := hc.prot }⟩ fun g hg => .inl hg
  exact wp_region_any hm key
theorem wpF_imp {K K' : AS → Foot → Prop} {n : Nat} (hk : ∀ s f, s.nx = n → K s f → K' s f) : ∀ {m : M} {s : AS} {g : Foot → Foot}, s.nx = n → m.wpF P s (fun s f => K s (g f)) → m.wpF P s (fun s f => K' s (g f))
  | .ret, s, g, hn, h => hk s _ hn h
  | .fail, _, _, _, h => h
  | .getE i k, s, g, hn, h => wpF_imp hk (m := k (s.env i)) (g := fun f => g (2 * i :: f.1, f.2)) hn h
  | .getT i k, s, g, hn, h => wpF_imp hk (m := k (s.tk i)) (g := fun f => g ((2 * i + 1) :: f.1, f.2)) hn h
  | .putE i x k, s, g, hn, h => wpF_imp hk (m := k) (s := s.setE i x) (g := fun f => g (f.1, 2 * i :: f.2)) hn h
  | .putT i x k, s, g, hn, h => wpF_imp hk (m := k) (s := s.setT i x) (g := fun f => g (f.1, (2 * i + 1) :: f.2)) hn h
  | .call b f args N' dst st, s, g, hn, h => let ⟨r, T, s', R, W, h1, h2, h3, h4⟩ := h; ⟨r, T, s', R, W, h1, h2, h3, hk s' _ (by rw [nx_runs h3.runs, hn]) h4⟩
theorem opsWpD_imp {ops : Array Oper} {K K' : AS → Prop} {n : Nat} (hk : ∀ s, s.nx = n → K s → K' s) : ∀ {l : List Oper} {st i : Nat} {tr : List (Nat × Foot)} {s : AS}, s.nx = n → OpsWpD P N ops l st i tr K s → OpsWpD P N ops l st i tr K' s
  | [], st, i, tr, s, hn, h => ⟨h.1, hk s hn h.2⟩
  | o :: l, st, i, tr, s, hn, h => by
    have hr : ∀ (m : M) (g : Foot → Foot) s, s.nx = n → m.wpF P s (fun s f => OpsWpD P N ops l (st + 1) (i + 1) ((i, g f) :: tr) K s) → m.wpF P s (fun s f => OpsWpD P N ops l (st + 1) (i + 1) ((i, g f) :: tr) K' s) :=
      fun m g s hn h => wpF_imp (K := fun s f => OpsWpD P N ops l (st + 1) (i + 1) ((i, f) :: tr) K s) (K' := fun s f => OpsWpD P N ops l (st + 1) (i + 1) ((i, f) :: tr) K' s) (fun s f hn h => opsWpD_imp hk hn h) (g := g) hn h
    unfold OpsWpD at h ⊢
    cases hg : o.guard with
    | none => rw [hg] at h; exact hr _ id s hn h
    | some q =>
      obtain ⟨j, want⟩ := q
      rw [hg] at h
      simp only at h ⊢
      cases hd : (ops[j]?).bind (·.dst) with
      | none => rw [hd] at h; exact h.elim
      | some d =>
        rw [hd] at h
        simp only at h ⊢
        split at h
        · rename_i hlt; rw [if_pos hlt]; exact gwp_imp (hr _ fun f => (2 * d :: f.1, f.2)) (hr _ fun f => (2 * d :: f.1, f.2)) hn h
        · exact h.elim
end Go.Eng

/- The engine, part 15: running, step by step. For every program. -/
set_option linter.unusedVariables false
namespace Go.Eng
open Go.RowKit

variable {P : Program} {N : Nat} {F : Fr} {s s' : AS} {cx : Cx} {a : Act} {w : World}

/-- Many steps, as far as no loop and no call stands in the way. -/
def Ex (P : Program) (N : Nat) : Nat → List It → (AS → Prop) → AS → Prop
  | 0, k, Q, s => Run P N k Q s
  | n + 1, [], Q, s => Q s
  | n + 1, .inBlock _ :: k, Q, s => Ex P N n k Q s
  | n + 1, .back I :: k, Q, s => Run P N (.back I :: k) Q s
  | n + 1, .code c :: k, Q, s =>
    match c with
    | .skip => Ex P N n k Q s
    | .seq x y => Ex P N n (.code x :: .code y :: k) Q s
    | .block id c => Ex P N n (.code c :: .inBlock id :: k) Q s
    | .cond c x y => CondWp (condOf N s c) (Ex P N n (.code x :: k) Q s) (Ex P N n (.code y :: k) Q s)
    | .exit id => (match exitI id k with | some k' => Ex P N n k' Q s | none => False)
    | .ret => Q s
    | .region id ops false => OpsWp P N ops ops.toList s.nx (Ex P N n k Q) (s.bump ops.size)
    | .region id ops true => P.follows .mixedOrders = true ∧ okOps ops = true ∧ OpsWpD P N ops ops.toList s.nx 0 [] (Ex P N n k Q) (s.bump ops.size)
    | c => Run P N (.code c :: k) Q s
theorem CondWp.imp {q : Option Bool} {A B A' B' : Prop} (h : CondWp q A B) (ha : A → A') (hb : B → B') : CondWp q A' B' := by
  cases q with
  | none => exact h
  | some b => exact ⟨fun e => ha (h.1 e), fun e => hb (h.2 e)⟩
theorem OpsWp.imp {ops : Array Oper} {K K' : AS → Prop} (hk : ∀ s, K s → K' s) {l : List Oper} {st : Nat} {s : AS} (h : OpsWp P N ops l st K s) : OpsWp P N ops l st K' s := opsWp_imp_nx (n := s.nx) (fun s _ h => hk s h) rfl h
theorem ex_run : ∀ (n : Nat) {k : List It} {Q : AS → Prop} {s : AS}, Ex P N n k Q s → Run P N k Q s
  | 0, k, Q, s, h => h
  | n + 1, [], Q, s, h => run_nil h
  | n + 1, .inBlock _ :: k, Q, s, h => run_inBlock (ex_run n h)
  | n + 1, .back I :: k, Q, s, h => h
  | n + 1, .code c :: k, Q, s, h => by
    cases c with
    | skip => exact run_skip (ex_run n h)
    | seq x y => exact run_seq (ex_run n h)
    | block id c => exact run_block (ex_run n h)
    | cond c x y => exact run_cond (CondWp.imp h (fun h => ex_run n h) (fun h => ex_run n h))
    | exit id =>
      simp only [Ex] at h
      cases he : exitI id k with
      | none => rw [he] at h; exact h.elim
      | some k' => rw [he] at h; exact run_exit he (ex_run n h)
    | ret => exact run_ret h
    | region id ops draw =>
      cases draw with
      | false => exact run_region (OpsWp.imp (fun s h => ex_run n h) h)
      | true => exact run_draw ⟨h.1, h.2.1, opsWpD_imp (n := (s.bump ops.size).nx) (fun s _ h => ex_run n h) rfl h.2.2⟩
    | _ => exact h

/-! ### Rules for running -/
theorem condWp_congr {q q' : Option Bool} {A B : Prop} (h : q = q') : CondWp q A B = CondWp q' A B := by rw [h]
theorem condWp_true (A B : Prop) : CondWp (some true) A B = A := by simp [CondWp]
theorem condWp_false (A B : Prop) : CondWp (some false) A B = B := by simp [CondWp]
theorem condWp_decide (p : Prop) [Decidable p] (A B : Prop) : CondWp (some (decide p)) A B = ((p → A) ∧ (¬ p → B)) := by simp [CondWp]
theorem gwp_congr {x x' : AV} {d : Nat} {want : Bool} {A B : AS → Prop} {s : AS} (h : x = x') : GWp x d want A B s = GWp x' d want A B s := by rw [h]
theorem gwp_true {d : Nat} {want : Bool} {A B : AS → Prop} {s : AS} : GWp (.bool true) d want A B s = if want = true then A (s.setE d (.bool true)) else B (s.setE d (.bool true)) := by simp [GWp]
theorem gwp_false {d : Nat} {want : Bool} {A B : AS → Prop} {s : AS} : GWp (.bool false) d want A B s = if want = true then B (s.setE d (.bool false)) else A (s.setE d (.bool false)) := by simp [GWp]
theorem gwp_undef {d : Nat} {want : Bool} {A B : AS → Prop} {s : AS} : GWp (.tup []) d want A B s = B s := _root_.id rfl
theorem gwp_dec {d : Nat} {want : Bool} {A B : AS → Prop} {s : AS} (p : Prop) [Decidable p] : GWp (.bool (decide p)) d want A B s = ((p → if want = true then A (s.setE d (.bool true)) else B (s.setE d (.bool true))) ∧ (¬ p → if want = true then B (s.setE d (.bool false)) else A (s.setE d (.bool false)))) := by simp [GWp]
theorem gwp_ndec {d : Nat} {want : Bool} {A B : AS → Prop} {s : AS} (p : Prop) [Decidable p] : GWp (.bool (!decide p)) d want A B s = ((¬ p → if want = true then A (s.setE d (.bool true)) else B (s.setE d (.bool true))) ∧ (p → if want = true then B (s.setE d (.bool false)) else A (s.setE d (.bool false)))) := by simp [GWp]
theorem condWp_ndec (p : Prop) [Decidable p] (A B : Prop) : CondWp (some (!decide p)) A B = ((p → B) ∧ (¬ p → A)) := by by_cases h : p <;> simp [h, CondWp]
theorem beq_tt (b : Bool) : (b == true) = b := by cases b <;> rfl
theorem beq_ff (b : Bool) : (b == false) = !b := by cases b <;> rfl
theorem dec_tt : decide True = true := _root_.id rfl
theorem dec_ff : decide False = false := _root_.id rfl
theorem int_beq (a b : Int) : (a == b) = decide (a = b) := by by_cases h : a = b <;> simp [h]
theorem int_bne (a b : Int) : (a != b) = !decide (a = b) := by by_cases h : a = b <;> simp [h]
theorem dec_eq_tt (p : Prop) [Decidable p] : (decide p = true) = p := by simp
theorem wp_ret' {s : AS} {K : AS → Prop} : M.ret.wp P s K = K s := _root_.id rfl
theorem wp_fail' {s : AS} {K : AS → Prop} : M.fail.wp P s K = False := _root_.id rfl
theorem wp_getE' {i : Nat} {k : AV → M} {s : AS} {K : AS → Prop} : (M.getE i k).wp P s K = (k (s.env i)).wp P s K := _root_.id rfl
theorem wp_getT' {i : Nat} {k : Option Tok → M} {s : AS} {K : AS → Prop} : (M.getT i k).wp P s K = (k (s.tk i)).wp P s K := _root_.id rfl
theorem wp_putE' {i : Nat} {x : AV} {k : M} {s : AS} {K : AS → Prop} : (M.putE i x k).wp P s K = k.wp P (s.setE i x) K := _root_.id rfl
theorem wp_putT' {i : Nat} {x : Tok} {k : M} {s : AS} {K : AS → Prop} : (M.putT i x k).wp P s K = k.wp P (s.setT i x) K := _root_.id rfl
theorem wp_call' {b : Bool} {f : FuncId} {args : List AV} {N' : Nat} {dst : Option Tmp} {st : Nat} {s : AS} {K : AS → Prop} : (M.call b f args N' dst st).wp P s K = CallWp P b f args N' dst st s K := _root_.id rfl
theorem wp_ite' {c : Prop} [Decidable c] {m n : M} {s : AS} {K : AS → Prop} : (if c then m else n).wp P s K = if c then m.wp P s K else n.wp P s K := by split <;> rfl
theorem ite_false' {c : Prop} [Decidable c] {A : Prop} : (if c then A else False) = (c ∧ A) := by by_cases h : c <;> simp [h]
theorem u8s_length (l : List Int) : (u8s l).length = l.length := by simp [u8s]
theorem u8s_take (l : List Int) (n : Nat) : (u8s l).take n = u8s (l.take n) := by simp [u8s, List.map_take]
theorem u8s_drop (l : List Int) (n : Nat) : (u8s l).drop n = u8s (l.drop n) := by simp [u8s, List.map_drop]
theorem u8s_append (l m : List Int) : u8s l ++ u8s m = u8s (l ++ m) := by simp [u8s]
theorem u8s_closed : ∀ (l : List Int), closedL (u8s l) = true
  | [] => rfl
  | n :: l => by have := u8s_closed l; simp [u8s, closedL, AV.closed] at this ⊢; exact this
theorem u8s_noSl : ∀ (l : List Int), noSlL (u8s l) = true
  | [] => rfl
  | n :: l => by have := u8s_noSl l; simp [u8s, noSlL, AV.noSl] at this ⊢; exact this
theorem u8s_getD (l : List Int) (i : Nat) (h : i < l.length) : (u8s l).getD i .dead = .int .u8 (l.getD i 0) := by
  simp [u8s, List.getD_eq_getElem?_getD, h]
theorem intsOf_u8s : ∀ (l : List Int), intsOf (u8s l) = some l
  | [] => rfl
  | n :: l => by have := intsOf_u8s l; simp only [u8s, List.map_cons] at this ⊢; simp [intsOf, this]
theorem u8n_eq {l : List Int} (h : ∀ x ∈ l, 0 ≤ x ∧ x < 256) : u8n l = l := by
  unfold u8n
  apply List.ext_getElem?
  intro i
  rw [List.getElem?_map]
  cases e : l[i]? with
  | none => rfl
  | some x =>
    have := h x (List.mem_of_getElem? e)
    simp
    omega
theorem mwp_congr {m m' : M} {s : AS} {K : AS → Prop} (h : m = m') : m.wp P s K = m'.wp P s K := by rw [h]
theorem mwpF_congr {m m' : M} {s : AS} {K : AS → Foot → Prop} (h : m = m') : m.wpF P s K = m'.wpF P s K := by rw [h]
theorem opsWp_congr {ops : Array Oper} {l : List Oper} {st st' : Nat} {K : AS → Prop} {s s' : AS} (h : s = s') (h' : st = st') : OpsWp P N ops l st K s = OpsWp P N ops l st' K s' := by rw [h, h']
theorem opsWpD_congr {ops : Array Oper} {l : List Oper} {st st' i i' : Nat} {tr : List (Nat × Foot)} {K : AS → Prop} {s s' : AS} (h : s = s') (h' : st = st') (h'' : i = i') : OpsWpD P N ops l st i tr K s = OpsWpD P N ops l st' i' tr K s' := by rw [h, h', h'']
theorem okTr_congr (ops : Array Oper) (l : List (Nat × Foot)) : okTr ops l = okTr ops l := _root_.id rfl
theorem okOps_congr (ops : Array Oper) : okOps ops = okOps ops := _root_.id rfl
theorem ex_congr {n : Nat} {k : List It} {Q : AS → Prop} {s s' : AS} (h : s = s') : Ex P N n k Q s = Ex P N n k Q s' := by rw [h]
theorem run_congr {k : List It} {Q : AS → Prop} {s s' : AS} (h : s = s') : Run P N k Q s = Run P N k Q s' := by rw [h]
theorem wpF_ret' {s : AS} {K : AS → Foot → Prop} : M.ret.wpF P s K = K s ([], []) := _root_.id rfl
theorem wpF_fail' {s : AS} {K : AS → Foot → Prop} : M.fail.wpF P s K = False := _root_.id rfl
theorem wpF_getE' {i : Nat} {k : AV → M} {s : AS} {K : AS → Foot → Prop} : (M.getE i k).wpF P s K = (k (s.env i)).wpF P s fun s' f => K s' (2 * i :: f.1, f.2) := _root_.id rfl
theorem wpF_getT' {i : Nat} {k : Option Tok → M} {s : AS} {K : AS → Foot → Prop} : (M.getT i k).wpF P s K = (k (s.tk i)).wpF P s fun s' f => K s' ((2 * i + 1) :: f.1, f.2) := _root_.id rfl
theorem wpF_putE' {i : Nat} {x : AV} {k : M} {s : AS} {K : AS → Foot → Prop} : (M.putE i x k).wpF P s K = k.wpF P (s.setE i x) fun s' f => K s' (f.1, 2 * i :: f.2) := _root_.id rfl
theorem wpF_putT' {i : Nat} {x : Tok} {k : M} {s : AS} {K : AS → Foot → Prop} : (M.putT i x k).wpF P s K = k.wpF P (s.setT i x) fun s' f => K s' (f.1, (2 * i + 1) :: f.2) := _root_.id rfl
theorem wpF_call' {b : Bool} {f : FuncId} {args : List AV} {N' : Nat} {dst : Option Tmp} {st : Nat} {s : AS} {K : AS → Foot → Prop} : (M.call b f args N' dst st).wpF P s K = CallWpF P b f args N' dst st s K := _root_.id rfl
theorem wpF_ite' {c : Prop} [Decidable c] {m n : M} {s : AS} {K : AS → Foot → Prop} : (if c then m else n).wpF P s K = if c then m.wpF P s K else n.wpF P s K := by split <;> rfl
theorem ex_nil' {n : Nat} {Q : AS → Prop} {l : List (Nat × AV)} {t : List (Nat × Tok)} {nx : Nat} : Ex P N (n + 1) [] Q (mkS l t nx) = Q (mkS l t nx) := _root_.id rfl
theorem ex_inBlock' {n id : Nat} {k : List It} {Q : AS → Prop} {l : List (Nat × AV)} {t : List (Nat × Tok)} {nx : Nat} : Ex P N (n + 1) (.inBlock id :: k) Q (mkS l t nx) = Ex P N n k Q (mkS l t nx) := _root_.id rfl
theorem ex_back' {n : Nat} {I : AS → Prop} {k : List It} {Q : AS → Prop} {l : List (Nat × AV)} {t : List (Nat × Tok)} {nx : Nat} : Ex P N (n + 1) (.back I :: k) Q (mkS l t nx) = Run P N (.back I :: k) Q (mkS l t nx) := _root_.id rfl
theorem ex_skip' {n : Nat} {k : List It} {Q : AS → Prop} {l : List (Nat × AV)} {t : List (Nat × Tok)} {nx : Nat} : Ex P N (n + 1) (.code .skip :: k) Q (mkS l t nx) = Ex P N n k Q (mkS l t nx) := _root_.id rfl
theorem ex_seq' {n : Nat} {x y : Code} {k : List It} {Q : AS → Prop} {l : List (Nat × AV)} {t : List (Nat × Tok)} {nx : Nat} : Ex P N (n + 1) (.code (.seq x y) :: k) Q (mkS l t nx) = Ex P N n (.code x :: .code y :: k) Q (mkS l t nx) := _root_.id rfl
theorem ex_block' {n id : Nat} {c : Code} {k : List It} {Q : AS → Prop} {l : List (Nat × AV)} {t : List (Nat × Tok)} {nx : Nat} : Ex P N (n + 1) (.code (.block id c) :: k) Q (mkS l t nx) = Ex P N n (.code c :: .inBlock id :: k) Q (mkS l t nx) := _root_.id rfl
theorem ex_cond' {n : Nat} {c : Operand} {x y : Code} {k : List It} {Q : AS → Prop} {l : List (Nat × AV)} {t : List (Nat × Tok)} {nx : Nat} : Ex P N (n + 1) (.code (.cond c x y) :: k) Q (mkS l t nx) = CondWp (condOf N (mkS l t nx) c) (Ex P N n (.code x :: k) Q (mkS l t nx)) (Ex P N n (.code y :: k) Q (mkS l t nx)) := _root_.id rfl
theorem ex_exit' {n id : Nat} {k : List It} {Q : AS → Prop} {l : List (Nat × AV)} {t : List (Nat × Tok)} {nx : Nat} : Ex P N (n + 1) (.code (.exit id) :: k) Q (mkS l t nx) = (match exitI id k with | some k' => Ex P N n k' Q (mkS l t nx) | none => False) := _root_.id rfl
theorem ex_ret' {n : Nat} {k : List It} {Q : AS → Prop} {l : List (Nat × AV)} {t : List (Nat × Tok)} {nx : Nat} : Ex P N (n + 1) (.code .ret :: k) Q (mkS l t nx) = Q (mkS l t nx) := _root_.id rfl
theorem ex_region' {n id : Nat} {ops : Array Oper} {k : List It} {Q : AS → Prop} {l : List (Nat × AV)} {t : List (Nat × Tok)} {nx : Nat} : Ex P N (n + 1) (.code (.region id ops false) :: k) Q (mkS l t nx) = OpsWp P N ops ops.toList nx (Ex P N n k Q) (mkS l t (nx + ops.size)) := _root_.id rfl
theorem ex_draw' {n id : Nat} {ops : Array Oper} {k : List It} {Q : AS → Prop} {l : List (Nat × AV)} {t : List (Nat × Tok)} {nx : Nat} : Ex P N (n + 1) (.code (.region id ops true) :: k) Q (mkS l t nx) = (P.follows .mixedOrders = true ∧ okOps ops = true ∧ OpsWpD P N ops ops.toList nx 0 [] (Ex P N n k Q) (mkS l t (nx + ops.size))) := _root_.id rfl
theorem ex_loop' {n : Nat} {c : Code} {k : List It} {Q : AS → Prop} {l : List (Nat × AV)} {t : List (Nat × Tok)} {nx : Nat} : Ex P N (n + 1) (.code (.loop c) :: k) Q (mkS l t nx) = Run P N (.code (.loop c) :: k) Q (mkS l t nx) := _root_.id rfl
theorem ex_zero' {k : List It} {Q : AS → Prop} {l : List (Nat × AV)} {t : List (Nat × Tok)} {nx : Nat} : Ex P N 0 k Q (mkS l t nx) = Run P N k Q (mkS l t nx) := _root_.id rfl
theorem opsWp_nil' {ops : Array Oper} {st : Nat} {K : AS → Prop} {l : List (Nat × AV)} {t : List (Nat × Tok)} {nx : Nat} : OpsWp P N ops [] st K (mkS l t nx) = K (mkS l t nx) := _root_.id rfl
theorem opsWp_cons' {ops : Array Oper} {o : Oper} {r : List Oper} {st : Nat} {K : AS → Prop} {l : List (Nat × AV)} {t : List (Nat × Tok)} {nx : Nat} : OpsWp P N ops (o :: r) st K (mkS l t nx) = (match o.guard with
    | none => (aop P N st o).wp P (mkS l t nx) (OpsWp P N ops r (st + 1) K)
    | some (j, want) => match (ops[j]?).bind (·.dst) with
      | some d => if d < N then GWp ((mkS l t nx).env d) d want (runWp P N o st (OpsWp P N ops r (st + 1) K)) (skipWp N o (OpsWp P N ops r (st + 1) K)) (mkS l t nx) else False
      | none => False) := _root_.id rfl
theorem runWp' {o : Oper} {st : Nat} {K : AS → Prop} {l : List (Nat × AV)} {t : List (Nat × Tok)} {nx : Nat} : runWp P N o st K (mkS l t nx) = (aop P N st o).wp P (mkS l t nx) K := _root_.id rfl
theorem skipWp' {o : Oper} {K : AS → Prop} {l : List (Nat × AV)} {t : List (Nat × Tok)} {nx : Nat} : skipWp N o K (mkS l t nx) = (match o.dst with
  | some d => if d < N then K (mkS ((d, .tup []) :: l) t nx) else False
  | none => K (mkS l t nx)) := by cases h : o.dst <;> simp only [skipWp, h, mkS_setE]
/-- As runWp and skipWp, with an eye on what is looked at. -/
def runD (P : Program) (N : Nat) (o : Oper) (st : Nat) (ops : Array Oper) (r : List Oper) (i : Nat) (d : Nat) (tr : List (Nat × Foot)) (K : AS → Prop) (s : AS) : Prop :=
  (aop P N st o).wpF P s fun s f => OpsWpD P N ops r (st + 1) (i + 1) ((i, (2 * d :: f.1, f.2)) :: tr) K s
def skipD (P : Program) (N : Nat) (o : Oper) (st : Nat) (ops : Array Oper) (r : List Oper) (i : Nat) (d : Nat) (tr : List (Nat × Foot)) (K : AS → Prop) (s : AS) : Prop :=
  (skipM N o).wpF P s fun s f => OpsWpD P N ops r (st + 1) (i + 1) ((i, (2 * d :: f.1, f.2)) :: tr) K s
def goD (P : Program) (N : Nat) (st : Nat) (ops : Array Oper) (r : List Oper) (i : Nat) (tr : List (Nat × Foot)) (K : AS → Prop) (s : AS) (f : Foot) : Prop := OpsWpD P N ops r (st + 1) (i + 1) ((i, f) :: tr) K s
theorem runD' {o : Oper} {st : Nat} {ops : Array Oper} {r : List Oper} {i d : Nat} {tr : List (Nat × Foot)} {K : AS → Prop} {l : List (Nat × AV)} {t : List (Nat × Tok)} {nx : Nat} : runD P N o st ops r i d tr K (mkS l t nx) = (aop P N st o).wpF P (mkS l t nx) fun s f => goD P N st ops r i tr K s (2 * d :: f.1, f.2) := _root_.id rfl
theorem skipD' {o : Oper} {st : Nat} {ops : Array Oper} {r : List Oper} {i d : Nat} {tr : List (Nat × Foot)} {K : AS → Prop} {l : List (Nat × AV)} {t : List (Nat × Tok)} {nx : Nat} : skipD P N o st ops r i d tr K (mkS l t nx) = (skipM N o).wpF P (mkS l t nx) fun s f => goD P N st ops r i tr K s (2 * d :: f.1, f.2) := _root_.id rfl
theorem goD' {st : Nat} {ops : Array Oper} {r : List Oper} {i : Nat} {tr : List (Nat × Foot)} {K : AS → Prop} {l : List (Nat × AV)} {t : List (Nat × Tok)} {nx : Nat} {R W : List Nat} : goD P N st ops r i tr K (mkS l t nx) (R, W) = OpsWpD P N ops r (st + 1) (i + 1) ((i, (R, W)) :: tr) K (mkS l t nx) := _root_.id rfl
theorem opsWpD_nil' {ops : Array Oper} {st i : Nat} {tr : List (Nat × Foot)} {K : AS → Prop} {l : List (Nat × AV)} {t : List (Nat × Tok)} {nx : Nat} : OpsWpD P N ops [] st i tr K (mkS l t nx) = (okTr ops tr.reverse = true ∧ K (mkS l t nx)) := _root_.id rfl
theorem opsWpD_cons' {ops : Array Oper} {o : Oper} {r : List Oper} {st i : Nat} {tr : List (Nat × Foot)} {K : AS → Prop} {l : List (Nat × AV)} {t : List (Nat × Tok)} {nx : Nat} : OpsWpD P N ops (o :: r) st i tr K (mkS l t nx) = (match o.guard with
    | none => (aop P N st o).wpF P (mkS l t nx) (goD P N st ops r i tr K)
    | some (j, want) => match (ops[j]?).bind (·.dst) with
      | some d => if d < N then GWp ((mkS l t nx).env d) d want (runD P N o st ops r i d tr K) (skipD P N o st ops r i d tr K) (mkS l t nx) else False
      | none => False) := _root_.id rfl
attribute [congr] condWp_congr gwp_congr mwp_congr mwpF_congr opsWp_congr opsWpD_congr ex_congr run_congr
attribute [push_cast] List.getD_cons_zero List.getD_cons_succ List.take_succ_cons List.take_zero List.take_nil List.drop_succ_cons List.mapM_cons List.mapM_nil Option.bind_eq_bind Option.pure_def Option.map_none Option.bind_none Nat.mul_one Nat.zero_mul Nat.sub_zero List.set_cons_zero List.set_cons_succ List.cons_append List.nil_append List.append_nil List.map_cons List.map_nil clA Option.toList_none Option.toList_some List.head?_nil List.head?_cons Option.isSome_none Option.isSome_some List.drop_zero Int.toNat_zero Int.le_refl
attribute [push_cast] wpF_ret' wpF_fail' wpF_getE' wpF_getT' wpF_putE' wpF_putT' wpF_call' wpF_ite' skipM
attribute [push_cast] wp_ret' wp_fail' wp_getE' wp_getT' wp_putE' wp_putT' wp_call' wp_ite' condWp_true condWp_false
attribute [push_cast] gwp_true gwp_undef gwp_false gwp_dec gwp_ndec condWp_ndec beq_tt beq_ff dec_tt dec_ff int_beq int_bne dec_eq_tt Bool.not_true Bool.not_false Int.ofNat_lt Int.ofNat_le Int.toNat_natCast Int.natCast_nonneg List.size_toArray not_true_eq_false not_false_eq_true false_implies true_implies implies_true ge_iff_le gt_iff_lt
attribute [push_cast] Bool.false_eq_true eq_self Bool.true_eq_false Nat.zero_add if_true if_false true_and and_true List.getElem?_toArray List.getElem?_cons_zero List.getElem?_cons_succ List.getElem?_nil argL Option.bind_some Option.map_some List.length_cons List.length_nil
attribute [push_cast] ex_nil' ex_inBlock' ex_back' ex_skip' ex_seq' ex_block' ex_cond' ex_exit' ex_ret' ex_region' ex_draw' ex_loop' ex_zero' opsWp_nil' opsWp_cons' skipWp' runWp' runD' skipD' goD' opsWpD_nil' opsWpD_cons' Bool.and_true Bool.true_and condWp_decide ite_false' condOf exitI mkS_env mkS_tk mkS_nx mkS_setE mkS_setT mkS_bump lkF lkG aop out ev evL evP mk row? isRow ldV ldCells load store aint isNilS isNilP rowT eqOf bin aun cellsOf conv intOf? loOf bounds slice fieldAddr part field indexAddr index lenB srcOf appendB copyB minmax cl reifyC reifyL reify reifyA back clA callV AV.cells? setAll absV afill places u8s_length u8s_take u8s_drop u8s_append u8s_closed u8s_noSl intsOf_u8s AV.closed closedL AV.noSl noSlL AV.ren renL
theorem wrap_i64 {x : Int} (h : -9223372036854775808 ≤ x ∧ x ≤ 9223372036854775807) : IntKind.i64.wrap x = x := by
  have := IntWalk.i64_in x h
  exact this
end Go.Eng

/- The engine, part 16: a literal whose parts are all told. For every program. -/
set_option linter.unusedVariables false
namespace Go.Eng
def afullQ (size : Nat) : Nat → List (Nat × AV) → Option (List AV)
  | _, [] => some []
  | k, (i, x) :: r => if i = k then (match x.cells? with
    | some cs => if cs.length = size then (match afullQ size (k + 1) r with
      | some ds => some (cs ++ ds)
      | none => none) else none
    | none => none) else none
/-- afill by another name. -/
def afillC (place : Nat → Option (Nat × Nat)) (cells : List AV) (ps : List (Nat × AV)) : Option (List AV) := afill place cells ps
theorem set_app {α : Type} (pre : List α) (m : α) (post : List α) (x : α) : (pre ++ m :: post).set pre.length x = pre ++ x :: post := by simp
theorem setAll_app {α : Type} : ∀ (cs pre mid post : List α), mid.length = cs.length → setAll (pre ++ (mid ++ post)) pre.length cs = pre ++ (cs ++ post)
  | [], pre, mid, post, h => by
    have : mid = [] := List.eq_nil_of_length_eq_zero h
    subst this; rfl
  | x :: r, pre, [], post, h => by simp at h
  | x :: r, pre, m :: mid, post, h => by
    have ih := setAll_app r (pre ++ [x]) mid post (by simpa using h)
    simp only [List.length_append, List.length_cons, List.length_nil, List.append_assoc, List.cons_append, List.nil_append] at ih
    unfold setAll
    rw [List.cons_append, set_app]
    exact ih
theorem afill_ok (size : Nat) : ∀ (ps : List (Nat × AV)) (k : Nat) (ds pre rest : List AV), afullQ size k ps = some ds → pre.length = k * size → rest.length = ps.length * size →
    afill (fun i => some (i * size, size)) (pre ++ rest) ps = some (pre ++ ds)
  | [], k, ds, pre, rest, h, h1, h2 => by
    simp only [afullQ, Option.some.injEq] at h
    subst h
    have : rest = [] := List.eq_nil_of_length_eq_zero (by simpa using h2)
    subst this; rfl
  | (i, x) :: r, k, ds, pre, rest, h, h1, h2 => by
    unfold afullQ at h
    split at h
    · rename_i e
      subst e
      split at h
      · rename_i cs e1
        split at h
        · rename_i e2
          split at h
          · rename_i ds' e3
            simp only [Option.some.injEq] at h
            subst h
            have hs : size ≤ rest.length := by rw [h2, List.length_cons]; exact Nat.le_mul_of_pos_left _ (by omega)
            have hr : rest = rest.take size ++ rest.drop size := (List.take_append_drop _ _).symm
            have ih := afill_ok size r (i + 1) ds' (pre ++ cs) (rest.drop size) e3 (by rw [List.length_append, h1, e2, Nat.succ_mul]) (by rw [List.length_drop, h2, List.length_cons, Nat.succ_mul]; omega)
            unfold afill
            simp only [e1]
            rw [if_pos ⟨e2, by rw [List.length_append, h1]; omega⟩, hr, ← h1, setAll_app cs pre _ _ (by rw [List.length_take]; omega), ← List.append_assoc, ih, List.append_assoc]
          · cases h
        · cases h
      · cases h
    · cases h
theorem afill_full (size len : Nat) (z : List AV) (ps : List (Nat × AV)) : afill (fun i => some (i * size, size)) (zrep z len) ps =
    if z.length = size ∧ ps.length = len then (match afullQ size 0 ps with | some cs => some cs | none => afillC (fun i => some (i * size, size)) (zrep z len) ps) else afillC (fun i => some (i * size, size)) (zrep z len) ps := by
  split
  · rename_i h
    split
    · rename_i cs e
      have := afill_ok size ps 0 cs [] (zrep z len) e (by simp) (by rw [zrep_length, h.1, h.2])
      simpa using this
    · rfl
  · rfl
/-! ### What the kernel runs by itself -/
def M.ev : M → AS → Option AS
  | .ret, s => some s
  | .fail, _ => none
  | .getE i k, s => (k (s.env i)).ev s
  | .getT t k, s => (k (s.tk t)).ev s
  | .putE i x k, s => k.ev (s.setE i x)
  | .putT t T k, s => k.ev (s.setT t T)
  | .call _ _ _ _ _ _, _ => none
theorem M.ev_wp {P : Program} {K : AS → Prop} : ∀ {m : M} {s s' : AS}, m.ev s = some s' → K s' → m.wp P s K
  | .ret, s, s', h, hk => by cases h; exact hk
  | .fail, s, s', h, hk => by cases h
  | .getE i k, s, s', h, hk => M.ev_wp (m := k (s.env i)) h hk
  | .getT t k, s, s', h, hk => M.ev_wp (m := k (s.tk t)) h hk
  | .putE i x k, s, s', h, hk => M.ev_wp (m := k) h hk
  | .putT t T k, s, s', h, hk => M.ev_wp (m := k) h hk
  | .call .., s, s', h, hk => by cases h
def opsEv (P : Program) (N : Nat) : List Oper → Nat → AS → Option AS
  | [], _, s => some s
  | o :: r, st, s => match o.guard with
    | none => match (aop P N st o).ev s with
      | some s' => opsEv P N r (st + 1) s'
      | none => none
    | some _ => none
theorem opsEv_wp {P : Program} {N : Nat} {ops : Array Oper} {K : AS → Prop} : ∀ {l : List Oper} {st : Nat} {s s' : AS}, opsEv P N l st s = some s' → K s' → OpsWp P N ops l st K s
  | [], st, s, s', h, hk => by cases h; exact hk
  | o :: r, st, s, s', h, hk => by
    unfold opsEv at h
    unfold OpsWp
    cases hg : o.guard with
    | some g => rw [hg] at h; cases h
    | none =>
      rw [hg] at h
      simp only at h ⊢
      cases he : (aop P N st o).ev s with
      | none => rw [he] at h; cases h
      | some s1 => rw [he] at h; exact M.ev_wp he (opsEv_wp h hk)
theorem le_gen {N : Nat} {s : AS} {l' : List (Nat × AV)} {t' : List (Nat × Tok)} {nx' : Nat} (hE : ∀ i, Sub (s.env i) (lkE l' i)) (hT : ∀ i T', lkT t' i = some T' → s.tk i = some T') (hn : s.nx ≤ nx') : Le N s (mkS l' t' nx') := by
  rintro F a w ⟨cx, hU, h⟩
  let cx' : Cx := { cx with tk := lkT t', U := fun g => g < nx' }
  have htk : cx.tk = s.tk := h.tk
  have hTr : Tr cx cx' := by
    refine Tr.of (fun b hb => ⟨hb, rfl⟩) (fun g hg => ?_) (fun i T' e _ => ?_) (fun i T b arr el fz _ _ e => ⟨arr, el, fz, e, Nat.le_refl _⟩)
    · show g < nx'
      rw [hU] at hg
      exact Nat.lt_of_lt_of_le hg hn
    · exact ⟨T', by rw [htk]; exact hT i T' e, rfl, rfl, rfl⟩
  refine ⟨cx', rfl, { h := h.h, tk := rfl, size := h.size, defers := h.defers, env := fun i hi => ((h.env i hi).sub (hE i)).tr hTr, none_ := fun i T' e1 e2 => ?_, row := fun i T' b e1 e2 => ?_, stamp := fun i T' e => ?_, inj := fun i j T T' b e1 e2 e3 e4 => ?_, apart := fun i T' b e1 e2 => ?_, free := fun i T' b e1 e2 => ?_, Zlt := h.Zlt, tr := h.tr.trans hTr, Z0 := h.Z0, Znew := h.Znew, os := h.os, tape := h.tape, output := h.output, grow := h.grow, prot := h.prot }⟩
  · exact h.none_ i T' (by rw [htk]; exact hT i T' e1) e2
  · obtain ⟨arr, el, fz, g1, g2, g3, g4, g5⟩ := h.row i T' b (by rw [htk]; exact hT i T' e1) e2
    exact ⟨arr, el, fz, g1, g2, g3, g4, fun j x v hx hv => (g5 j _ v hx hv).tr hTr⟩
  · exact hTr.U _ (h.stamp i T' (by rw [htk]; exact hT i T' e))
  · exact h.inj i j T T' b (by rw [htk]; exact hT i T e1) (by rw [htk]; exact hT j T' e2) e3 e4
  · exact h.apart i T' b (by rw [htk]; exact hT i T' e1) e2
  · exact h.free i T' b (by rw [htk]; exact hT i T' e1) e2
theorem lkE_of {f : Nat → AV} : ∀ {l : List (Nat × AV)}, l.map (fun p => f p.1) = l.map (·.2) → ∀ i, Sub (f i) (lkE l i)
  | [], _, i => .dead _
  | (j, x) :: r, h, i => by
    simp only [List.map_cons, List.cons.injEq] at h
    rw [lkE_cons]
    split
    · rename_i e; subst e; exact .of_eq h.1
    · exact lkE_of h.2 i
theorem lkT_of {f : Nat → Option Tok} : ∀ {l : List (Nat × Tok)}, l.map (fun p => f p.1) = l.map (fun p => some p.2) → ∀ i T', lkT l i = some T' → f i = some T'
  | [], _, i, T', h => by cases h
  | (j, x) :: r, h, i, T', h' => by
    simp only [List.map_cons, List.cons.injEq] at h
    rw [lkT_cons] at h'
    split at h'
    · rename_i e; cases h'; subst e; exact h.1
    · exact lkT_of h.2 i T' h'
/-- A region of plain operations on what is written out: the kernel runs it. -/
theorem run_lits {P : Program} {N id : Nat} {ops : Array Oper} {k : List It} {Q : AS → Prop} {l : List (Nat × AV)} {t : List (Nat × Tok)} {nx : Nat} (l' : List (Nat × AV)) (t' : List (Nat × Tok)) (nx' : Nat)
    (h : (opsEv P N ops.toList nx (mkS l t (nx + ops.size))).map (fun s => (l'.map (fun p => s.env p.1), t'.map (fun p => s.tk p.1), s.nx)) = some (l'.map (·.2), t'.map (fun p => some p.2), nx'))
    (hk : Run P N k Q (mkS l' t' nx')) : Run P N (.code (.region id ops false) :: k) Q (mkS l t nx) := by
  refine run_region ?_
  cases he : opsEv P N ops.toList nx (mkS l t (nx + ops.size)) with
  | none => rw [he] at h; cases h
  | some s' =>
    rw [he] at h
    simp only [Option.map_some, Option.some.injEq, Prod.mk.injEq] at h
    refine opsEv_wp (s' := s') he ?_
    exact run_le (le_gen (lkE_of h.1) (lkT_of h.2.1) (Nat.le_of_eq h.2.2)) hk
theorem cast_lit (n : Nat) : ((no_index (OfNat.ofNat n) : Nat) : Int) = OfNat.ofNat n := _root_.id rfl
attribute [push_cast high] cast_lit
attribute [push_cast] Nat.add_zero
attribute [push_cast high] afill_full
attribute [push_cast] afullQ
end Go.Eng

/- The engine, part 17: what is handed in, as the row reads it, in the engine's words. For every program. -/
set_option linter.unusedVariables false
namespace Go.Eng
open Go

/-- Every reading of type t is of cells that some list tells. -/
def Opens (P : Program) (H : Type) (t : TypeId) (R : List AV → Prop) : Prop :=
  ∀ (enc : TypeId × Value → H) (w : World) (base : Nat) (sp : Nat → Bool) (held : Bool) (n : Nat) (cs : List Value) (x : DataW H × List MemPlace), DataW.trod enc P w base sp held n t cs = some x →
    ∃ as, R as ∧ RepL (cxA w fun b => b < w.heap.size) as cs ∧ (∀ v ∈ cs, v.oneCell' = true)

variable {P : Program} {H : Type}

theorem Opens.imp {t : TypeId} {R R' : List AV → Prop} (h : Opens P H t R) (hi : ∀ as, R as → R' as) : Opens P H t R' := fun enc w base sp held n cs x hx =>
  let ⟨as, h1, h2⟩ := h enc w base sp held n cs x hx
  ⟨as, hi as h1, h2⟩

theorem opens_int {t : TypeId} {k : IntKind} (ht : P.underlying t = some (.int k)) : Opens P H t fun as => ∃ n : Int, (k.min ≤ n ∧ n ≤ k.max) ∧ as = [.int k n] := by
  intro enc w base sp held n cs x h
  obtain ⟨m, rfl, rfl, hw⟩ := DataW.trod_int ht h
  refine ⟨_, ⟨m, ?_, rfl⟩, .cons (.int k m) (RepL.nil _), by simp [Value.oneCell']⟩
  simpa [Lit.wf] using hw

theorem bytesOf_in (s : ByteArray) : ∀ c ∈ bytesOf s, 0 ≤ c ∧ c < 256 := by
  intro c hc
  simp only [bytesOf, List.mem_map] at hc
  obtain ⟨b, _, rfl⟩ := hc
  have := b.toNat_lt
  omega
theorem opens_str {t : TypeId} (ht : P.underlying t = some .string) : Opens P H t fun as => ∃ l : List Int, (∀ c ∈ l, 0 ≤ c ∧ c < 256) ∧ l.length ≤ maxLen ∧ as = [.str l] := by
  intro enc w base sp held n cs x h
  obtain ⟨s, rfl, rfl, hs⟩ := DataW.trod_string ht h
  exact ⟨_, ⟨bytesOf s, bytesOf_in s, by rw [bytesOf_length]; exact hs, rfl⟩, .cons (.str s _ rfl) (RepL.nil _), by simp [Value.oneCell']⟩

theorem flatten_len {α : Type} {s : Nat} : ∀ {els : List (List α)}, (∀ c ∈ els, c.length = s) → els.flatten.length = els.length * s
  | [], _ => by simp
  | c :: els, h => by
    rw [List.flatten_cons, List.length_append, h c List.mem_cons_self, flatten_len fun c hc => h c (List.mem_cons_of_mem _ hc), List.length_cons, Nat.succ_mul, Nat.add_comm]
theorem cell_of_some {w : World} {a : Addr} {v : Value} (h : w.cell? a = some v) : ∃ arr el fz, a.spot = none ∧ w.heap[a.block]? = some (.cells arr el fz) ∧ arr[a.off]? = some v := by
  unfold World.cell? at h
  split at h
  · rename_i c el fz hb
    split at h
    · cases h
    · rename_i hs
      exact ⟨c, el, fz, by simpa using hs, hb, h⟩
  · cases h

theorem opens_slice {t e : TypeId} {s : Nat} {R : List AV → Prop} (ht : P.underlying t = some (.slice e)) (hc : P.cellsOf e = s) (hs : 0 < s) (he : Opens P H e R) :
    Opens P H t fun as => ∃ els : List (List AV), (∀ c ∈ els, R c ∧ c.length = s) ∧ els.length ≤ maxLen ∧ as = [.sl els.length els.flatten] := by
  intro enc w base sp held n cs x h
  rcases DataW.trod_slice ht h with ⟨rfl, _⟩ | ⟨a, len, cap, elems, rest, m, _, rfl, _, hb, hl, hm, hlen, hel, _, _⟩
  · exact ⟨_, ⟨[], by simp, Nat.zero_le _, rfl⟩, .cons (.sl0 none 0) (RepL.nil _), by simp [Value.oneCell']⟩
  · rw [hc] at hel
    have key : ∀ k, k ≤ len → ∃ els : List (List AV), els.length = k ∧ (∀ c ∈ els, R c ∧ c.length = s) ∧ (∀ i, i < k * s → ∃ v, w.cell? (a.add i) = some v ∧ v.oneCell' = true) ∧
        ∀ (i : Nat) (x : AV) (v : Value), els.flatten[i]? = some x → w.cell? (a.add i) = some v → Rep (cxA w fun b => b < w.heap.size) x v := by
      intro k
      induction k with
      | zero => intro _; exact ⟨[], rfl, by simp, fun i hi => by omega, fun i x v hx => by simp at hx⟩
      | succ k ih =>
        intro hk
        obtain ⟨els, h1, h2, h3, h4⟩ := ih (by omega)
        have hk' := hel k (by omega)
        rw [List.getElem?_eq_getElem (by omega)] at hk'
        obtain ⟨vs, g1, g2⟩ := Option.bind_eq_some_iff.1 hk'
        obtain ⟨as, r1, r2, r3⟩ := he enc w base sp held m vs _ g2
        obtain ⟨_, q1, q2⟩ := World.cells?_some g1
        have hadd : ∀ i, (a.add (k * s)).add i = a.add (k * s + i) := fun i => by
          unfold Addr.add
          by_cases e1 : i = 0
          · subst e1; simp
          · by_cases e2 : k * s = 0
            · simp [e1, e2]
            · have : k * s + i ≠ 0 := by omega
              simp [e1, e2, Nat.add_assoc]
        have hfl : els.flatten.length = k * s := by rw [flatten_len fun c hc => (h2 c hc).2, h1]
        have hasl : as.length = s := by rw [r2.1]; exact q1
        refine ⟨els ++ [as], by simp [h1], fun c hc => ?_, fun i hi => ?_, fun i x v hx hv => ?_⟩
        · rcases List.mem_append.1 hc with hc | hc
          · exact h2 c hc
          · rw [List.mem_singleton] at hc; subst hc; exact ⟨r1, hasl⟩
        · rw [Nat.succ_mul] at hi
          by_cases hi' : i < k * s
          · exact h3 i hi'
          · have := q2 (i - k * s) (by omega)
            rw [hadd, show k * s + (i - k * s) = i by omega] at this
            have hlt : i - k * s < vs.length := by omega
            rw [List.getElem?_eq_getElem hlt] at this
            exact ⟨_, this, r3 _ (List.getElem_mem hlt)⟩
        · rw [List.flatten_append] at hx
          by_cases hi' : i < k * s
          · rw [List.getElem?_append_left (by omega)] at hx
            exact h4 i x v hx hv
          · rw [List.getElem?_append_right (by omega), hfl] at hx
            simp only [List.flatten_cons, List.flatten_nil, List.append_nil] at hx
            have hlt : i - k * s < as.length := (List.getElem?_eq_some_iff.1 hx).1
            have := q2 (i - k * s) (by omega)
            rw [hadd, show k * s + (i - k * s) = i by omega, hv] at this
            exact r2.2 _ x v hx this.symm
    obtain ⟨els, h1, h2, h3, h4⟩ := key len (Nat.le_refl _)
    have hfl : els.flatten.length = len * s := by rw [flatten_len fun c hc => (h2 c hc).2, h1]
    refine ⟨_, ⟨els, h2, by omega, rfl⟩, .cons ?_ (RepL.nil _), by simp [Value.oneCell']⟩
    rw [h1]
    by_cases h0 : len = 0
    · subst h0
      have : els = [] := List.eq_nil_of_length_eq_zero h1
      subst this
      exact .sl0 _ _
    · have hpos : 0 < len * s := Nat.mul_pos (by omega) hs
      obtain ⟨v0, g0, _⟩ := h3 0 hpos
      obtain ⟨arr, el, fz, hsp, hblk, _⟩ := cell_of_some g0
      have hsp' : a.spot = none := by simpa [Addr.add] using hsp
      have hblk' : w.heap[a.block]? = some (.cells arr el fz) := by simpa [Addr.add] using hblk
      have hat : ∀ i, w.cell? (a.add i) = arr[a.off + i]? := fun i => by
        rw [add_off _ _ hsp', cell_at hblk']
      have hsize : a.off + len * s ≤ arr.size := by
        obtain ⟨v1, g1, _⟩ := h3 (len * s - 1) (by omega)
        rw [hat] at g1
        have := (Array.getElem?_eq_some_iff.1 g1).1
        omega
      refine .sl len els.flatten a cap arr el fz ?_ hblk' hsp' hl (by rw [hfl]; exact hsize) (fun i v hi hv => ?_) fun i x v hx hv => h4 i x v hx (by rw [hat]; exact hv)
      · show a.block < w.heap.size
        exact (Array.getElem?_eq_some_iff.1 hblk').1
      · obtain ⟨u, g1, g2⟩ := h3 i (by omega)
        rw [hat, hv] at g1
        cases g1; exact g2
/-- A structure: its parts, one behind the other. -/
theorem opens_struct {t : TypeId} {fs : Array Field} {Rs : List (Field × (List AV → Prop))} (ht : P.underlying t = some (.struct fs)) (hfs : fs.toList = Rs.map (·.1))
    (hoff : ∀ (i : Nat) (p : Field × (List AV → Prop)), Rs[i]? = some p → p.1.offset = ((Rs.take i).map fun q => P.cellsOf q.1.type).sum) (htot : P.cellsOf t = (Rs.map fun q => P.cellsOf q.1.type).sum)
    (hR : ∀ p ∈ Rs, Opens P H p.1.type p.2) :
    Opens P H t fun as => ∃ parts : List (List AV), parts.length = Rs.length ∧ (∀ (i : Nat) (p : Field × (List AV → Prop)) (c : List AV), Rs[i]? = some p → parts[i]? = some c → p.2 c ∧ c.length = P.cellsOf p.1.type) ∧ as = parts.flatten := by
  intro enc w base sp held n cs x h
  obtain ⟨xs, m, _, _, hl, hxl, hf⟩ := DataW.trod_struct ht h
  have key : ∀ (k : Nat), k ≤ Rs.length → ∃ parts : List (List AV), parts.length = k ∧ (∀ (i : Nat) (p : Field × (List AV → Prop)) (c : List AV), Rs[i]? = some p → parts[i]? = some c → p.2 c ∧ c.length = P.cellsOf p.1.type) ∧
      RepL (cxA w fun b => b < w.heap.size) parts.flatten (cs.take ((Rs.take k).map fun q => P.cellsOf q.1.type).sum) ∧ ∀ v ∈ cs.take ((Rs.take k).map fun q => P.cellsOf q.1.type).sum, v.oneCell' = true := by
    intro k
    induction k with
    | zero => intro _; exact ⟨[], rfl, fun i p c _ h => by simp at h, by simpa using RepL.nil _, by simp⟩
    | succ k ih =>
      intro hk
      obtain ⟨parts, h1, h2, h3, h4⟩ := ih (by omega)
      have hlt : k < Rs.length := by omega
      have hpk : Rs[k]? = some Rs[k] := List.getElem?_eq_getElem hlt
      have hfk : fs[k]? = some Rs[k].1 := by
        rw [← Array.getElem?_toList, hfs, List.getElem?_map, hpk]; rfl
      have hread := hf k _ hfk
      have hxk : k < xs.length := by
        have : fs.size = Rs.length := by rw [← Array.length_toList, hfs, List.length_map]
        omega
      rw [List.getElem?_eq_getElem hxk, hoff k _ hpk] at hread
      obtain ⟨as, r1, r2, r3⟩ := hR _ (List.getElem_mem hlt) enc w base sp held m _ _ hread
      have hsum : ((Rs.take (k + 1)).map fun q => P.cellsOf q.1.type).sum = ((Rs.take k).map fun q => P.cellsOf q.1.type).sum + P.cellsOf Rs[k].1.type := by
        rw [List.take_add_one, hpk, List.map_append, List.sum_append]
        simp only [Option.toList_some, List.map_cons, List.map_nil, List.sum_cons, List.sum_nil, Nat.add_zero]
      have hle : ((Rs.take (k + 1)).map fun q => P.cellsOf q.1.type).sum ≤ cs.length := by
        rw [hl, htot]
        have : Rs = Rs.take (k + 1) ++ Rs.drop (k + 1) := (List.take_append_drop _ _).symm
        conv => rhs; rw [this]
        rw [List.map_append, List.sum_append]; omega
      have hcs : cs.take ((Rs.take (k + 1)).map fun q => P.cellsOf q.1.type).sum = cs.take ((Rs.take k).map fun q => P.cellsOf q.1.type).sum ++ (cs.drop ((Rs.take k).map fun q => P.cellsOf q.1.type).sum).take (P.cellsOf Rs[k].1.type) := by
        rw [hsum, List.take_add]
      have hasl : as.length = P.cellsOf Rs[k].1.type := by
        rw [r2.1, List.length_take, List.length_drop]; omega
      refine ⟨parts ++ [as], by simp [h1], fun i p c hp hc => ?_, ?_, ?_⟩
      · by_cases hi : i < k
        · rw [List.getElem?_append_left (by omega)] at hc
          exact h2 i p c hp hc
        · have hik : i = k := by
            have := (List.getElem?_eq_some_iff.1 hc).1
            simp at this; omega
          subst hik
          rw [hpk] at hp; cases hp
          rw [List.getElem?_append_right (by omega), h1] at hc
          simp at hc; subst hc
          exact ⟨r1, hasl⟩
      · rw [hcs, List.flatten_append]
        simpa using h3.append r2
      · rw [hcs]
        intro v hv
        rcases List.mem_append.1 hv with hv | hv
        · exact h4 v hv
        · exact r3 v hv
  obtain ⟨parts, h1, h2, h3, h4⟩ := key Rs.length (Nat.le_refl _)
  rw [List.take_of_length_le (Nat.le_refl _), ← htot, ← hl, List.take_of_length_le (Nat.le_refl _)] at h3 h4
  exact ⟨_, ⟨parts, h1, h2, rfl⟩, h3, h4⟩
/-- All elements have a form: then the list has. -/
theorem all_form {α β : Type} {R : β → Prop} {f : α → β} : ∀ {l : List β}, (∀ c ∈ l, R c) → (∀ c, R c → ∃ a, c = f a) → ∃ as : List α, l = as.map f
  | [], _, _ => ⟨[], rfl⟩
  | c :: l, h, hf => by
    obtain ⟨a, rfl⟩ := hf c (h c List.mem_cons_self)
    obtain ⟨as, rfl⟩ := all_form (fun c hc => h c (List.mem_cons_of_mem _ hc)) hf
    exact ⟨a :: as, rfl⟩
theorem flatten_u8 : ∀ (l : List Int), (l.map fun n => [AV.int .u8 n]).flatten = u8s l
  | [] => rfl
  | n :: l => by rw [List.map_cons, List.flatten_cons, flatten_u8 l]; rfl
/-- Bytes. -/
theorem opens_bytes {t e : TypeId} (ht : P.underlying t = some (.slice e)) (he : P.underlying e = some (.int .u8)) (hc : P.cellsOf e = 1) :
    Opens P H t fun as => ∃ l : List Int, (∀ c ∈ l, 0 ≤ c ∧ c < 256) ∧ l.length ≤ maxLen ∧ as = [.sl l.length (u8s l)] := by
  refine (opens_slice ht hc (by omega) (opens_int he)).imp ?_
  rintro as ⟨els, h1, h2, rfl⟩
  obtain ⟨l, rfl⟩ := all_form (f := fun n : Int => [AV.int .u8 n]) h1 fun c hc => let ⟨⟨n, _, e⟩, _⟩ := hc; ⟨n, e⟩
  refine ⟨l, fun c hc => ?_, by simpa using h2, by rw [flatten_u8]; simp⟩
  obtain ⟨⟨n, hn, e⟩, _⟩ := h1 [AV.int .u8 c] (List.mem_map.2 ⟨c, hc, rfl⟩)
  simp only [List.cons.injEq, AV.int.injEq, true_and, and_true] at e
  subst e
  simp [IntKind.min, IntKind.max, IntKind.bits, IntKind.signed] at hn
  omega
/-- An argument of one cell, as the row reads it. -/
theorem trod_arg {t : TypeId} {R : List AV → Prop} (ho : Opens P H t R) {enc : TypeId × Value → H} {w : World} {base : Nat} {sp : Nat → Bool} {held : Bool} {v : Value} {d : DataW H} {ps : List MemPlace}
    (h : DataW.Trod enc P w base sp held t v d ps) (hv : v.cells = #[v]) : ∃ a, R [a] ∧ Rep (cxA w fun b => b < w.heap.size) a v := by
  obtain ⟨n, hn⟩ := h
  obtain ⟨as, h1, h2, _⟩ := ho enc w base sp held n _ _ hn
  rw [hv] at h2
  have hl := h2.1
  match as, h1, h2, hl with
  | [a], h1, h2, _ => exact ⟨a, h1, h2.2 0 a v rfl rfl⟩
  | [], _, _, hl => simp at hl
  | _ :: _ :: _, _, _, hl => simp at hl
/-- A structure or an array, as the row reads it. -/
theorem trod_agg {t : TypeId} {R : List AV → Prop} (ho : Opens P H t R) {enc : TypeId × Value → H} {w : World} {base : Nat} {sp : Nat → Bool} {held : Bool} {vs : Array Value} {d : DataW H} {ps : List MemPlace}
    (h : DataW.Trod enc P w base sp held t (.agg vs) d ps) : ∃ as, R as ∧ Rep (cxA w fun b => b < w.heap.size) (.agg as) (.agg vs) := by
  obtain ⟨n, hn⟩ := h
  obtain ⟨as, h1, h2, h3⟩ := ho enc w base sp held n _ _ hn
  refine ⟨as, h1, rep_mkagg h2 fun i u hu => h3 u ?_⟩
  show u ∈ vs.toList
  exact List.mem_of_getElem? (by simpa using hu)
end Go.Eng

/- The engine, part 18: a row is frozen; a cell that is nil becomes a row; an empty slice is nil, or it is not. For every program. -/
set_option linter.unusedVariables false
namespace Go.Eng
open Go.RowKit

variable {P : Program} {N : Nat}

/-! ### A row is frozen -/
inductive Frz (t : Nat) (T : Tok) : AV → AV → Prop
  | keep (x : AV) : Frz t T x x
  | own (off n : Nat) (h : off + n * T.sz ≤ T.cs.length) : Frz t T (.own t T.g off n) (.sl n ((T.cs.drop off).take (n * T.sz)))
def FrzL (t : Nat) (T : Tok) : List AV → List AV → Prop
  | [], [] => True
  | x :: r, y :: q => Frz t T x y ∧ FrzL t T r q
  | _, _ => False
theorem FrzL.get {t : Nat} {T : Tok} : ∀ {cs ds : List AV}, FrzL t T cs ds → cs.length = ds.length ∧ ∀ (i : Nat) (x y : AV), cs[i]? = some x → ds[i]? = some y → Frz t T x y
  | [], [], _ => ⟨rfl, fun i x y h => by simp at h⟩
  | x :: r, y :: q, h => by
    obtain ⟨h1, h2⟩ := FrzL.get h.2
    refine ⟨by simp [h1], fun i u v hu hv => ?_⟩
    cases i with
    | zero => simp at hu hv; subst hu; subst hv; exact h.1
    | succ i => exact h2 i u v (by simpa using hu) (by simpa using hv)
  | [], _ :: _, h => h.elim
  | _ :: _, [], h => h.elim
theorem FrzL.refl {t : Nat} {T : Tok} : ∀ (cs : List AV), FrzL t T cs cs
  | [] => trivial
  | x :: r => ⟨.keep x, FrzL.refl r⟩
theorem FrzL.append {t : Nat} {T : Tok} : ∀ {a b c d : List AV}, FrzL t T a b → FrzL t T c d → FrzL t T (a ++ c) (b ++ d)
  | [], [], _, _, _, h => h
  | x :: r, y :: q, _, _, h, k => ⟨h.1, FrzL.append h.2 k⟩
  | [], _ :: _, _, _, h, _ => h.elim
  | _ :: _, [], _, _, h, _ => h.elim
def frzE (t : Nat) (T : Tok) (l : List (Nat × AV)) : List (Nat × AV) → Prop
  | [] => True
  | (i, x) :: r => Frz t T (lkE l i) x ∧ frzE t T l r
def frzT (t : Nat) (T : Tok) (tl : List (Nat × Tok)) : List (Nat × Tok) → Prop
  | [] => True
  | (i, T') :: r => i ≠ t ∧ (∃ T1, lkT tl i = some T1 ∧ T1.g = T'.g ∧ T1.sz = T'.sz ∧ FrzL t T T1.cs T'.cs) ∧ frzT t T tl r
theorem frzE_get {t : Nat} {T : Tok} {l : List (Nat × AV)} : ∀ {l' : List (Nat × AV)}, frzE t T l l' → ∀ i, lkE l' i = .dead ∨ Frz t T (lkE l i) (lkE l' i)
  | [], _, i => .inl rfl
  | (j, x) :: r, h, i => by
    rw [lkE_cons]
    by_cases e : i = j
    · subst e; rw [if_pos rfl]; exact .inr h.1
    · rw [if_neg e]; exact frzE_get h.2 i
theorem frzT_get {t : Nat} {T : Tok} {tl : List (Nat × Tok)} : ∀ {tl' : List (Nat × Tok)}, frzT t T tl tl' → ∀ i T', lkT tl' i = some T' → i ≠ t ∧ ∃ T1, lkT tl i = some T1 ∧ T1.g = T'.g ∧ T1.sz = T'.sz ∧ FrzL t T T1.cs T'.cs
  | [], _, i, T', h => by cases h
  | (j, x) :: r, h, i, T', h' => by
    rw [lkT_cons] at h'
    split at h'
    · rename_i e; cases h'; subst e; exact ⟨h.1, h.2.1⟩
    · exact frzT_get h.2.2 i T' h'
/-- A row of closed cells becomes a slice that stays as it is. -/
theorem run_freeze {l l' : List (Nat × AV)} {tl tl' : List (Nat × Tok)} {nx : Nat} {k : List It} {Q : AS → Prop} (t : Nat) (T : Tok) (hT : lkT tl t = some T) (hE : frzE t T l l') (hTk : frzT t T tl tl')
    (h : Run P N k Q (mkS l' tl' nx)) : Run P N k Q (mkS l tl nx) := by
  refine run_le ?_ h
  rintro F a w ⟨cx, hU, hs⟩
  let cx' : Cx := { cx with tk := lkT tl', Z := fun b => cx.Z b ∨ cx.ρ t = some b }
  have htk : cx.tk = lkT tl := hs.tk
  have hTt : cx.tk t = some T := by rw [htk]; exact hT
  have hTr : Tr cx cx' := by
    refine Tr.of (fun b hb => ⟨.inl hb, rfl⟩) (fun g hg => hg) (fun i T' e _ => ?_) (fun i T0 b arr el fz _ _ e => ⟨arr, el, fz, e, Nat.le_refl _⟩)
    obtain ⟨_, T1, e1, e2, e3, _⟩ := frzT_get hTk i T' e
    exact ⟨T1, by rw [htk]; exact e1, e2, e3, rfl⟩
  have hfr : ∀ {x y : AV} {v : Value}, Frz t T x y → Rep cx x v → Rep cx' y v := by
    intro x y v hf hr
    cases hf with
    | keep => exact hr.tr hTr
    | own off n hle =>
      cases hr with
      | own _ _ _ _ p c hU' hnc hh =>
        rcases hh T hTt rfl with ⟨h0, hc0⟩ | ⟨b, arr, el, fz, g1, g2, g3, g4⟩
        · subst h0; simp; exact .sl0 _ _
        · obtain ⟨arr', el', fz', f1, f2, f3, f4, f5⟩ := hs.row t T b hTt g1
          rw [g3] at f1
          cases f1
          subst g2
          refine .sl n _ _ c arr el fz (.inr g1) g3 rfl hnc ?_ (fun i v _ hv => f3 _ v hv) fun i x v hx hv => ?_
          · simp only [List.length_take, List.length_drop]
            have : n * T.sz ≤ c * T.sz := Nat.mul_le_mul_right _ hnc
            omega
          · rw [List.getElem?_take, List.getElem?_drop] at hx
            split at hx
            · exact (f5 _ x v hx hv).tr hTr
            · cases hx
  refine ⟨cx', hU, { h := hs.h, tk := rfl, size := hs.size, defers := hs.defers, env := fun i hi => ?_, none_ := fun i T' e1 e2 => ?_, row := fun i T' b e1 e2 => ?_, stamp := fun i T' e => ?_, inj := fun i j Ta Tb b e1 e2 e3 e4 => ?_, apart := fun i T' b e1 e2 => ?_, free := fun i T' b e1 e2 => ?_, Zlt := fun b hb => ?_, tr := hs.tr.trans hTr, Z0 := fun b hb => .inl (hs.Z0 b hb), Znew := fun b hb => ?_, os := hs.os, tape := hs.tape, output := hs.output, grow := hs.grow, prot := hs.prot }⟩
  · rcases frzE_get hE i with h0 | h0
    · show Rep cx' (lkE l' i) _
      rw [h0]; exact .dead _
    · exact hfr h0 (hs.env i hi)
  · obtain ⟨_, T1, f1, f2, f3, f4⟩ := frzT_get hTk i T' e1
    have := hs.none_ i T1 (by rw [htk]; exact f1) e2
    have hl := f4.get.1
    rw [this] at hl
    exact List.eq_nil_of_length_eq_zero hl.symm
  · obtain ⟨_, T1, f1, f2, f3, f4⟩ := frzT_get hTk i T' e1
    obtain ⟨arr, el, fz, g1, g2, g3, g4, g5⟩ := hs.row i T1 b (by rw [htk]; exact f1) e2
    obtain ⟨q1, q2⟩ := f4.get
    refine ⟨arr, el, fz, g1, g2, g3, by rw [← q1]; exact g4, fun j x v hx hv => ?_⟩
    have hj : j < T1.cs.length := by rw [q1]; exact (List.getElem?_eq_some_iff.1 hx).1
    exact hfr (q2 j _ x (List.getElem?_eq_getElem hj) hx) (g5 j _ v (List.getElem?_eq_getElem hj) hv)
  · obtain ⟨_, T1, f1, f2, f3, f4⟩ := frzT_get hTk i T' e
    have := hs.stamp i T1 (by rw [htk]; exact f1)
    rw [f2] at this; exact this
  · obtain ⟨_, Ta', f1, _⟩ := frzT_get hTk i Ta e1
    obtain ⟨_, Tb', f2, _⟩ := frzT_get hTk j Tb e2
    exact hs.inj i j Ta' Tb' b (by rw [htk]; exact f1) (by rw [htk]; exact f2) e3 e4
  · obtain ⟨hne, Ta', f1, _⟩ := frzT_get hTk i T' e1
    rintro (hz | hz)
    · exact hs.apart i Ta' b (by rw [htk]; exact f1) e2 hz
    · exact hne (hs.inj i t Ta' T b (by rw [htk]; exact f1) hTt e2 hz)
  · obtain ⟨_, Ta', f1, _⟩ := frzT_get hTk i T' e1
    exact hs.free i Ta' b (by rw [htk]; exact f1) e2
  · rcases hb with hb | hb
    · exact hs.Zlt b hb
    · exact hs.blk hTt hb
  · rcases hb with hb | hb
    · exact hs.Znew b hb
    · rcases Nat.lt_or_ge b F.w0.heap.size with hlt | hge
      · exact (F.hprot b hlt).elim (fun q => absurd q (hs.free t T b hTt hb)) fun q => .inr (.inr q)
      · exact .inr (.inl hge)

/-! ### A cell that is nil becomes a row of one's own -/
theorem run_lazyCell {l : List (Nat × AV)} {tl : List (Nat × Tok)} {nx : Nat} {k : List It} {Q : AS → Prop} (i j d sz : Nat) (T : Tok) (hT : lkT tl i = some T) (hj : T.cs[j]? = some .nilS) (hid : i ≠ d)
    (h : Run P N k Q (mkS l ((i, { T with cs := T.cs.set j (.own d nx 0 0) }) :: (d, ⟨nx, sz, []⟩) :: tl) (nx + 1))) : Run P N k Q (mkS l tl nx) := by
  refine run_le ?_ h
  rintro F a w ⟨cx, hU, hc⟩
  have hst : ¬ cx.U nx := by rw [hU]; exact Nat.lt_irrefl nx
  have hk := hc.lazyTok d ⟨nx, sz, []⟩ w rfl rfl rfl rfl hst rfl
  have hU' : ∀ g, (cx.newTok w d none ⟨nx, sz, []⟩).U g → g < nx + 1 := by
    intro g hg
    rcases hg with hg | hg
    · rw [hU] at hg; exact Nat.lt_succ_of_lt hg
    · rw [hg]; exact Nat.lt_succ_self nx
  refine Sim.moreU (U := (cx.newTok w d none ⟨nx, sz, []⟩).U) ?_ hU'
  generalize hcx1 : cx.newTok w d none ⟨nx, sz, []⟩ = cx1 at hk
  have htk1 : cx1.tk = lkT ((d, ⟨nx, sz, []⟩) :: tl) := by
    rw [hk.2.tk, mkS_setT]; rfl
  have hTi : cx1.tk i = some T := by rw [htk1, lkT_cons, if_neg hid]; exact hT
  let T2 : Tok := { T with cs := T.cs.set j (.own d nx 0 0) }
  let cx2 : Cx := { cx1 with tk := lkT ((i, T2) :: (d, ⟨nx, sz, []⟩) :: tl) }
  have hget : ∀ m T', cx2.tk m = some T' → ∃ T1, cx1.tk m = some T1 ∧ T1.g = T'.g ∧ T1.sz = T'.sz ∧ T1.cs.length = T'.cs.length := by
    intro m T' e
    change lkT ((i, T2) :: (d, ⟨nx, sz, []⟩) :: tl) m = some T' at e
    rw [lkT_cons] at e
    split at e
    · rename_i hm
      cases e
      exact ⟨T, by rw [hm]; exact hTi, rfl, rfl, by simp [T2]⟩
    · exact ⟨T', by rw [htk1]; exact e, rfl, rfl, rfl⟩
  have hTr : Tr cx1 cx2 := by
    refine Tr.of (fun b hb => ⟨hb, rfl⟩) (fun g hg => hg) (fun m T' e _ => ?_) (fun m T0 b arr el fz _ _ e => ⟨arr, el, fz, e, Nat.le_refl _⟩)
    obtain ⟨T1, e1, e2, e3, _⟩ := hget m T' e
    exact ⟨T1, e1, e2, e3, rfl⟩
  have hs := hk.2
  have hlz : ∀ v, Rep cx1 .nilS v → Rep cx2 (.own d nx 0 0) v := by
    intro v hv
    cases hv
    refine .own d nx 0 0 none 0 ?_ (Nat.le_refl _) fun T hT hg => .inl ⟨rfl, rfl⟩
    show cx1.U nx
    rw [← hcx1]; exact .inr rfl
  refine ⟨cx2, (by show cx1.U = _; rw [← hcx1]), { h := hs.h, tk := rfl, size := hs.size, defers := hs.defers, env := fun m hm => ?_, none_ := fun m T' e1 e2 => ?_, row := fun m T' b e1 e2 => ?_, stamp := fun m T' e => ?_, inj := fun m m' Ta Tb b e1 e2 e3 e4 => ?_, apart := fun m T' b e1 e2 => ?_, free := fun m T' b e1 e2 => ?_, Zlt := hs.Zlt, tr := hs.tr.trans hTr, Z0 := hs.Z0, Znew := hs.Znew, os := hs.os, tape := hs.tape, output := hs.output, grow := hs.grow, prot := hs.prot }⟩
  · exact (hs.env m hm).tr hTr
  · obtain ⟨T1, f1, _, _, f4⟩ := hget m T' e1
    have := hs.none_ m T1 f1 e2
    rw [this] at f4
    exact List.eq_nil_of_length_eq_zero f4.symm
  · obtain ⟨T1, f1, f2, f3, f4⟩ := hget m T' e1
    obtain ⟨arr, el, fz, g1, g2, g3, g4, g5⟩ := hs.row m T1 b f1 e2
    refine ⟨arr, el, fz, g1, g2, g3, by rw [← f4]; exact g4, fun q x v hx hv => ?_⟩
    change lkT ((i, T2) :: (d, ⟨nx, sz, []⟩) :: tl) m = some T' at e1
    rw [lkT_cons] at e1
    split at e1
    · rename_i hm
      cases e1
      subst hm
      rw [hTi] at f1
      cases f1
      change (T.cs.set j (.own d nx 0 0))[q]? = some x at hx
      rw [List.getElem?_set] at hx
      split at hx
      · rename_i e
        subst e
        split at hx
        · cases hx; exact hlz v (g5 j .nilS v hj hv)
        · cases hx
      · exact (g5 q x v hx hv).tr hTr
    · have : T1 = T' := by
        rw [htk1] at f1
        rw [f1] at e1
        cases e1; rfl
      subst this
      exact (g5 q x v hx hv).tr hTr
  · obtain ⟨T1, f1, f2, _⟩ := hget m T' e
    have := hs.stamp m T1 f1
    rw [f2] at this; exact this
  · obtain ⟨Ta', f1, _⟩ := hget m Ta e1
    obtain ⟨Tb', f2, _⟩ := hget m' Tb e2
    exact hs.inj m m' Ta' Tb' b f1 f2 e3 e4
  · obtain ⟨Ta', f1, _⟩ := hget m T' e1
    exact hs.apart m Ta' b f1 e2
  · obtain ⟨Ta', f1, _⟩ := hget m T' e1
    exact hs.free m Ta' b f1 e2

/-! ### An empty slice is nil, or it is not -/
theorem run_split {l : List (Nat × AV)} {tl : List (Nat × Tok)} {nx : Nat} {k : List It} {Q : AS → Prop} (i : Nat) (hi : lkE l i = .sl 0 []) (h1 : Run P N k Q (mkS ((i, .em true) :: l) tl nx)) (h2 : Run P N k Q (mkS ((i, .em false) :: l) tl nx)) : Run P N k Q (mkS l tl nx) := by
  refine ⟨fun F a w hs => ?_⟩
  have key : ∀ b : Bool, (i < N → ∃ p c, a.tmps.getD i undef = .slice p 0 c ∧ p.isNone = b) → SimN N F (mkS ((i, .em b) :: l) tl nx) a w := by
    intro b hb
    obtain ⟨cx, hU, hc⟩ := hs
    refine ⟨cx, hU, { hc with tk := hc.tk, env := fun j hj => ?_ }⟩
    show Rep cx (lkE ((i, .em b) :: l) j) _
    rw [lkE_cons]
    split
    · rename_i e
      subst e
      obtain ⟨p, c, e1, e2⟩ := hb hj
      rw [e1]; exact .em b p c e2
    · exact hc.env j hj
  by_cases hN : i < N
  · obtain ⟨cx, hU, hc⟩ := id hs
    have hr : Rep cx (.sl 0 []) (a.tmps.getD i undef) := by rw [← hi]; exact hc.env i hN
    obtain ⟨p, c, e⟩ : ∃ p c, a.tmps.getD i undef = .slice p 0 c := by
      generalize a.tmps.getD i undef = v at hr
      cases hr with
      | sl0 p c => exact ⟨p, c, rfl⟩
      | sl _ _ ad c => exact ⟨some ad, c, rfl⟩
    cases hp : p.isNone with
    | true => exact h1.out F a w (key true fun _ => ⟨p, c, e, hp⟩)
    | false => exact h2.out F a w (key false fun _ => ⟨p, c, e, hp⟩)
  · exact h1.out F a w (key true fun h => absurd h hN)
end Go.Eng

/- The engine, part 19: as part 17, with what the weights tell of lengths. For every program. -/
set_option linter.unusedVariables false
namespace Go.Eng
open Go

/-- Every reading of type t is of cells that some list tells. -/
def OpensW (P : Program) (H : Type) (t : TypeId) (R : List AV → Prop) : Prop :=
  ∀ (enc : TypeId × Value → H) (w : World) (base : Nat) (sp : Nat → Bool) (held : Bool) (n : Nat) (cs : List Value) (x : DataW H × List MemPlace), DataW.trod enc P w base sp held n t cs = some x → (∀ m ∈ x.1.weights P t, m ≤ reachBytes) →
    ∃ as, R as ∧ RepL (cxA w fun b => b < w.heap.size) as cs ∧ (∀ v ∈ cs, v.oneCell' = true)

variable {P : Program} {H : Type}

theorem OpensW.imp {t : TypeId} {R R' : List AV → Prop} (h : OpensW P H t R) (hi : ∀ as, R as → R' as) : OpensW P H t R' := fun enc w base sp held n cs x hx hw =>
  let ⟨as, h1, h2⟩ := h enc w base sp held n cs x hx hw
  ⟨as, hi as h1, h2⟩

theorem opens_intW {t : TypeId} {k : IntKind} (ht : P.underlying t = some (.int k)) : OpensW P H t fun as => ∃ n : Int, (k.min ≤ n ∧ n ≤ k.max) ∧ as = [.int k n] := by
  intro enc w base sp held n cs x h hw
  obtain ⟨m, rfl, rfl, hwf⟩ := DataW.trod_int ht h
  refine ⟨_, ⟨m, ?_, rfl⟩, .cons (.int k m) (RepL.nil _), by simp [Value.oneCell']⟩
  simpa [Lit.wf] using hwf

theorem opens_strW {t : TypeId} (ht : P.underlying t = some .string) : OpensW P H t fun as => ∃ l : List Int, (∀ c ∈ l, 0 ≤ c ∧ c < 256) ∧ l.length ≤ 140737488351232 ∧ as = [.str l] := by
  intro enc w base sp held n cs x h hw
  obtain ⟨s, rfl, rfl, hs⟩ := DataW.trod_string ht h
  have hz := hw s.data.toList.length (by simp [DataW.weights])
  exact ⟨_, ⟨bytesOf s, bytesOf_in s, by simpa [bytesOf, reachBytes] using hz, rfl⟩, .cons (.str s _ rfl) (RepL.nil _), by simp [Value.oneCell']⟩

theorem opens_sliceW {t e : TypeId} {s : Nat} {R : List AV → Prop} (ht : P.underlying t = some (.slice e)) (hc : P.cellsOf e = s) (hs : 0 < s) (hbp : 1 ≤ P.bytesOf e) (he : OpensW P H e R) :
    OpensW P H t fun as => ∃ els : List (List AV), (∀ c ∈ els, R c ∧ c.length = s) ∧ els.length ≤ 140737488351232 ∧ as = [.sl els.length els.flatten] := by
  intro enc w base sp held n cs x h hw
  rcases DataW.trod_slice ht h with ⟨rfl, _⟩ | ⟨a, len, cap, elems, rest, m, _, rfl, hx, hb, hl, hm, hlen, hel, _, _⟩
  · exact ⟨_, ⟨[], by simp, Nat.zero_le _, rfl⟩, .cons (.sl0 none 0) (RepL.nil _), by simp [Value.oneCell']⟩
  · rw [hc] at hel
    rw [hx] at hw
    simp only [DataW.weights, ht, List.mem_cons, List.mem_append] at hw
    have hlen2 : len ≤ 140737488351232 := by
      have h1 := hw _ (.inl rfl)
      simp only [List.length_map, hlen] at h1
      have h2 : len * 1 ≤ (len + rest.length) * P.bytesOf e := Nat.mul_le_mul (by omega) hbp
      have h3 : reachBytes = 140737488351232 := rfl
      omega
    have hall : ∀ {ds : List (DataW H)} {d : DataW H}, d ∈ ds → ∀ m ∈ d.weights P e, m ∈ DataW.weightsAll P e ds := by
      intro ds
      induction ds with
      | nil => intro d hd; cases hd
      | cons d0 ds ih =>
        intro d hd m hm
        rw [DataW.weightsAll]
        rcases List.mem_cons.1 hd with rfl | hd
        · exact List.mem_append_left _ hm
        · exact List.mem_append_right _ (ih hd m hm)
    have key : ∀ k, k ≤ len → ∃ els : List (List AV), els.length = k ∧ (∀ c ∈ els, R c ∧ c.length = s) ∧ (∀ i, i < k * s → ∃ v, w.cell? (a.add i) = some v ∧ v.oneCell' = true) ∧
        ∀ (i : Nat) (x : AV) (v : Value), els.flatten[i]? = some x → w.cell? (a.add i) = some v → Rep (cxA w fun b => b < w.heap.size) x v := by
      intro k
      induction k with
      | zero => intro _; exact ⟨[], rfl, by simp, fun i hi => by omega, fun i x v hx => by simp at hx⟩
      | succ k ih =>
        intro hk
        obtain ⟨els, h1, h2, h3, h4⟩ := ih (by omega)
        have hk' := hel k (by omega)
        rw [List.getElem?_eq_getElem (by omega)] at hk'
        obtain ⟨vs, g1, g2⟩ := Option.bind_eq_some_iff.1 hk'
        obtain ⟨as, r1, r2, r3⟩ := he enc w base sp held m vs _ g2 (fun q hq => hw q (.inr (.inl (hall (List.mem_map.2 ⟨_, List.getElem_mem _, rfl⟩) q hq))))
        obtain ⟨_, q1, q2⟩ := World.cells?_some g1
        have hadd : ∀ i, (a.add (k * s)).add i = a.add (k * s + i) := fun i => by
          unfold Addr.add
          by_cases e1 : i = 0
          · subst e1; simp
          · by_cases e2 : k * s = 0
            · simp [e1, e2]
            · have : k * s + i ≠ 0 := by omega
              simp [e1, e2, Nat.add_assoc]
        have hfl : els.flatten.length = k * s := by rw [flatten_len fun c hc => (h2 c hc).2, h1]
        have hasl : as.length = s := by rw [r2.1]; exact q1
        refine ⟨els ++ [as], by simp [h1], fun c hc => ?_, fun i hi => ?_, fun i x v hx hv => ?_⟩
        · rcases List.mem_append.1 hc with hc | hc
          · exact h2 c hc
          · rw [List.mem_singleton] at hc; subst hc; exact ⟨r1, hasl⟩
        · rw [Nat.succ_mul] at hi
          by_cases hi' : i < k * s
          · exact h3 i hi'
          · have := q2 (i - k * s) (by omega)
            rw [hadd, show k * s + (i - k * s) = i by omega] at this
            have hlt : i - k * s < vs.length := by omega
            rw [List.getElem?_eq_getElem hlt] at this
            exact ⟨_, this, r3 _ (List.getElem_mem hlt)⟩
        · rw [List.flatten_append] at hx
          by_cases hi' : i < k * s
          · rw [List.getElem?_append_left (by omega)] at hx
            exact h4 i x v hx hv
          · rw [List.getElem?_append_right (by omega), hfl] at hx
            simp only [List.flatten_cons, List.flatten_nil, List.append_nil] at hx
            have hlt : i - k * s < as.length := (List.getElem?_eq_some_iff.1 hx).1
            have := q2 (i - k * s) (by omega)
            rw [hadd, show k * s + (i - k * s) = i by omega, hv] at this
            exact r2.2 _ x v hx this.symm
    obtain ⟨els, h1, h2, h3, h4⟩ := key len (Nat.le_refl _)
    have hfl : els.flatten.length = len * s := by rw [flatten_len fun c hc => (h2 c hc).2, h1]
    refine ⟨_, ⟨els, h2, by omega, rfl⟩, .cons ?_ (RepL.nil _), by simp [Value.oneCell']⟩
    rw [h1]
    by_cases h0 : len = 0
    · subst h0
      have : els = [] := List.eq_nil_of_length_eq_zero h1
      subst this
      exact .sl0 _ _
    · have hpos : 0 < len * s := Nat.mul_pos (by omega) hs
      obtain ⟨v0, g0, _⟩ := h3 0 hpos
      obtain ⟨arr, el, fz, hsp, hblk, _⟩ := cell_of_some g0
      have hsp' : a.spot = none := by simpa [Addr.add] using hsp
      have hblk' : w.heap[a.block]? = some (.cells arr el fz) := by simpa [Addr.add] using hblk
      have hat : ∀ i, w.cell? (a.add i) = arr[a.off + i]? := fun i => by
        rw [add_off _ _ hsp', cell_at hblk']
      have hsize : a.off + len * s ≤ arr.size := by
        obtain ⟨v1, g1, _⟩ := h3 (len * s - 1) (by omega)
        rw [hat] at g1
        have := (Array.getElem?_eq_some_iff.1 g1).1
        omega
      refine .sl len els.flatten a cap arr el fz ?_ hblk' hsp' hl (by rw [hfl]; exact hsize) (fun i v hi hv => ?_) fun i x v hx hv => h4 i x v hx (by rw [hat]; exact hv)
      · show a.block < w.heap.size
        exact (Array.getElem?_eq_some_iff.1 hblk').1
      · obtain ⟨u, g1, g2⟩ := h3 i (by omega)
        rw [hat, hv] at g1
        cases g1; exact g2
/-- A structure: its parts, one behind the other. -/
theorem opens_structW {t : TypeId} {fs : Array Field} {Rs : List (Field × (List AV → Prop))} (ht : P.underlying t = some (.struct fs)) (hfs : fs.toList = Rs.map (·.1))
    (hoff : ∀ (i : Nat) (p : Field × (List AV → Prop)), Rs[i]? = some p → p.1.offset = ((Rs.take i).map fun q => P.cellsOf q.1.type).sum) (htot : P.cellsOf t = (Rs.map fun q => P.cellsOf q.1.type).sum)
    (hR : ∀ p ∈ Rs, OpensW P H p.1.type p.2) :
    OpensW P H t fun as => ∃ parts : List (List AV), parts.length = Rs.length ∧ (∀ (i : Nat) (p : Field × (List AV → Prop)) (c : List AV), Rs[i]? = some p → parts[i]? = some c → p.2 c ∧ c.length = P.cellsOf p.1.type) ∧ as = parts.flatten := by
  intro enc w base sp held n cs x h hw
  obtain ⟨xs, m, _, hx, hl, hxl, hf⟩ := DataW.trod_struct ht h
  rw [hx] at hw
  simp only [DataW.weights, ht] at hw
  have key : ∀ (k : Nat), k ≤ Rs.length → ∃ parts : List (List AV), parts.length = k ∧ (∀ (i : Nat) (p : Field × (List AV → Prop)) (c : List AV), Rs[i]? = some p → parts[i]? = some c → p.2 c ∧ c.length = P.cellsOf p.1.type) ∧
      RepL (cxA w fun b => b < w.heap.size) parts.flatten (cs.take ((Rs.take k).map fun q => P.cellsOf q.1.type).sum) ∧ ∀ v ∈ cs.take ((Rs.take k).map fun q => P.cellsOf q.1.type).sum, v.oneCell' = true := by
    intro k
    induction k with
    | zero => intro _; exact ⟨[], rfl, fun i p c _ h => by simp at h, by simpa using RepL.nil _, by simp⟩
    | succ k ih =>
      intro hk
      obtain ⟨parts, h1, h2, h3, h4⟩ := ih (by omega)
      have hlt : k < Rs.length := by omega
      have hpk : Rs[k]? = some Rs[k] := List.getElem?_eq_getElem hlt
      have hfk : fs[k]? = some Rs[k].1 := by
        rw [← Array.getElem?_toList, hfs, List.getElem?_map, hpk]; rfl
      have hread := hf k _ hfk
      have hxk : k < xs.length := by
        have : fs.size = Rs.length := by rw [← Array.length_toList, hfs, List.length_map]
        omega
      rw [List.getElem?_eq_getElem hxk, hoff k _ hpk] at hread
      have hwk : ∀ q ∈ (xs[k].1).weights P Rs[k].1.type, q ≤ reachBytes := fun q hq => hw q (DataW.weights_mem_each (j := k) (by rw [hfs]; simp [hpk]) (by simp [hxk]) q hq)
      obtain ⟨as, r1, r2, r3⟩ := hR _ (List.getElem_mem hlt) enc w base sp held m _ _ hread hwk
      have hsum : ((Rs.take (k + 1)).map fun q => P.cellsOf q.1.type).sum = ((Rs.take k).map fun q => P.cellsOf q.1.type).sum + P.cellsOf Rs[k].1.type := by
        rw [List.take_add_one, hpk, List.map_append, List.sum_append]
        simp only [Option.toList_some, List.map_cons, List.map_nil, List.sum_cons, List.sum_nil, Nat.add_zero]
      have hle : ((Rs.take (k + 1)).map fun q => P.cellsOf q.1.type).sum ≤ cs.length := by
        rw [hl, htot]
        have : Rs = Rs.take (k + 1) ++ Rs.drop (k + 1) := (List.take_append_drop _ _).symm
        conv => rhs; rw [this]
        rw [List.map_append, List.sum_append]; omega
      have hcs : cs.take ((Rs.take (k + 1)).map fun q => P.cellsOf q.1.type).sum = cs.take ((Rs.take k).map fun q => P.cellsOf q.1.type).sum ++ (cs.drop ((Rs.take k).map fun q => P.cellsOf q.1.type).sum).take (P.cellsOf Rs[k].1.type) := by
        rw [hsum, List.take_add]
      have hasl : as.length = P.cellsOf Rs[k].1.type := by
        rw [r2.1, List.length_take, List.length_drop]; omega
      refine ⟨parts ++ [as], by simp [h1], fun i p c hp hc => ?_, ?_, ?_⟩
      · by_cases hi : i < k
        · rw [List.getElem?_append_left (by omega)] at hc
          exact h2 i p c hp hc
        · have hik : i = k := by
            have := (List.getElem?_eq_some_iff.1 hc).1
            simp at this; omega
          subst hik
          rw [hpk] at hp; cases hp
          rw [List.getElem?_append_right (by omega), h1] at hc
          simp at hc; subst hc
          exact ⟨r1, hasl⟩
      · rw [hcs, List.flatten_append]
        simpa using h3.append r2
      · rw [hcs]
        intro v hv
        rcases List.mem_append.1 hv with hv | hv
        · exact h4 v hv
        · exact r3 v hv
  obtain ⟨parts, h1, h2, h3, h4⟩ := key Rs.length (Nat.le_refl _)
  rw [List.take_of_length_le (Nat.le_refl _), ← htot, ← hl, List.take_of_length_le (Nat.le_refl _)] at h3 h4
  exact ⟨_, ⟨parts, h1, h2, rfl⟩, h3, h4⟩
/-- Bytes. -/
theorem opens_bytesW {t e : TypeId} (ht : P.underlying t = some (.slice e)) (he : P.underlying e = some (.int .u8)) (hc : P.cellsOf e = 1) (hb : P.bytesOf e = 1) :
    OpensW P H t fun as => ∃ l : List Int, (∀ c ∈ l, 0 ≤ c ∧ c < 256) ∧ l.length ≤ 140737488351232 ∧ as = [.sl l.length (u8s l)] := by
  refine (opens_sliceW ht hc (by omega) (by rw [hb]; decide) (opens_intW he)).imp ?_
  rintro as ⟨els, h1, h2, rfl⟩
  obtain ⟨l, rfl⟩ := all_form (f := fun n : Int => [AV.int .u8 n]) h1 fun c hc => let ⟨⟨n, _, e⟩, _⟩ := hc; ⟨n, e⟩
  refine ⟨l, fun c hc => ?_, by simpa using h2, by rw [flatten_u8]; simp⟩
  obtain ⟨⟨n, hn, e⟩, _⟩ := h1 [AV.int .u8 c] (List.mem_map.2 ⟨c, hc, rfl⟩)
  simp only [List.cons.injEq, AV.int.injEq, true_and, and_true] at e
  subst e
  simp [IntKind.min, IntKind.max, IntKind.bits, IntKind.signed] at hn
  omega
/-- An argument of one cell, as the row reads it. -/
theorem trod_argW {t : TypeId} {R : List AV → Prop} (ho : OpensW P H t R) {enc : TypeId × Value → H} {w : World} {base : Nat} {sp : Nat → Bool} {held : Bool} {v : Value} {d : DataW H} {ps : List MemPlace}
    (h : DataW.Trod enc P w base sp held t v d ps) (hw : ∀ m ∈ d.weights P t, m ≤ reachBytes) (hv : v.cells = #[v]) : ∃ a, R [a] ∧ Rep (cxA w fun b => b < w.heap.size) a v := by
  obtain ⟨n, hn⟩ := h
  obtain ⟨as, h1, h2, _⟩ := ho enc w base sp held n _ _ hn hw
  rw [hv] at h2
  have hl := h2.1
  match as, h1, h2, hl with
  | [a], h1, h2, _ => exact ⟨a, h1, h2.2 0 a v rfl rfl⟩
  | [], _, _, hl => simp at hl
  | _ :: _ :: _, _, _, hl => simp at hl
/-- A structure or an array, as the row reads it. -/
theorem trod_aggW {t : TypeId} {R : List AV → Prop} (ho : OpensW P H t R) {enc : TypeId × Value → H} {w : World} {base : Nat} {sp : Nat → Bool} {held : Bool} {vs : Array Value} {d : DataW H} {ps : List MemPlace}
    (h : DataW.Trod enc P w base sp held t (.agg vs) d ps) (hw : ∀ m ∈ d.weights P t, m ≤ reachBytes) : ∃ as, R as ∧ Rep (cxA w fun b => b < w.heap.size) (.agg as) (.agg vs) := by
  obtain ⟨n, hn⟩ := h
  obtain ⟨as, h1, h2, h3⟩ := ho enc w base sp held n _ _ hn hw
  refine ⟨as, h1, rep_mkagg h2 fun i u hu => h3 u ?_⟩
  show u ∈ vs.toList
  exact List.mem_of_getElem? (by simpa using hu)
end Go.Eng

/- The engine, part 20: a region cut in two, with less told behind the cut; a call's answer without its row. For every program. -/
set_option linter.unusedVariables false
namespace Go.Eng
open Go.RowKit

variable {P : Program} {N : Nat} {F : Fr} {s s' : AS} {cx : Cx} {a : Act} {w : World}

def LeU (N : Nat) (s s' : AS) : Prop := ∀ (F : Fr) (U : Nat → Prop) (a : Act) (w : World), Sim N F U s a w → Sim N F U s' a w
/-- A row of closed cells becomes a slice that stays as it is. -/
theorem freeze_leU {l l' : List (Nat × AV)} {tl tl' : List (Nat × Tok)} {nx : Nat} (t : Nat) (T : Tok) (hT : lkT tl t = some T) (hE : frzE t T l l') (hTk : frzT t T tl tl') : LeU N (mkS l tl nx) (mkS l' tl' nx) := by
  rintro F U a w ⟨cx, hU, hs⟩
  let cx' : Cx := { cx with tk := lkT tl', Z := fun b => cx.Z b ∨ cx.ρ t = some b }
  have htk : cx.tk = lkT tl := hs.tk
  have hTt : cx.tk t = some T := by rw [htk]; exact hT
  have hTr : Tr cx cx' := by
    refine Tr.of (fun b hb => ⟨.inl hb, rfl⟩) (fun g hg => hg) (fun i T' e _ => ?_) (fun i T0 b arr el fz _ _ e => ⟨arr, el, fz, e, Nat.le_refl _⟩)
    obtain ⟨_, T1, e1, e2, e3, _⟩ := frzT_get hTk i T' e
    exact ⟨T1, by rw [htk]; exact e1, e2, e3, rfl⟩
  have hfr : ∀ {x y : AV} {v : Value}, Frz t T x y → Rep cx x v → Rep cx' y v := by
    intro x y v hf hr
    cases hf with
    | keep => exact hr.tr hTr
    | own off n hle =>
      cases hr with
      | own _ _ _ _ p c hU' hnc hh =>
        rcases hh T hTt rfl with ⟨h0, hc0⟩ | ⟨b, arr, el, fz, g1, g2, g3, g4⟩
        · subst h0; simp; exact .sl0 _ _
        · obtain ⟨arr', el', fz', f1, f2, f3, f4, f5⟩ := hs.row t T b hTt g1
          rw [g3] at f1
          cases f1
          subst g2
          refine .sl n _ _ c arr el fz (.inr g1) g3 rfl hnc ?_ (fun i v _ hv => f3 _ v hv) fun i x v hx hv => ?_
          · simp only [List.length_take, List.length_drop]
            have : n * T.sz ≤ c * T.sz := Nat.mul_le_mul_right _ hnc
            omega
          · rw [List.getElem?_take, List.getElem?_drop] at hx
            split at hx
            · exact (f5 _ x v hx hv).tr hTr
            · cases hx
  refine ⟨cx', hU, { h := hs.h, tk := rfl, size := hs.size, defers := hs.defers, env := fun i hi => ?_, none_ := fun i T' e1 e2 => ?_, row := fun i T' b e1 e2 => ?_, stamp := fun i T' e => ?_, inj := fun i j Ta Tb b e1 e2 e3 e4 => ?_, apart := fun i T' b e1 e2 => ?_, free := fun i T' b e1 e2 => ?_, Zlt := fun b hb => ?_, tr := hs.tr.trans hTr, Z0 := fun b hb => .inl (hs.Z0 b hb), Znew := fun b hb => ?_, os := hs.os, tape := hs.tape, output := hs.output, grow := hs.grow, prot := hs.prot }⟩
  · rcases frzE_get hE i with h0 | h0
    · show Rep cx' (lkE l' i) _
      rw [h0]; exact .dead _
    · exact hfr h0 (hs.env i hi)
  · obtain ⟨_, T1, f1, f2, f3, f4⟩ := frzT_get hTk i T' e1
    have := hs.none_ i T1 (by rw [htk]; exact f1) e2
    have hl := f4.get.1
    rw [this] at hl
    exact List.eq_nil_of_length_eq_zero hl.symm
  · obtain ⟨_, T1, f1, f2, f3, f4⟩ := frzT_get hTk i T' e1
    obtain ⟨arr, el, fz, g1, g2, g3, g4, g5⟩ := hs.row i T1 b (by rw [htk]; exact f1) e2
    obtain ⟨q1, q2⟩ := f4.get
    refine ⟨arr, el, fz, g1, g2, g3, by rw [← q1]; exact g4, fun j x v hx hv => ?_⟩
    have hj : j < T1.cs.length := by rw [q1]; exact (List.getElem?_eq_some_iff.1 hx).1
    exact hfr (q2 j _ x (List.getElem?_eq_getElem hj) hx) (g5 j _ v (List.getElem?_eq_getElem hj) hv)
  · obtain ⟨_, T1, f1, f2, f3, f4⟩ := frzT_get hTk i T' e
    have := hs.stamp i T1 (by rw [htk]; exact f1)
    rw [f2] at this; exact this
  · obtain ⟨_, Ta', f1, _⟩ := frzT_get hTk i Ta e1
    obtain ⟨_, Tb', f2, _⟩ := frzT_get hTk j Tb e2
    exact hs.inj i j Ta' Tb' b (by rw [htk]; exact f1) (by rw [htk]; exact f2) e3 e4
  · obtain ⟨hne, Ta', f1, _⟩ := frzT_get hTk i T' e1
    rintro (hz | hz)
    · exact hs.apart i Ta' b (by rw [htk]; exact f1) e2 hz
    · exact hne (hs.inj i t Ta' T b (by rw [htk]; exact f1) hTt e2 hz)
  · obtain ⟨_, Ta', f1, _⟩ := frzT_get hTk i T' e1
    exact hs.free i Ta' b (by rw [htk]; exact f1) e2
  · rcases hb with hb | hb
    · exact hs.Zlt b hb
    · exact hs.blk hTt hb
  · rcases hb with hb | hb
    · exact hs.Znew b hb
    · rcases Nat.lt_or_ge b F.w0.heap.size with hlt | hge
      · exact (F.hprot b hlt).elim (fun q => absurd q (hs.free t T b hTt hb)) fun q => .inr (.inr q)
      · exact .inr (.inl hge)


theorem ops_wp2 {ops : Array Oper} {K : AS → Prop} {Q : Exit → Act → World → Prop} {nx : Nat} (rest : List Oper) : ∀ (l : List Oper) (i : Nat) (s : AS) (a : Act) (w : World), (∀ j, (l ++ rest)[j]? = ops[i + j]?) → i + l.length + rest.length = ops.size →
    OpsWp P N ops l (nx + i) K s → Sim N F (fun g => g < nx + i) s a w → (∀ s a w, K s → Sim N F (fun g => g < nx + (i + l.length)) s a w → wpOps P ops Q (List.range' (i + l.length) rest.length) a w) → wpOps P ops Q (List.range' i (l.length + rest.length)) a w
  | [], i, s, a, w, hl, hlen, h, hs, hK => by
    have := hK s a w h (by simpa using hs)
    simpa using this
  | o :: l, i, s, a, w, hl, hlen, h, hs, hK => by
    have ho : ops[i]? = some o := by have := hl 0; simpa using this.symm
    rw [List.length_cons, show l.length + 1 + rest.length = (l.length + rest.length) + 1 by omega, List.range'_succ]
    have step : ∀ s1, (∃ b, wanted? N ops o s = some b ∧ if b = true then (aop P N (nx + i) o).Runs P s s1 else (match o.dst with | some d => d < N ∧ s1 = s.setE d (.tup []) | none => s1 = s)) → OpsWp P N ops l (nx + i + 1) K s1 → wpOps P ops Q (i :: List.range' (i + 1) (l.length + rest.length)) a w := by
      intro s1 hr hk
      refine op_step ho (U := fun g => g < nx + i) (by simp) hs hr fun a' w' hs' => ?_
      refine ops_wp2 rest l (i + 1) s1 a' w' (fun j => ?_) (by simp at hlen; omega) hk (Sim.moreU hs' fun g hg => by rcases hg with hg | hg <;> omega) (fun s a w h1 h2 => ?_)
      · have := hl (j + 1)
        rw [List.cons_append, List.getElem?_cons_succ] at this
        rw [this]; congr 1; omega
      · have := hK s a w h1 (by rw [List.length_cons, show i + (l.length + 1) = i + 1 + l.length by omega]; exact h2)
        rw [List.length_cons, show i + (l.length + 1) = i + 1 + l.length by omega] at this
        exact this
    obtain ⟨b, hw, h⟩ := opsWp_cons h
    cases b with
    | true =>
      rw [if_pos rfl] at h
      obtain ⟨s1, hr, hk⟩ := M.wp_runs h
      exact step s1 ⟨true, hw, hr⟩ hk
    | false =>
      rw [if_neg (by simp)] at h
      unfold skipWp at h
      cases hd : o.dst with
      | none => rw [hd] at h; exact step s ⟨false, hw, by simp [hd]⟩ h
      | some d =>
        rw [hd] at h
        simp only at h
        split at h
        · rename_i hlt; exact step _ ⟨false, hw, by simp [hd, hlt]⟩ h
        · exact h.elim
/-- A region, cut behind its n-th operation: less may be told from there on. -/
theorem run_region_cut {id : Nat} {ops : Array Oper} {k : List It} {Q : AS → Prop} (n : Nat) (hn : n ≤ ops.size)
    (h : OpsWp P N ops (ops.toList.take n) s.nx (fun s1 => ∃ s2, LeU N s1 s2 ∧ s2.nx = s1.nx ∧ OpsWp P N ops (ops.toList.drop n) (s.nx + n) (Run P N k Q) s2) (s.bump ops.size)) : Run P N (.code (.region id ops false) :: k) Q s := by
  refine ⟨fun F a w hs => ?_⟩
  show (Code.region id ops false).wp P _ a w
  refine wp_region ?_
  rw [List.range_eq_range']
  have hlen : ops.toList.length = ops.size := by simp
  have hl1 : (ops.toList.take n).length = n := by rw [List.length_take]; omega
  have hl2 : (ops.toList.drop n).length = ops.size - n := by rw [List.length_drop, hlen]
  rw [show ops.size = (ops.toList.take n).length + (ops.toList.drop n).length by omega]
  refine ops_wp2 (F := F) (nx := s.nx) (K := fun s1 => s1.nx = (s.bump ops.size).nx ∧ ∃ s2, LeU N s1 s2 ∧ s2.nx = s1.nx ∧ OpsWp P N ops (ops.toList.drop n) (s.nx + n) (Run P N k Q) s2) (ops.toList.drop n) (ops.toList.take n) 0 (s.bump ops.size) a w (fun j => by rw [List.take_append_drop]; simp) (by omega)
    (opsWp_imp_nx (n := (s.bump ops.size).nx) (fun s' hn h => ⟨hn, h⟩) rfl h) ?_ fun s1 a1 w1 hk hs1 => ?_
  · obtain ⟨cx, hU, hc⟩ := hs
    exact ⟨cx, hU, { hc with tk := hc.tk, env := hc.env }⟩
  · obtain ⟨hnx, s2, hle, hnx2, h2⟩ := hk
    have hs2 := hle F _ a1 w1 hs1
    rw [Nat.zero_add, hl1] at hs2 ⊢
    refine ops_wp (F := F) (nx := s.nx) (K := fun s' => s'.nx = (s.bump ops.size).nx ∧ Run P N k Q s') (ops.toList.drop n) n s2 a1 w1 (fun j => by rw [List.getElem?_drop]; simp) (by omega) (opsWp_imp_nx (n := (s.bump ops.size).nx) (fun s' hn h => ⟨hn, h⟩) (by rw [hnx2, hnx]) h2) hs2 fun s' a' w' hk hs' => ?_
    refine hk.2.out F a' w' ?_
    show Sim N F (fun g => g < s'.nx) s' a' w'
    rw [hk.1]
    exact hs'
/-- What comes with a row may be told as a slice that stays as it is. -/
theorem acall_sl {f : FuncId} {args : List AV} {n : Nat} {T0 : Tok} (h : ACall P f args (.own 0 0 0 n) (some T0)) (hn : n * T0.sz ≤ T0.cs.length) : ACall P f args (.sl n (T0.cs.take (n * T0.sz))) none := by
  refine ⟨h.1, fun w vargs Z0 hZ0 hargs => (h.2 w vargs Z0 hZ0 hargs).mono ?_⟩
  rintro e w' ⟨v, cx, rfl, hr, hrep⟩
  obtain ⟨t1, t2, t3⟩ := hr.tok T0 rfl
  have htk : cx.tk 0 = some T0 := by rw [hr.tk]; simp
  let cx' : Cx := { h := w'.heap, Z := fun b => cx.Z b ∨ cx.ρ 0 = some b, ρ := fun _ => none, tk := fun t => if t = 0 then none else none, U := fun g => g = 0 }
  have hblk : ∀ b, cx.ρ 0 = some b → b < w'.heap.size := by
    intro b hb
    obtain ⟨⟨arr, el, fz, g1, _⟩, _⟩ := t3 b hb
    exact (Array.getElem?_eq_some_iff.1 g1).1
  refine ⟨v, cx', rfl, { h := rfl, tk := rfl, U := rfl, Zlt := fun b hb => ?_, Znew := fun b hb => ?_, tok := fun T0 h => (by cases h), below := hr.below }, ?_⟩
  · rcases hb with hb | hb
    · exact hr.Zlt b hb
    · exact hblk b hb
  · rcases hb with hb | hb
    · exact hr.Znew b hb
    · exact .inr (t3 b hb).2.1
  · have hTr : Tr (cxA w' cx.Z) cx' := ⟨fun b hb => ⟨.inl hb, rfl⟩, fun g hg => hg.elim, fun t T' e _ => by simp [cx'] at e, fun t T _ b arr el fz e _ _ _ _ _ => by cases e⟩
    cases hrep with
    | own _ _ _ _ p c hU hnc hh =>
      rcases hh T0 htk t1 with ⟨h0, hc0⟩ | ⟨b, arr, el, fz, g1, g2, g3, g4⟩
      · subst h0; simp; exact .sl0 _ _
      · obtain ⟨⟨arr', el', fz', f1, f2, f3, f4, f5⟩, q2, q3⟩ := t3 b g1
        rw [hr.h] at g3
        change w'.heap[b]? = _ at f1
        rw [g3] at f1
        cases f1
        subst g2
        refine .sl n _ _ c arr el fz (.inr g1) g3 rfl hnc ?_ (fun i v _ hv => f3 _ v hv) fun i x v hx hv => ?_
        · show 0 + (T0.cs.take (n * T0.sz)).length ≤ arr.size
          rw [List.length_take]; omega
        · rw [List.getElem?_take] at hx
          split at hx
          · exact (f5 i x v hx (by simpa using hv)).tr hTr
          · cases hx
/-- As okTr, but what is apart is asked first: the search for an order is long where there is none. -/
def okTrI (ops : Array Oper) (l : List (Nat × Foot)) : Bool :=
  (match l with
  | [] => true
  | x :: r => r.all (fun y => indep x.2 y.2 || ordered ops ops.size x.1 y.1) && okTrI ops r)
theorem okTr_of {ops : Array Oper} : ∀ {l : List (Nat × Foot)}, okTrI ops l = true → okTr ops l = true
  | [], _ => rfl
  | x :: r, h => by
    simp only [okTrI, Bool.and_eq_true, List.all_eq_true, Bool.or_eq_true] at h
    simp only [okTr, Bool.and_eq_true, List.all_eq_true]
    refine ⟨fun y hy => ?_, okTr_of h.2⟩
    rw [okPair, Bool.or_eq_true]
    exact (h.1 y hy).symm
end Go.Eng
