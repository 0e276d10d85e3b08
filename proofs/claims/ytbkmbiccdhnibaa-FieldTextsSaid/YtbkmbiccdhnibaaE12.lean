/- The engine, part 12: code, loops, how a function is entered and left. For every program. -/
import Derived.Test.YtbkmbiccdhnibaaE11
import Derived.Deep.LoopGhost
set_option linter.unusedVariables false
namespace Go.Eng
open Go.RowKit

variable {P : Program} {N : Nat} {F : Fr} {s s' : AS} {cx : Cx} {a : Act} {w : World}

def SimN (N : Nat) (F : Fr) (s : AS) (a : Act) (w : World) : Prop := Sim N F (fun g => g < s.nx) s a w

inductive It where
  | code (c : Code)
  | inBlock (id : Nat)
  | back (I : AS → Prop)

def Kont (P : Program) (N : Nat) (F : Fr) : List It → (Exit → Act → World → Prop) → (Exit → Act → World → Prop)
  | [], R => R
  | .code c :: k, R => Exit.then (fun a w => c.wp P (Kont P N F k R) a w) (Kont P N F k R)
  | .inBlock id :: k, R => Exit.inBlock id (Kont P N F k R)
  | .back I :: k, R => Exit.then (fun a w => ∃ s, I s ∧ SimN N F s a w) (Kont P N F k R)
def Fin (N : Nat) (F : Fr) (Q : AS → Prop) : Exit → Act → World → Prop := fun e a w => (e = .normal ∨ e = .ret) ∧ ∃ s, Q s ∧ SimN N F s a w

/-- From here on the code comes to an end at which Q holds. -/
structure Run (P : Program) (N : Nat) (k : List It) (Q : AS → Prop) (s : AS) : Prop where
  out : ∀ F a w, SimN N F s a w → Kont P N F k (Fin N F Q) .normal a w

/-! ### A region, in the order of the text -/
def wanted? (N : Nat) (ops : Array Oper) (o : Oper) (s : AS) : Option Bool :=
  match o.guard with
  | none => some true
  | some (j, want) => match (ops[j]?).bind (·.dst) with
    | some d => if d < N then (match s.env d with | .bool b => some (b == want) | .tup [] => some false | _ => none) else none
    | none => none
/-- An operation that is not wanted. -/
def skipWp (N : Nat) (o : Oper) (K : AS → Prop) (s : AS) : Prop :=
  match o.dst with
  | some d => if d < N then K (s.setE d (.tup [])) else False
  | none => K s
/-- A guard: what is known of it is known from here on. -/
def GWp (x : AV) (d : Nat) (want : Bool) (A B : AS → Prop) (s : AS) : Prop :=
  match x with
  | .bool b => (b = true → (if want = true then A (s.setE d (.bool true)) else B (s.setE d (.bool true)))) ∧ (b = false → (if want = true then B (s.setE d (.bool false)) else A (s.setE d (.bool false))))
  | .tup [] => B s
  | _ => False
def runWp (P : Program) (N : Nat) (o : Oper) (st : Nat) (K : AS → Prop) (s : AS) : Prop := (aop P N st o).wp P s K
def OpsWp (P : Program) (N : Nat) (ops : Array Oper) : List Oper → Nat → (AS → Prop) → AS → Prop
  | [], _, K, s => K s
  | o :: r, st, K, s =>
    match o.guard with
    | none => runWp P N o st (OpsWp P N ops r (st + 1) K) s
    | some (j, want) => match (ops[j]?).bind (·.dst) with
      | some d => if d < N then GWp (s.env d) d want (runWp P N o st (OpsWp P N ops r (st + 1) K)) (skipWp N o (OpsWp P N ops r (st + 1) K)) s else False
      | none => False
theorem setE_same {s : AS} {d : Nat} {x : AV} (h : s.env d = x) : s.setE d x = s := by
  cases s with
  | mk env tk nx =>
    simp only [AS.setE, AS.mk.injEq, and_true]
    funext i
    split
    · rename_i e; rw [e]; exact h.symm
    · rfl
/-- What a step of a region is. -/
theorem opsWp_cons {P : Program} {N : Nat} {ops : Array Oper} {o : Oper} {r : List Oper} {st : Nat} {K : AS → Prop} {s : AS} (h : OpsWp P N ops (o :: r) st K s) :
    ∃ b, wanted? N ops o s = some b ∧ (if b = true then runWp P N o st (OpsWp P N ops r (st + 1) K) s else skipWp N o (OpsWp P N ops r (st + 1) K) s) := by
  unfold OpsWp at h
  unfold wanted?
  cases hg : o.guard with
  | none => rw [hg] at h; exact ⟨true, rfl, h⟩
  | some q =>
    obtain ⟨j, want⟩ := q
    rw [hg] at h
    simp only at h ⊢
    cases hd : (ops[j]?).bind (·.dst) with
    | none => rw [hd] at h; exact h.elim
    | some d =>
      rw [hd] at h
      simp only at h ⊢
      split at h
      · rename_i hlt
        rw [if_pos hlt]
        unfold GWp at h
        cases he : s.env d with
        | bool b =>
          rw [he] at h
          simp only at h ⊢
          refine ⟨b == want, rfl, ?_⟩
          cases b with
          | true =>
            have h1 := h.1 rfl
            rw [setE_same he] at h1
            cases want <;> simpa using h1
          | false =>
            have h1 := h.2 rfl
            rw [setE_same he] at h1
            cases want <;> simpa using h1
        | tup l =>
          rw [he] at h
          cases l with
          | nil => exact ⟨false, rfl, h⟩
          | cons => exact h.elim
        | _ => rw [he] at h; exact h.elim
      · exact h.elim

theorem yielded_eq (ops : Array Oper) (tmps : Array Value) (j : Nat) : yielded ops tmps j = match (ops[j]?).bind (·.dst) with
    | some d => (match tmps.getD d undef with | .bool b => some b | _ => none)
    | none => none := by
  unfold yielded
  cases h : (ops[j]?).bind (·.dst) with
  | none => simp
  | some d =>
    simp only [Option.bind_some, Array.getD_eq_getD_getElem?]
    cases tmps[d]? with
    | none => rfl
    | some v => cases v <;> rfl

theorem wanted_eq {ops : Array Oper} {o : Oper} {b : Bool} (h : SimC N F s cx a w) (hw : wanted? N ops o s = some b) : Region.wanted o (yielded ops a.tmps) = b := by
  unfold wanted? at hw
  unfold Region.wanted
  cases hg : o.guard with
  | none => rw [hg] at hw; cases hw; rfl
  | some q =>
    obtain ⟨j, want⟩ := q
    rw [hg] at hw
    simp only at hw ⊢
    rw [yielded_eq]
    cases hd : (ops[j]?).bind (·.dst) with
    | none => rw [hd] at hw; cases hw
    | some d =>
      rw [hd] at hw
      simp only at hw ⊢
      split at hw
      · rename_i hlt
        have hr := h.env d hlt
        cases he : s.env d with
        | bool b' =>
          rw [he] at hw hr
          cases hw
          rw [rep_bool hr]
          cases b' <;> cases want <;> rfl
        | tup l =>
          cases l with
          | nil =>
            rw [he] at hw hr
            cases hw
            obtain ⟨vs, e, hl⟩ := rep_tup hr
            rw [e]
            cases want <;> rfl
          | cons => rw [he] at hw; cases hw
        | _ => rw [he] at hw; cases hw
      · cases hw

/-- One operation of a region. -/
theorem op_step {ops : Array Oper} {o : Oper} {st : Nat} {Q : Exit → Act → World → Prop} {rest : List Nat} {i : Nat} (ho : ops[i]? = some o) {U : Nat → Prop} (hst : ¬ U st) {s1 : AS} (hs : Sim N F U s a w)
    (hr : (∃ b, wanted? N ops o s = some b ∧ if b = true then (aop P N st o).Runs P s s1 else (match o.dst with | some d => d < N ∧ s1 = s.setE d (.tup []) | none => s1 = s)))
    (hn : ∀ a' w', Sim N F (fun g => U g ∨ g = st) s1 a' w' → wpOps P ops Q rest a' w') : wpOps P ops Q (i :: rest) a w := by
  obtain ⟨cx, rfl, hs⟩ := hs
  obtain ⟨b, hb, hr⟩ := hr
  have hwd := wanted_eq hs hb
  simp only [wpOps, ho]
  cases b with
  | true =>
    rw [hwd]
    simp only [if_true] at hr ⊢
    left
    exact snd_all st o F s s1 cx a w _ Q hr hst hs hn
  | false =>
    rw [hwd]
    simp only [Bool.false_eq_true, if_false] at hr ⊢
    cases hd : o.dst with
    | none => rw [hd] at hr; simp only at hr; subst hr; exact hn _ _ (Sim.moreU ⟨cx, rfl, hs⟩ fun g hg => .inl hg)
    | some d =>
      rw [hd] at hr
      obtain ⟨hlt, rfl⟩ := hr
      exact hn _ _ (Sim.moreU ⟨cx, rfl, hs.putE hlt (.tup [] #[] rfl (by simp))⟩ fun g hg => .inl hg)

theorem ops_wp {ops : Array Oper} {K : AS → Prop} {Q : Exit → Act → World → Prop} {nx : Nat} : ∀ (l : List Oper) (i : Nat) (s : AS) (a : Act) (w : World), (∀ j, l[j]? = ops[i + j]?) → i + l.length = ops.size →
    OpsWp P N ops l (nx + i) K s → Sim N F (fun g => g < nx + i) s a w → (∀ s a w, K s → Sim N F (fun g => g < nx + ops.size) s a w → Q .normal a w) → wpOps P ops Q (List.range' i l.length) a w
  | [], i, s, a, w, hl, hlen, h, hs, hK => hK s a w h (by simpa [← hlen] using hs)
  | o :: l, i, s, a, w, hl, hlen, h, hs, hK => by
    have ho : ops[i]? = some o := by have := hl 0; simpa using this.symm
    rw [List.length_cons, List.range'_succ]
    have step : ∀ s1, (∃ b, wanted? N ops o s = some b ∧ if b = true then (aop P N (nx + i) o).Runs P s s1 else (match o.dst with | some d => d < N ∧ s1 = s.setE d (.tup []) | none => s1 = s)) → OpsWp P N ops l (nx + i + 1) K s1 → wpOps P ops Q (i :: List.range' (i + 1) l.length) a w := by
      intro s1 hr hk
      refine op_step ho (U := fun g => g < nx + i) (by simp) hs hr fun a' w' hs' => ?_
      refine ops_wp l (i + 1) s1 a' w' (fun j => ?_) (by simp at hlen; omega) hk (Sim.moreU hs' fun g hg => by rcases hg with hg | hg <;> omega) hK
      have := hl (j + 1)
      rw [List.getElem?_cons_succ] at this
      rw [this]; congr 1; omega
    obtain ⟨b, hw, h⟩ := opsWp_cons h
    cases b with
    | true =>
      rw [if_pos rfl] at h
      obtain ⟨s1, hr, hk⟩ := M.wp_runs h
      exact step s1 ⟨true, hw, hr⟩ hk
    | false =>
      rw [if_neg (by simp)] at h
      unfold skipWp at h
      cases hd : o.dst with
      | none => rw [hd] at h; exact step s ⟨false, hw, by simp [hd]⟩ h
      | some d =>
        rw [hd] at h
        simp only at h
        split at h
        · rename_i hlt; exact step _ ⟨false, hw, by simp [hd, hlt]⟩ h
        · exact h.elim

def AS.bump (s : AS) (n : Nat) : AS := { s with nx := s.nx + n }
theorem nx_runs {m : M} {s s' : AS} (h : m.Runs P s s') : s'.nx = s.nx := by
  induction h with
  | ret s => rfl
  | getE i k s s' h ih => exact ih
  | getT i k s s' h ih => exact ih
  | putE i x k s s' h ih => exact ih
  | putT i x k s s' h ih => exact ih
  | call b f args N dst st s s' r T hc hb h ih => exact ih
theorem wp_imp_nx {K K' : AS → Prop} {n : Nat} (hk : ∀ s, s.nx = n → K s → K' s) : ∀ {m : M} {s : AS}, s.nx = n → m.wp P s K → m.wp P s K'
  | .ret, s, hn, h => hk s hn h
  | .fail, _, _, h => h
  | .getE i k, s, hn, h => wp_imp_nx hk (m := k (s.env i)) hn h
  | .getT i k, s, hn, h => wp_imp_nx hk (m := k (s.tk i)) hn h
  | .putE i x k, s, hn, h => wp_imp_nx hk (m := k) (s := s.setE i x) hn h
  | .putT i x k, s, hn, h => wp_imp_nx hk (m := k) (s := s.setT i x) hn h
  | .call b f args N' dst st, s, hn, h => let ⟨r, T, s', h1, h2, h3, h4⟩ := h; ⟨r, T, s', h1, h2, h3, hk s' (by rw [nx_runs h3, hn]) h4⟩
theorem skip_imp_nx {K K' : AS → Prop} {n : Nat} (hk : ∀ s, s.nx = n → K s → K' s) {o : Oper} {s : AS} (hn : s.nx = n) (h : skipWp N o K s) : skipWp N o K' s := by
  unfold skipWp at h ⊢
  cases hd : o.dst with
  | none => rw [hd] at h; exact hk s hn h
  | some d =>
    rw [hd] at h
    simp only at h ⊢
    split at h
    · rename_i hlt; rw [if_pos hlt]; exact hk _ hn h
    · exact h.elim
theorem gwp_imp {x : AV} {d : Nat} {want : Bool} {A A' B B' : AS → Prop} {n : Nat} (ha : ∀ s, s.nx = n → A s → A' s) (hb : ∀ s, s.nx = n → B s → B' s) {s : AS} (hn : s.nx = n) (h : GWp x d want A B s) : GWp x d want A' B' s := by
  unfold GWp at h ⊢
  cases x with
  | bool b =>
    simp only at h ⊢
    refine ⟨fun e => ?_, fun e => ?_⟩
    · have := h.1 e
      split at this
      · rename_i hw; rw [if_pos hw]; exact ha _ hn this
      · rename_i hw; rw [if_neg hw]; exact hb _ hn this
    · have := h.2 e
      split at this
      · rename_i hw; rw [if_pos hw]; exact hb _ hn this
      · rename_i hw; rw [if_neg hw]; exact ha _ hn this
  | tup l => cases l with
    | nil => exact hb s hn h
    | cons => exact h
  | _ => exact h
theorem opsWp_imp_nx {ops : Array Oper} {K K' : AS → Prop} {n : Nat} (hk : ∀ s, s.nx = n → K s → K' s) : ∀ {l : List Oper} {st : Nat} {s : AS}, s.nx = n → OpsWp P N ops l st K s → OpsWp P N ops l st K' s
  | [], st, s, hn, h => hk s hn h
  | o :: l, st, s, hn, h => by
    have hr : ∀ s, s.nx = n → runWp P N o st (OpsWp P N ops l (st + 1) K) s → runWp P N o st (OpsWp P N ops l (st + 1) K') s := fun s hn h => wp_imp_nx (fun s hn h => opsWp_imp_nx hk hn h) hn h
    have hsk : ∀ s, s.nx = n → skipWp N o (OpsWp P N ops l (st + 1) K) s → skipWp N o (OpsWp P N ops l (st + 1) K') s := fun s hn h => skip_imp_nx (fun s hn h => opsWp_imp_nx hk hn h) hn h
    unfold OpsWp at h ⊢
    cases hg : o.guard with
    | none => rw [hg] at h; exact hr s hn h
    | some q =>
      obtain ⟨j, want⟩ := q
      rw [hg] at h
      simp only at h ⊢
      cases hd : (ops[j]?).bind (·.dst) with
      | none => rw [hd] at h; exact h.elim
      | some d =>
        rw [hd] at h
        simp only at h ⊢
        split at h
        · rename_i hlt; rw [if_pos hlt]; exact gwp_imp hr hsk hn h
        · exact h.elim
/-- The state behind a region: the stamps have gone on. -/
theorem run_region {id : Nat} {ops : Array Oper} {k : List It} {Q : AS → Prop} (h : OpsWp P N ops ops.toList s.nx (Run P N k Q) (s.bump ops.size)) : Run P N (.code (.region id ops false) :: k) Q s := by
  refine ⟨fun F a w hs => ?_⟩
  show (Code.region id ops false).wp P _ a w
  refine wp_region ?_
  rw [List.range_eq_range']
  have hlen : ops.toList.length = ops.size := by simp
  rw [← hlen]
  refine ops_wp (F := F) (nx := s.nx) (K := fun s' => s'.nx = (s.bump ops.size).nx ∧ Run P N k Q s') ops.toList 0 (s.bump ops.size) a w (fun j => by simp) (by simp) (opsWp_imp_nx (n := (s.bump ops.size).nx) (fun s' hn h => ⟨hn, h⟩) rfl h) ?_ fun s' a' w' hk hs' => ?_
  · obtain ⟨cx, hU, hc⟩ := hs
    exact ⟨cx, hU, { hc with tk := hc.tk, env := hc.env }⟩
  · refine hk.2.out F a' w' ?_
    show Sim N F (fun g => g < s'.nx) s' a' w'
    rw [hk.1]
    exact hs'

/-! ### Code -/
theorem run_seq {x y : Code} {k : List It} {Q : AS → Prop} (h : Run P N (.code x :: .code y :: k) Q s) : Run P N (.code (.seq x y) :: k) Q s :=
  ⟨fun F a w hs => wp_seq (h.out F a w hs)⟩
theorem run_skip {k : List It} {Q : AS → Prop} (h : Run P N k Q s) : Run P N (.code .skip :: k) Q s := ⟨fun F a w hs => wp_skip (h.out F a w hs)⟩
theorem run_block {id : Nat} {c : Code} {k : List It} {Q : AS → Prop} (h : Run P N (.code c :: .inBlock id :: k) Q s) : Run P N (.code (.block id c) :: k) Q s := ⟨fun F a w hs => wp_block (h.out F a w hs)⟩
theorem run_inBlock {id : Nat} {k : List It} {Q : AS → Prop} (h : Run P N k Q s) : Run P N (.inBlock id :: k) Q s := ⟨fun F a w hs => h.out F a w hs⟩
theorem run_nil {Q : AS → Prop} (h : Q s) : Run P N [] Q s := ⟨fun F a w hs => ⟨.inl rfl, s, h, hs⟩⟩
theorem run_back {I : AS → Prop} {k : List It} {Q : AS → Prop} (h : I s) : Run P N (.back I :: k) Q s := ⟨fun F a w hs => ⟨s, h, hs⟩⟩
theorem kont_ret {R : Exit → Act → World → Prop} : ∀ (k : List It), Kont P N F k R .ret a w = R .ret a w
  | [] => rfl
  | .code c :: k => kont_ret k
  | .inBlock id :: k => kont_ret k
  | .back I :: k => kont_ret k
theorem run_ret {k : List It} {Q : AS → Prop} (h : Q s) : Run P N (.code .ret :: k) Q s := ⟨fun F a w hs => wp_ret (by rw [kont_ret]; exact ⟨.inr rfl, s, h, hs⟩)⟩
def exitI (id : Nat) : List It → Option (List It)
  | [] => none
  | .inBlock id' :: k => if id = id' then some k else exitI id k
  | .code _ :: k => exitI id k
  | .back _ :: k => exitI id k
theorem kont_exit {R : Exit → Act → World → Prop} {id : Nat} : ∀ {k k' : List It}, exitI id k = some k' → Kont P N F k R (.exit id) a w = Kont P N F k' R .normal a w
  | .inBlock id' :: k, k', h => by
    unfold exitI at h
    show Exit.inBlock id' (Kont P N F k R) (.exit id) a w = _
    split at h
    · rename_i e; cases h; simp [Exit.inBlock, e]
    · rename_i e; simp only [Exit.inBlock, e, if_false]; exact kont_exit h
  | .code c :: k, k', h => by unfold exitI at h; exact kont_exit (k := k) h
  | .back I :: k, k', h => by unfold exitI at h; exact kont_exit (k := k) h
theorem run_exit {id : Nat} {k k' : List It} {Q : AS → Prop} (he : exitI id k = some k') (h : Run P N k' Q s) : Run P N (.code (.exit id) :: k) Q s := ⟨fun F a w hs => wp_exit (by rw [kont_exit he]; exact h.out F a w hs)⟩
def condOf (N : Nat) (s : AS) (c : Operand) : Option Bool :=
  match c with
  | .tmp t => if t < N then (match s.env t with | .bool b => some b | _ => none) else none
  | .const v => (match v with | .bool b => some b | _ => none)
  | _ => none
def CondWp (q : Option Bool) (A B : Prop) : Prop :=
  match q with
  | some b => (b = true → A) ∧ (b = false → B)
  | none => False
theorem run_cond {c : Operand} {x y : Code} {k : List It} {Q : AS → Prop} (h : CondWp (condOf N s c) (Run P N (.code x :: k) Q s) (Run P N (.code y :: k) Q s)) : Run P N (.code (.cond c x y) :: k) Q s := by
  refine ⟨fun F a w hs => ?_⟩
  cases hq : condOf N s c with
  | none => rw [hq] at h; exact h.elim
  | some b =>
    rw [hq] at h
    have hc : a.eval c = .bool b := by
      unfold condOf at hq
      cases c with
      | tmp t =>
        simp only at hq
        split at hq
        · rename_i hlt
          obtain ⟨cx, hU, hc⟩ := hs
          have := hc.env t hlt
          cases he : s.env t with
          | bool b' => rw [he] at hq this; cases hq; exact rep_bool this
          | _ => rw [he] at hq; cases hq
        · cases hq
      | const v => cases v <;> cases hq; rfl
      | _ => cases hq
    exact wp_cond_split hc (fun hb => (h.1 hb).out F a w hs) (fun hb => (h.2 hb).out F a w hs)
/-- A loop: an invariant that bears a number, which each round lowers. -/
theorem run_loop {c : Code} {k : List It} {Q : AS → Prop} (I : Nat → AS → Prop) (n : Nat) (h0 : I n s) (round : ∀ n s, I n s → Run P N (.code c :: .back (fun s' => ∃ m, m < n ∧ I m s') :: k) Q s) : Run P N (.code (.loop c) :: k) Q s := by
  refine ⟨fun F a w hs => ?_⟩
  refine wp_loop_ghost (fun n a w => ∃ s, I n s ∧ SimN N F s a w) n ⟨s, h0, hs⟩ fun n a w h => ?_
  obtain ⟨s, hI, hs⟩ := h
  refine wp_mono ((round n s hI).out F a w hs) fun e a' w' hq => ?_
  cases e with
  | normal =>
    obtain ⟨s', ⟨m, hm, hI'⟩, hs'⟩ := hq
    exact ⟨m, hm, s', hI', hs'⟩
  | exit id => exact hq
  | goto l => exact hq
  | ret => exact hq
  | panic ch => exact hq
  | outgrown => exact hq
/-- What is told of a state may be told with less. -/
def Le (N : Nat) (s s' : AS) : Prop := ∀ F a w, SimN N F s a w → SimN N F s' a w
theorem run_le {k : List It} {Q : AS → Prop} (hle : Le N s s') (h : Run P N k Q s') : Run P N k Q s := ⟨fun F a w hs => h.out F a w (hle F a w hs)⟩
theorem run_back_le {I : AS → Prop} {k : List It} {Q : AS → Prop} (hle : Le N s s') (h : I s') : Run P N (.back I :: k) Q s := run_le hle (run_back h)
end Go.Eng
