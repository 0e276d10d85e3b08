/- The engine, part 9: equality, arithmetic, the other builtins. For every program. -/
import Derived.Test.YtbkmbiccdhnibaaE8
import Derived.Laws.StructEq
import Derived.ChangeKeysEq
set_option linter.unusedVariables false
namespace Go.Eng
open Go.RowKit

variable {P : Program} {N : Nat} {F : Fr} {s s' : AS} {cx : Cx} {a : Act} {w : World}

/-- A value of a type stands for these cells. -/
def ValOf (cx : Cx) (P : Program) (t : TypeId) (cs : List AV) (v : Value) : Prop :=
  ∃ d, P.underlying t = some d ∧ ((isRow d = true ∧ ∃ vs : Array Value, v = .agg vs ∧ RepL cx cs vs.toList) ∨ (isRow d = false ∧ ∃ c, cs = [c] ∧ Rep cx c v))
theorem part_val {t : TypeId} {z : Option Value} {size by_ off : Nat} {cs : List AV} {vs : Array Value} {d : TypeDesc} (hu : P.underlying t = some d) (hti : ti P t = some (z, size, by_)) (h : RepL cx cs vs.toList)
    (h1 : isRow d = false → ∃ c, (cs.drop off).take size = [c]) : ∃ v, (Go.part t vs off).run P w = .ok v w ∧ ValOf cx P t ((cs.drop off).take size) v := by
  obtain ⟨i, i1, i2, i3, i4⟩ := ti_out hti
  cases hd : isRow d with
  | true =>
    have hagg : (isAgg t).run P w = .ok true w := by
      unfold isAgg
      rw [Sem.run_bind, run_underlying hu w]
      cases d <;> simp_all [isRow]
    refine ⟨.agg (vs.extract off (off + size)), by simp [Go.part, hagg, sizeOf, typeInfo, i1, i3], d, hu, .inl ⟨hd, _, rfl, ?_⟩⟩
    have := (h.drop off).take size
    have e : (vs.extract off (off + size)).toList = (vs.toList.drop off).take size := by
      simp [List.extract]
    rw [e]
    exact this
  | false =>
    have hagg : (isAgg t).run P w = .ok false w := by
      unfold isAgg
      rw [Sem.run_bind, run_underlying hu w]
      cases d <;> simp_all [isRow]
    obtain ⟨c, hc⟩ := h1 hd
    have hoff : cs[off]? = some c := by
      have : ((cs.drop off).take size)[0]? = some c := by rw [hc]; rfl
      rw [List.getElem?_take] at this
      split at this
      · rw [List.getElem?_drop] at this; simpa using this
      · cases this
    have hlt : off < vs.size := by
      have := (List.getElem?_eq_some_iff.1 hoff).1
      have := h.1
      simp at this
      omega
    exact ⟨vs[off], by simp [Go.part, hagg, hlt], d, hu, .inr ⟨hd, c, hc, h.2 off c _ hoff (by simp [hlt])⟩⟩

theorem aeq_scalar {d : Nat} {t : TypeId} {cs ds : List AV} {b : Bool} {dd : TypeDesc} (hu : P.underlying t = some dd) (hd : isRow dd = false) (h : aeq P d t cs ds = some b) : (∃ c, cs = [c]) ∧ ∃ c, ds = [c] := by
  cases d with
  | zero => cases h
  | succ d =>
    unfold aeq at h
    rw [hu] at h
    cases dd <;> simp only [isRow, Bool.true_eq_false] at hd <;> first
      | (cases h; done)
      | (simp only at h; split at h <;> first | (cases h; done) | exact ⟨⟨_, rfl⟩, ⟨_, rfl⟩⟩)

theorem bytes_beq (x y : ByteArray) : (x.toList == y.toList) = (bytesOf x == bytesOf y) := by
  rw [ByteArray.toList_eq, ByteArray.toList_eq, Bool.eq_iff_iff, beq_iff_eq, beq_iff_eq]
  unfold bytesOf
  constructor
  · intro h; rw [h]
  · intro h
    have hinj : ∀ (l m : List UInt8), l.map (fun b => (b.toNat : Int)) = m.map (fun b => (b.toNat : Int)) → l = m := by
      intro l
      induction l with
      | nil => intro m h; cases m with
        | nil => rfl
        | cons c m => simp at h
      | cons b l ih => intro m h; cases m with
        | nil => simp at h
        | cons c m =>
          simp only [List.map_cons, List.cons.injEq] at h
          rw [ih m h.2, UInt8.toNat_inj.1 (by omega : b.toNat = c.toNat)]
    exact hinj _ _ h

theorem aeq_run : ∀ (d : Nat) (t : TypeId) (cs ds : List AV) (b : Bool), aeq P d t cs ds = some b → ∀ (k : Nat) (x y : Value) (w : World), ValOf cx P t cs x → ValOf cx P t ds y → (Op.equalIn (k + d) t x y).run P w = .ok b w
  | 0, t, cs, ds, b, h => by cases h
  | d + 1, t, cs, ds, b, h => by
    intro k x y w hx hy
    obtain ⟨dx, hu, hx⟩ := hx
    obtain ⟨dy, hu', hy⟩ := hy
    rw [hu] at hu'
    cases hu'
    rw [← Nat.add_assoc]
    unfold aeq at h
    rw [hu] at h
    cases dx with
    | bool =>
      simp only at h
      split at h
      · cases h
        rcases hx with ⟨hx, _⟩ | ⟨_, c, hc, hx⟩
        · cases hx
        · rcases hy with ⟨hy, _⟩ | ⟨_, c', hc', hy⟩
          · cases hy
          · cases hc; cases hc'
            rw [rep_bool hx, rep_bool hy]
            exact run_equalIn_bool w _ t _ _ hu
      · cases h
    | int kk =>
      simp only at h
      split at h
      · split at h
        · rename_i hk
          cases h
          rcases hx with ⟨hx, _⟩ | ⟨_, c, hc, hx⟩
          · cases hx
          · rcases hy with ⟨hy, _⟩ | ⟨_, c', hc', hy⟩
            · cases hy
            · cases hc; cases hc'
              rw [rep_int hx, rep_int hy, hk]
              exact run_equalIn_int w _ t _ kk _ _ hu
        · cases h
      · cases h
    | string =>
      simp only at h
      split at h
      · cases h
        rcases hx with ⟨hx, _⟩ | ⟨_, c, hc, hx⟩
        · cases hx
        · rcases hy with ⟨hy, _⟩ | ⟨_, c', hc', hy⟩
          · cases hy
          · cases hc; cases hc'
            obtain ⟨sx, ex, hx⟩ := rep_str hx
            obtain ⟨sy, ey, hy⟩ := rep_str hy
            rw [ex, ey, run_equalIn_string w _ t _ _ hu, bytes_beq, hx, hy]
      · cases h
    | struct fs =>
      simp only at h
      split at h
      · rename_i hst
        rcases hx with ⟨_, vs, rfl, hvs⟩ | ⟨hx, _⟩
        · rcases hy with ⟨_, us, rfl, hus⟩ | ⟨hy, _⟩
          · have hfs : P.fieldsOf t = fs := by unfold Program.fieldsOf; rw [hu]
            rw [run_equalIn_struct w (k + d) t vs us (by rw [hfs]; exact hu) hst, hfs]
            have key : ∀ (l : List Field) (b : Bool), l.foldr (fun f acc => if f.name = "_" then none else match ti P f.type with
                | some (_, size, _) => (match aeq P d f.type ((cs.drop f.offset).take size) ((ds.drop f.offset).take size), acc with
                  | some a, some b => some (a && b)
                  | _, _ => none)
                | none => none) (some true) = some b → (Op.eqFields (k + d) vs us l).run P w = .ok b w := by
              intro l
              induction l with
              | nil => intro b h; cases h; simp [Op.eqFields]
              | cons f l ih =>
                intro b h
                rw [List.foldr_cons] at h
                split at h
                · cases h
                · rename_i hname
                  cases hti : ti P f.type with
                  | none => rw [hti] at h; cases h
                  | some q =>
                    obtain ⟨z, size, by_⟩ := q
                    rw [hti] at h
                    simp only at h
                    cases ha : aeq P d f.type ((cs.drop f.offset).take size) ((ds.drop f.offset).take size) with
                    | none => rw [ha] at h; cases h
                    | some a =>
                      rw [ha] at h
                      split at h
                      · rename_i a' b' e1 e2
                        cases h
                        cases e1
                        have ih' := ih _ e2
                        have hud : ∃ dd, P.underlying f.type = some dd := by
                          cases hh : P.underlying f.type with
                          | some dd => exact ⟨dd, rfl⟩
                          | none =>
                            exfalso
                            cases d with
                            | zero => cases ha
                            | succ d => unfold aeq at ha; rw [hh] at ha; cases ha
                        obtain ⟨dd, hud⟩ := hud
                        obtain ⟨vx, p1, v1⟩ := part_val (w := w) hud hti hvs (fun hd => (aeq_scalar hud hd ha).1)
                        obtain ⟨vy, p2, v2⟩ := part_val (w := w) hud hti hus (fun hd => (aeq_scalar hud hd ha).2)
                        have hrec := aeq_run d f.type _ _ _ ha k vx vy w v1 v2
                        simp only [Op.eqFields, ne_eq, hname, not_false_eq_true, if_true, Sem.run_bind, p1, p2, hrec, Result.andThen_ok]
                        cases a <;> simp [ih']
                      · cases h
            exact key _ _ h
          · cases hy
        · cases hx
      · cases h
    | array n e =>
      simp only at h
      cases hti : ti P e with
      | none => rw [hti] at h; cases h
      | some q =>
        obtain ⟨z, size, by_⟩ := q
        rw [hti] at h
        simp only at h
        obtain ⟨i, i1, i2, i3, i4⟩ := ti_out hti
        rcases hx with ⟨_, vs, rfl, hvs⟩ | ⟨hx, _⟩
        · rcases hy with ⟨_, us, rfl, hus⟩ | ⟨hy, _⟩
          · have hsz : (sizeOf e).run P w = .ok size w := by simp [sizeOf, typeInfo, i1, i3]
            have key : ∀ (l : List Nat) (b : Bool), l.foldr (fun i acc => match aeq P d e ((cs.drop (i * size)).take size) ((ds.drop (i * size)).take size), acc with
                | some a, some b => some (a && b)
                | _, _ => none) (some true) = some b → (Op.eqItems (k + d) e size vs us l).run P w = .ok b w := by
              intro l
              induction l with
              | nil => intro b h; cases h; simp [Op.eqItems]
              | cons j l ih =>
                intro b h
                rw [List.foldr_cons] at h
                cases ha : aeq P d e ((cs.drop (j * size)).take size) ((ds.drop (j * size)).take size) with
                | none => rw [ha] at h; cases h
                | some a =>
                  rw [ha] at h
                  split at h
                  · rename_i a' b' e1 e2
                    cases h
                    cases e1
                    have ih' := ih _ e2
                    have hud : ∃ dd, P.underlying e = some dd := by
                      cases hh : P.underlying e with
                      | some dd => exact ⟨dd, rfl⟩
                      | none =>
                        exfalso
                        cases d with
                        | zero => cases ha
                        | succ d => unfold aeq at ha; rw [hh] at ha; cases ha
                    obtain ⟨dd, hud⟩ := hud
                    obtain ⟨vx, p1, v1⟩ := part_val (w := w) hud hti hvs (fun hd => (aeq_scalar hud hd ha).1)
                    obtain ⟨vy, p2, v2⟩ := part_val (w := w) hud hti hus (fun hd => (aeq_scalar hud hd ha).2)
                    have hrec := aeq_run d e _ _ _ ha k vx vy w v1 v2
                    simp only [Op.eqItems, Sem.run_bind, p1, p2, hrec, Result.andThen_ok]
                    cases a <;> simp [ih']
                  · cases h
            have hco : P.cellsOf e = size := by simp [Program.cellsOf, i1, i3]
            rw [run_equalIn_array w (k + d) vs us hu i1, hco]
            exact key _ _ h
          · cases hy
        · cases hx
    | _ => cases h
/-! ### Binary operations -/
theorem bin_plain {op : BinOp} {t : TypeId} {x y : Operand} {u v : Value} {r : Value} (hg : (eqGuard op t x y u v).run P w = .ok () w) (hb : (binOp op t u v).run P w = .ok r w) {o : Oper} {yt : TypeId} (ho : o.op = .binOp op t x y yt)
    (hu : a.eval x = u) (hv : a.eval y = v) : (execOp a.eval o).run P w = .ok (.value r) w := by
  simp only [execOp, ho, hu, hv, Sem.run_bind, hg, Result.andThen_ok, hb, Sem.run_pure]
theorem aint_runs {op : BinOp} {t : TypeId} {k1 k2 : IntKind} {n m : Int} {k : AV → M} (hr : (aint op k1 n k2 m k).Runs P s s') : ∃ r : AV, ∃ v : Value, (binOp op t (.int k1 n) (.int k2 m)).run P w = .ok v w ∧ Rep cx r v ∧ (k r).Runs P s s' := by
  cases op with
  | shl =>
    simp only [aint] at hr
    split at hr
    · rename_i h; exact ⟨_, _, by simp [binOp, Op.shift, show ¬ m < 0 by omega], .int _ _, hr⟩
    · cases hr
  | shr =>
    simp only [aint] at hr
    split at hr
    · rename_i h; exact ⟨_, _, by simp [binOp, Op.shift, show ¬ m < 0 by omega], .int _ _, hr⟩
    · cases hr
  | add => simp only [aint] at hr; split at hr
           · rename_i h; subst h; exact ⟨_, _, by rw [binOp_add]; rfl, .int _ _, hr⟩
           · cases hr
  | sub => simp only [aint] at hr; split at hr
           · rename_i h; subst h; exact ⟨_, _, by rw [binOp_sub]; rfl, .int _ _, hr⟩
           · cases hr
  | mul => simp only [aint] at hr; split at hr
           · rename_i h; subst h; exact ⟨_, _, by rw [binOp_mul]; rfl, .int _ _, hr⟩
           · cases hr
  | quo =>
    simp only [aint] at hr
    split at hr
    · rename_i h; subst h
      split at hr
      · rename_i h0; exact ⟨_, _, by rw [binOp_quo]; simp [Op.intDiv, h0], .int _ _, hr⟩
      · cases hr
    · cases hr
  | rem =>
    simp only [aint] at hr
    split at hr
    · rename_i h; subst h
      split at hr
      · rename_i h0; exact ⟨_, _, by rw [binOp_rem]; simp [Op.intDiv, h0], .int _ _, hr⟩
      · cases hr
    · cases hr
  | and => simp only [aint] at hr; split at hr
           · rename_i h; subst h; exact ⟨_, _, by rw [binOp_and, intBits_and]; rfl, .int _ _, hr⟩
           · cases hr
  | or => simp only [aint] at hr; split at hr
          · rename_i h; subst h; exact ⟨_, _, by rw [binOp_or, intBits_or]; rfl, .int _ _, hr⟩
          · cases hr
  | xor => simp only [aint] at hr; split at hr
           · rename_i h; subst h; exact ⟨_, _, by rw [binOp_xor, intBits_xor]; rfl, .int _ _, hr⟩
           · cases hr
  | andNot => simp only [aint] at hr; split at hr
              · rename_i h; subst h; exact ⟨_, _, by rw [binOp_andNot, intBits_andNot]; rfl, .int _ _, hr⟩
              · cases hr
  | eql => simp only [aint] at hr; split at hr
           · rename_i h; subst h; exact ⟨_, _, by rw [binOp_eql]; rfl, .bool _, hr⟩
           · cases hr
  | neq => simp only [aint] at hr; split at hr
           · rename_i h; subst h; exact ⟨_, _, by rw [binOp_neq]; rfl, .bool _, hr⟩
           · cases hr
  | lss => simp only [aint] at hr; split at hr
           · rename_i h; subst h; exact ⟨_, _, by rw [binOp_lss]; rfl, .bool _, hr⟩
           · cases hr
  | leq => simp only [aint] at hr; split at hr
           · rename_i h; subst h; exact ⟨_, _, by rw [binOp_leq]; rfl, .bool _, hr⟩
           · cases hr
  | gtr => simp only [aint] at hr; split at hr
           · rename_i h; subst h; exact ⟨_, _, by rw [binOp_gtr]; rfl, .bool _, hr⟩
           · cases hr
  | geq => simp only [aint] at hr; split at hr
           · rename_i h; subst h; exact ⟨_, _, by rw [binOp_geq]; rfl, .bool _, hr⟩
           · cases hr

/-- An equality: what it says of the outcome of 'equal'. -/
theorem eq_runs {op : BinOp} {t : TypeId} {u v : Value} {b : Bool} {k : AV → M} (hr : (eqOf op b k).Runs P s s') (he : (Op.equal t u v).run P w = .ok b w) (hplain : ∀ op, op = .eql ∨ op = .neq → (binOp op t u v) = (if op = .eql then (do pure (.bool (← Op.equal t u v))) else (do pure (.bool (!(← Op.equal t u v))))) ) :
    ∃ r : AV, ∃ x : Value, (binOp op t u v).run P w = .ok x w ∧ Rep cx r x ∧ (k r).Runs P s s' ∧ (op = .eql ∨ op = .neq) := by
  cases op with
  | eql => exact ⟨_, _, by rw [hplain .eql (.inl rfl), if_pos rfl]; simp [he], .bool b, hr, .inl rfl⟩
  | neq => exact ⟨_, _, by rw [hplain .neq (.inr rfl), if_neg (by decide)]; simp [he], .bool (!b), hr, .inr rfl⟩
  | _ => cases hr
theorem snd_binOp {o : Oper} {st : Nat} {op : BinOp} {t yt : TypeId} {x y : Operand} (ho : o.op = .binOp op t x y yt) : Snd P N st o := by
  intro F s s' cx a w next Q hr hst hs hn
  unfold aop at hr; rw [ho] at hr
  obtain ⟨x', hr, hx⟩ := ev_runs hs hr
  obtain ⟨y', hr, hy⟩ := ev_runs hs hr
  have nilcase : ∀ (hr : (match y', P.underlying t with
      | .nilS, some (.slice _) => (match isNilS x' with | some b => eqOf op b (out N o.dst) | none => .fail)
      | .nilP, some (.pointer _) => (match isNilP x' with | some b => eqOf op b (out N o.dst) | none => .fail)
      | _, _ => .fail).Runs P s s'), o.wp P a w next Q := by
    intro hr
    cases hu : P.underlying t with
    | none => rw [hu] at hr; cases y' <;> cases hr
    | some d =>
      rw [hu] at hr
      cases y' with
      | nilS =>
        cases d with
        | slice e =>
          simp only at hr
          cases hb : isNilS x' with
          | none => rw [hb] at hr; cases hr
          | some b =>
            rw [hb] at hr
            have ey : a.eval y = .slice none 0 0 := by cases hv : a.eval y <;> rw [hv] at hy <;> cases hy; rfl
            have hxs : ∃ p n c, a.eval x = .slice p n c ∧ p.isNone = b := by
              cases x' with
              | nilS => cases hb; cases hv : a.eval x <;> rw [hv] at hx <;> cases hx; exact ⟨none, 0, 0, rfl, rfl⟩
              | em b' => cases hb; cases hv : a.eval x <;> rw [hv] at hx <;> cases hx; exact ⟨_, _, _, rfl, by assumption⟩
              | sl n cs =>
                simp only [isNilS] at hb
                split at hb
                · cases hb
                · rename_i hne
                  cases hb
                  cases hv : a.eval x <;> rw [hv] at hx <;> cases hx
                  · exact absurd rfl hne
                  · exact ⟨_, _, _, rfl, rfl⟩
              | _ => cases hb
            obtain ⟨p, n, c, ex, ep⟩ := hxs
            obtain ⟨r, v, g1, g2, g3, g4⟩ := eq_runs (cx := cx) (w := w) (t := t) (u := .slice p n c) (v := .slice none 0 0) hr (by rw [run_equal_slice_nil w t e p n c hu, ep]) (fun op h => by rcases h with rfl | rfl <;> rfl)
            exact done_out hs (bin_plain (by rw [eqGuard_at_slice]; rfl) g1 ho ex ey) g3 g2 (fun g hg => .inl hg) hn
        | _ => cases hr
      | nilP =>
        cases d with
        | pointer e =>
          simp only at hr
          cases hb : isNilP x' with
          | none => rw [hb] at hr; cases hr
          | some b =>
            rw [hb] at hr
            have ey : a.eval y = .pointer none := by cases hv : a.eval y <;> rw [hv] at hy <;> cases hy; rfl
            have hxs : ∃ p, a.eval x = .pointer p ∧ p.isNone = b := by
              cases x' with
              | nilP => cases hb; cases hv : a.eval x <;> rw [hv] at hx <;> cases hx; exact ⟨none, rfl, rfl⟩
              | addr => cases hb; cases hv : a.eval x <;> rw [hv] at hx <;> cases hx; exact ⟨_, rfl, rfl⟩
              | ptr => cases hb; cases hv : a.eval x <;> rw [hv] at hx <;> cases hx; exact ⟨_, rfl, rfl⟩
              | _ => cases hb
            obtain ⟨p, ex, ep⟩ := hxs
            have hpt : P.underlying t = some (.pointer (P.pointee t)) := by simp [Program.pointee, hu]
            obtain ⟨r, v, g1, g2, g3, g4⟩ := eq_runs (cx := cx) (w := w) (t := t) (u := .pointer p) (v := .pointer none) hr (by rw [run_equal_pointer_nil w t p hpt, ep]) (fun op h => by rcases h with rfl | rfl <;> rfl)
            exact done_out hs (bin_plain (by rw [eqGuard_at_pointer]; rfl) g1 ho ex ey) g3 g2 (fun g hg => .inl hg) hn
        | _ => cases hr
      | _ => cases hr
  unfold bin at hr
  cases x' with
  | int k1 n =>
    cases y' with
    | int k2 m =>
      obtain ⟨r, v, g1, g2, g3⟩ := aint_runs (cx := cx) (w := w) (t := t) hr
      exact done_out hs (bin_plain (by rw [eqGuard_at_int]; rfl) g1 ho (rep_int hx) (rep_int hy)) g3 g2 (fun g hg => .inl hg) hn
    | _ => cases hr
  | str l =>
    cases y' with
    | str m =>
      obtain ⟨sx, ex, hx⟩ := rep_str hx
      obtain ⟨sy, ey, hy⟩ := rep_str hy
      have hbeq : (sx.toList == sy.toList) = (l == m) := by rw [bytes_beq, hx, hy]
      cases op with
      | add =>
        simp only at hr
        split at hr
        · rename_i hlim
          have hlx : sx.size = l.length := by rw [← hx, bytesOf_length]
          have hly : sy.size = m.length := by rw [← hy, bytesOf_length]
          refine done_out hs (bin_plain (r := .string (sx ++ sy)) (by rw [eqGuard_at_string]; rfl) ?_ ho ex ey) hr (.str _ _ ?_) (fun g hg => .inl hg) hn
          · have : ¬ ((9223372036854775807 : Int) < (sx.size : Int) + (sy.size : Int)) := by omega
            simp [binOp, Op.stringOp, this]
          · rw [← hx, ← hy]; simp [bytesOf]
        · cases hr
      | eql =>
        refine done_out hs (bin_plain (r := .bool (l == m)) (by rw [eqGuard_at_string]; rfl) ?_ ho ex ey) hr (.bool _) (fun g hg => .inl hg) hn
        simp only [binOp, Op.stringOp, hbeq]; rfl
      | neq =>
        refine done_out hs (bin_plain (r := .bool (!(l == m))) (by rw [eqGuard_at_string]; rfl) ?_ ho ex ey) hr (.bool _) (fun g hg => .inl hg) hn
        simp only [binOp, Op.stringOp, hbeq]; rfl
      | _ => cases hr
    | _ => cases hr
  | bool p =>
    cases y' with
    | bool q =>
      cases hu : P.underlying t with
      | none => rw [hu] at hr; cases hr
      | some d =>
        rw [hu] at hr
        cases d with
        | bool =>
          obtain ⟨r, v, g1, g2, g3, g4⟩ := eq_runs (cx := cx) (w := w) (t := t) (u := .bool p) (v := .bool q) hr (run_equal_bool w t p q hu) (fun op h => by rcases h with rfl | rfl <;> rfl)
          exact done_out hs (bin_plain (by rw [eqGuard_at_bool]; rfl) g1 ho (rep_bool hx) (rep_bool hy)) g3 g2 (fun g hg => .inl hg) hn
        | _ => cases hr
    | _ => cases hr
  | agg xs =>
    cases y' with
    | agg ys =>
      simp only at hr
      split at hr
      · rename_i hg'
        obtain ⟨hg, hrt⟩ := hg'
        cases hb : aeq P 6 t xs ys with
        | none => rw [hb] at hr; cases hr
        | some b =>
          rw [hb] at hr
          obtain ⟨vs, ex, hx, hx1⟩ := rep_agg hx
          obtain ⟨us, ey, hy, hy1⟩ := rep_agg hy
          have hrow : ∃ d, P.underlying t = some d ∧ isRow d = true := by
            unfold rowT at hrt
            cases hu : P.underlying t with
            | none => rw [hu] at hrt; cases hrt
            | some d => rw [hu] at hrt; exact ⟨d, rfl, hrt⟩
          obtain ⟨d, hu, hd⟩ := hrow
          have he : (Op.equal t (.agg vs) (.agg us)).run P w = .ok b w := aeq_run 6 t xs ys b hb 9994 (.agg vs) (.agg us) w ⟨d, hu, .inl ⟨hd, vs, rfl, hx⟩⟩ ⟨d, hu, .inl ⟨hd, us, rfl, hy⟩⟩
          obtain ⟨r, v, g1, g2, g3, g4⟩ := eq_runs (cx := cx) (w := w) hr he (fun op h => by rcases h with rfl | rfl <;> rfl)
          exact done_out hs (bin_plain (run_eqGuard_agg w op t x y vs us hg) g1 ho ex ey) g3 g2 (fun g hg => .inl hg) hn
      · cases hr
    | _ => cases hr
  | _ => exact nilcase hr
end Go.Eng
