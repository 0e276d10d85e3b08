/- The engine, part 24: as part 19, with another premise on what is read (as its bulk). For every program. -/
import Derived.Test.YteapibifebnboaaGEc
set_option linter.unusedVariables false
namespace Go.Eng
open Go
variable {P : Program} {H : Type} {S : DataW H → Prop} {K : Nat}
/-- Every reading of type t that the premise allows is of cells that some list tells. -/
def OpensK {H : Type} (S : DataW H → Prop) (P : Program) (_ : Type) (t : TypeId) (R : List AV → Prop) : Prop :=
  ∀ (enc : TypeId × Value → H) (w : World) (base : Nat) (sp : Nat → Bool) (held : Bool) (n : Nat) (cs : List Value) (x : DataW H × List MemPlace), DataW.trod enc P w base sp held n t cs = some x → S x.1 →
    ∃ as, R as ∧ RepL (cxA w fun b => b < w.heap.size) as cs ∧ (∀ v ∈ cs, v.oneCell' = true)
theorem OpensK.imp {t : TypeId} {R R' : List AV → Prop} (h : OpensK S P H t R) (hi : ∀ as, R as → R' as) : OpensK S P H t R' := fun enc w base sp held n cs x hx hw =>
  let ⟨as, h1, h2⟩ := h enc w base sp held n cs x hx hw
  ⟨as, hi as h1, h2⟩
theorem opens_intK {t : TypeId} {k : IntKind} (ht : P.underlying t = some (.int k)) : OpensK S P H t fun as => ∃ n : Int, (k.min ≤ n ∧ n ≤ k.max) ∧ as = [.int k n] := by
  intro enc w base sp held n cs x h hw
  obtain ⟨m, rfl, rfl, hwf⟩ := DataW.trod_int ht h
  refine ⟨_, ⟨m, ?_, rfl⟩, .cons (.int k m) (RepL.nil _), by simp [Value.oneCell']⟩
  simpa [Lit.wf] using hwf
theorem opens_sliceK {t e : TypeId} {s : Nat} {R : List AV → Prop} (ht : P.underlying t = some (.slice e)) (hc : P.cellsOf e = s) (hs : 0 < s) (hS : ∀ elems spare, S (.slice elems spare) → elems.length ≤ K ∧ ∀ d ∈ elems, S d) (he : OpensK S P H e R) :
    OpensK S P H t fun as => ∃ els : List (List AV), (∀ c ∈ els, R c ∧ c.length = s) ∧ els.length ≤ K ∧ as = [.sl els.length els.flatten] := by
  intro enc w base sp held n cs x h hw
  rcases DataW.trod_slice ht h with ⟨rfl, _⟩ | ⟨a, len, cap, elems, rest, m, _, rfl, hx, hb, hl, hm, hlen, hel, _, _⟩
  · exact ⟨_, ⟨[], by simp, Nat.zero_le _, rfl⟩, .cons (.sl0 none 0) (RepL.nil _), by simp [Value.oneCell']⟩
  · rw [hc] at hel
    rw [hx] at hw
    obtain ⟨hl1, hel2⟩ := hS _ _ hw
    have hlen2 : len ≤ K := by rw [List.length_map, hlen] at hl1; exact hl1
    have key : ∀ k, k ≤ len → ∃ els : List (List AV), els.length = k ∧ (∀ c ∈ els, R c ∧ c.length = s) ∧ (∀ i, i < k * s → ∃ v, w.cell? (a.add i) = some v ∧ v.oneCell' = true) ∧
        ∀ (i : Nat) (x : AV) (v : Value), els.flatten[i]? = some x → w.cell? (a.add i) = some v → Rep (cxA w fun b => b < w.heap.size) x v := by
      intro k
      induction k with
      | zero => intro _; exact ⟨[], rfl, by simp, fun i hi => by omega, fun i x v hx => by simp at hx⟩
      | succ k ih =>
        intro hk
        obtain ⟨els, h1, h2, h3, h4⟩ := ih (by omega)
        have hk' := hel k (by omega)
        rw [List.getElem?_eq_getElem (by omega)] at hk'
        obtain ⟨vs, g1, g2⟩ := Option.bind_eq_some_iff.1 hk'
        obtain ⟨as, r1, r2, r3⟩ := he enc w base sp held m vs _ g2 (hel2 _ (List.mem_map.2 ⟨_, List.getElem_mem _, rfl⟩))
        obtain ⟨_, q1, q2⟩ := World.cells?_some g1
        have hadd : ∀ i, (a.add (k * s)).add i = a.add (k * s + i) := fun i => by
          unfold Addr.add
          by_cases e1 : i = 0
          · subst e1; simp
          · by_cases e2 : k * s = 0
            · simp [e1, e2]
            · have : k * s + i ≠ 0 := by omega
              simp [e1, e2, Nat.add_assoc]
        have hfl : els.flatten.length = k * s := by rw [flatten_len fun c hc => (h2 c hc).2, h1]
        have hasl : as.length = s := by rw [r2.1]; exact q1
        refine ⟨els ++ [as], by simp [h1], fun c hc => ?_, fun i hi => ?_, fun i x v hx hv => ?_⟩
        · rcases List.mem_append.1 hc with hc | hc
          · exact h2 c hc
          · rw [List.mem_singleton] at hc; subst hc; exact ⟨r1, hasl⟩
        · rw [Nat.succ_mul] at hi
          by_cases hi' : i < k * s
          · exact h3 i hi'
          · have := q2 (i - k * s) (by omega)
            rw [hadd, show k * s + (i - k * s) = i by omega] at this
            have hlt : i - k * s < vs.length := by omega
            rw [List.getElem?_eq_getElem hlt] at this
            exact ⟨_, this, r3 _ (List.getElem_mem hlt)⟩
        · rw [List.flatten_append] at hx
          by_cases hi' : i < k * s
          · rw [List.getElem?_append_left (by omega)] at hx
            exact h4 i x v hx hv
          · rw [List.getElem?_append_right (by omega), hfl] at hx
            simp only [List.flatten_cons, List.flatten_nil, List.append_nil] at hx
            have hlt : i - k * s < as.length := (List.getElem?_eq_some_iff.1 hx).1
            have := q2 (i - k * s) (by omega)
            rw [hadd, show k * s + (i - k * s) = i by omega, hv] at this
            exact r2.2 _ x v hx this.symm
    obtain ⟨els, h1, h2, h3, h4⟩ := key len (Nat.le_refl _)
    have hfl : els.flatten.length = len * s := by rw [flatten_len fun c hc => (h2 c hc).2, h1]
    refine ⟨_, ⟨els, h2, by omega, rfl⟩, .cons ?_ (RepL.nil _), by simp [Value.oneCell']⟩
    rw [h1]
    by_cases h0 : len = 0
    · subst h0
      have : els = [] := List.eq_nil_of_length_eq_zero h1
      subst this
      exact .sl0 _ _
    · have hpos : 0 < len * s := Nat.mul_pos (by omega) hs
      obtain ⟨v0, g0, _⟩ := h3 0 hpos
      obtain ⟨arr, el, fz, hsp, hblk, _⟩ := cell_of_some g0
      have hsp' : a.spot = none := by simpa [Addr.add] using hsp
      have hblk' : w.heap[a.block]? = some (.cells arr el fz) := by simpa [Addr.add] using hblk
      have hat : ∀ i, w.cell? (a.add i) = arr[a.off + i]? := fun i => by
        rw [add_off _ _ hsp', cell_at hblk']
      have hsize : a.off + len * s ≤ arr.size := by
        obtain ⟨v1, g1, _⟩ := h3 (len * s - 1) (by omega)
        rw [hat] at g1
        have := (Array.getElem?_eq_some_iff.1 g1).1
        omega
      refine .sl len els.flatten a cap arr el fz ?_ hblk' hsp' hl (by rw [hfl]; exact hsize) (fun i v hi hv => ?_) fun i x v hx hv => h4 i x v hx (by rw [hat]; exact hv)
      · show a.block < w.heap.size
        exact (Array.getElem?_eq_some_iff.1 hblk').1
      · obtain ⟨u, g1, g2⟩ := h3 i (by omega)
        rw [hat, hv] at g1
        cases g1; exact g2
/-- Bytes. -/
theorem opens_bytesK {t e : TypeId} (ht : P.underlying t = some (.slice e)) (he : P.underlying e = some (.int .u8)) (hc : P.cellsOf e = 1) (hS : ∀ elems spare, S (.slice elems spare) → elems.length ≤ K ∧ ∀ d ∈ elems, S d) :
    OpensK S P H t fun as => ∃ l : List Int, (∀ c ∈ l, 0 ≤ c ∧ c < 256) ∧ l.length ≤ K ∧ as = [.sl l.length (u8s l)] := by
  refine (opens_sliceK ht hc (by omega) hS (opens_intK he)).imp ?_
  rintro as ⟨els, h1, h2, rfl⟩
  obtain ⟨l, rfl⟩ := all_form (f := fun n : Int => [AV.int .u8 n]) h1 fun c hc => let ⟨⟨n, _, e⟩, _⟩ := hc; ⟨n, e⟩
  refine ⟨l, fun c hc => ?_, by simpa using h2, by rw [flatten_u8]; simp⟩
  obtain ⟨⟨n, hn, e⟩, _⟩ := h1 [AV.int .u8 c] (List.mem_map.2 ⟨c, hc, rfl⟩)
  simp only [List.cons.injEq, AV.int.injEq, true_and, and_true] at e
  subst e
  simp [IntKind.min, IntKind.max, IntKind.bits, IntKind.signed] at hn
  omega
/-- An argument of one cell, as the row reads it. -/
theorem trod_argK {t : TypeId} {R : List AV → Prop} (ho : OpensK S P H t R) {enc : TypeId × Value → H} {w : World} {base : Nat} {sp : Nat → Bool} {held : Bool} {v : Value} {d : DataW H} {ps : List MemPlace}
    (h : DataW.Trod enc P w base sp held t v d ps) (hw : S d) (hv : v.cells = #[v]) : ∃ a, R [a] ∧ Rep (cxA w fun b => b < w.heap.size) a v := by
  obtain ⟨n, hn⟩ := h
  obtain ⟨as, h1, h2, _⟩ := ho enc w base sp held n _ _ hn hw
  rw [hv] at h2
  have hl := h2.1
  match as, h1, h2, hl with
  | [a], h1, h2, _ => exact ⟨a, h1, h2.2 0 a v rfl rfl⟩
  | [], _, _, hl => simp at hl
  | _ :: _ :: _, _, _, hl => simp at hl
end Go.Eng
