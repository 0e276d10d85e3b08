/- The engine, part 17: what is handed in, as the row reads it, in the engine's words. For every program. -/
import Derived.Test.YtbkmbiccdhnibaaE16
import Derived.ChangeArms
set_option linter.unusedVariables false
namespace Go.Eng
open Go

/-- Every reading of type t is of cells that some list tells. -/
def Opens (P : Program) (H : Type) (t : TypeId) (R : List AV → Prop) : Prop :=
  ∀ (enc : TypeId × Value → H) (w : World) (base : Nat) (sp : Nat → Bool) (held : Bool) (n : Nat) (cs : List Value) (x : DataW H × List MemPlace), DataW.trod enc P w base sp held n t cs = some x →
    ∃ as, R as ∧ RepL (cxA w fun b => b < w.heap.size) as cs ∧ (∀ v ∈ cs, v.oneCell' = true)

variable {P : Program} {H : Type}

theorem Opens.imp {t : TypeId} {R R' : List AV → Prop} (h : Opens P H t R) (hi : ∀ as, R as → R' as) : Opens P H t R' := fun enc w base sp held n cs x hx =>
  let ⟨as, h1, h2⟩ := h enc w base sp held n cs x hx
  ⟨as, hi as h1, h2⟩

theorem opens_int {t : TypeId} {k : IntKind} (ht : P.underlying t = some (.int k)) : Opens P H t fun as => ∃ n : Int, (k.min ≤ n ∧ n ≤ k.max) ∧ as = [.int k n] := by
  intro enc w base sp held n cs x h
  obtain ⟨m, rfl, rfl, hw⟩ := DataW.trod_int ht h
  refine ⟨_, ⟨m, ?_, rfl⟩, .cons (.int k m) (RepL.nil _), by simp [Value.oneCell']⟩
  simpa [Lit.wf] using hw

theorem bytesOf_in (s : ByteArray) : ∀ c ∈ bytesOf s, 0 ≤ c ∧ c < 256 := by
  intro c hc
  simp only [bytesOf, List.mem_map] at hc
  obtain ⟨b, _, rfl⟩ := hc
  have := b.toNat_lt
  omega
theorem opens_str {t : TypeId} (ht : P.underlying t = some .string) : Opens P H t fun as => ∃ l : List Int, (∀ c ∈ l, 0 ≤ c ∧ c < 256) ∧ l.length ≤ maxLen ∧ as = [.str l] := by
  intro enc w base sp held n cs x h
  obtain ⟨s, rfl, rfl, hs⟩ := DataW.trod_string ht h
  exact ⟨_, ⟨bytesOf s, bytesOf_in s, by rw [bytesOf_length]; exact hs, rfl⟩, .cons (.str s _ rfl) (RepL.nil _), by simp [Value.oneCell']⟩

theorem flatten_len {α : Type} {s : Nat} : ∀ {els : List (List α)}, (∀ c ∈ els, c.length = s) → els.flatten.length = els.length * s
  | [], _ => by simp
  | c :: els, h => by
    rw [List.flatten_cons, List.length_append, h c List.mem_cons_self, flatten_len fun c hc => h c (List.mem_cons_of_mem _ hc), List.length_cons, Nat.succ_mul, Nat.add_comm]
theorem cell_of_some {w : World} {a : Addr} {v : Value} (h : w.cell? a = some v) : ∃ arr el fz, a.spot = none ∧ w.heap[a.block]? = some (.cells arr el fz) ∧ arr[a.off]? = some v := by
  unfold World.cell? at h
  split at h
  · rename_i c el fz hb
    split at h
    · cases h
    · rename_i hs
      exact ⟨c, el, fz, by simpa using hs, hb, h⟩
  · cases h

theorem opens_slice {t e : TypeId} {s : Nat} {R : List AV → Prop} (ht : P.underlying t = some (.slice e)) (hc : P.cellsOf e = s) (hs : 0 < s) (he : Opens P H e R) :
    Opens P H t fun as => ∃ els : List (List AV), (∀ c ∈ els, R c ∧ c.length = s) ∧ els.length ≤ maxLen ∧ as = [.sl els.length els.flatten] := by
  intro enc w base sp held n cs x h
  rcases DataW.trod_slice ht h with ⟨rfl, _⟩ | ⟨a, len, cap, elems, rest, m, _, rfl, _, hb, hl, hm, hlen, hel, _, _⟩
  · exact ⟨_, ⟨[], by simp, Nat.zero_le _, rfl⟩, .cons (.sl0 none 0) (RepL.nil _), by simp [Value.oneCell']⟩
  · rw [hc] at hel
    have key : ∀ k, k ≤ len → ∃ els : List (List AV), els.length = k ∧ (∀ c ∈ els, R c ∧ c.length = s) ∧ (∀ i, i < k * s → ∃ v, w.cell? (a.add i) = some v ∧ v.oneCell' = true) ∧
        ∀ (i : Nat) (x : AV) (v : Value), els.flatten[i]? = some x → w.cell? (a.add i) = some v → Rep (cxA w fun b => b < w.heap.size) x v := by
      intro k
      induction k with
      | zero => intro _; exact ⟨[], rfl, by simp, fun i hi => by omega, fun i x v hx => by simp at hx⟩
      | succ k ih =>
        intro hk
        obtain ⟨els, h1, h2, h3, h4⟩ := ih (by omega)
        have hk' := hel k (by omega)
        rw [List.getElem?_eq_getElem (by omega)] at hk'
        obtain ⟨vs, g1, g2⟩ := Option.bind_eq_some_iff.1 hk'
        obtain ⟨as, r1, r2, r3⟩ := he enc w base sp held m vs _ g2
        obtain ⟨_, q1, q2⟩ := World.cells?_some g1
        have hadd : ∀ i, (a.add (k * s)).add i = a.add (k * s + i) := fun i => by
          unfold Addr.add
          by_cases e1 : i = 0
          · subst e1; simp
          · by_cases e2 : k * s = 0
            · simp [e1, e2]
            · have : k * s + i ≠ 0 := by omega
              simp [e1, e2, Nat.add_assoc]
        have hfl : els.flatten.length = k * s := by rw [flatten_len fun c hc => (h2 c hc).2, h1]
        have hasl : as.length = s := by rw [r2.1]; exact q1
        refine ⟨els ++ [as], by simp [h1], fun c hc => ?_, fun i hi => ?_, fun i x v hx hv => ?_⟩
        · rcases List.mem_append.1 hc with hc | hc
          · exact h2 c hc
          · rw [List.mem_singleton] at hc; subst hc; exact ⟨r1, hasl⟩
        · rw [Nat.succ_mul] at hi
          by_cases hi' : i < k * s
          · exact h3 i hi'
          · have := q2 (i - k * s) (by omega)
            rw [hadd, show k * s + (i - k * s) = i by omega] at this
            have hlt : i - k * s < vs.length := by omega
            rw [List.getElem?_eq_getElem hlt] at this
            exact ⟨_, this, r3 _ (List.getElem_mem hlt)⟩
        · rw [List.flatten_append] at hx
          by_cases hi' : i < k * s
          · rw [List.getElem?_append_left (by omega)] at hx
            exact h4 i x v hx hv
          · rw [List.getElem?_append_right (by omega), hfl] at hx
            simp only [List.flatten_cons, List.flatten_nil, List.append_nil] at hx
            have hlt : i - k * s < as.length := (List.getElem?_eq_some_iff.1 hx).1
            have := q2 (i - k * s) (by omega)
            rw [hadd, show k * s + (i - k * s) = i by omega, hv] at this
            exact r2.2 _ x v hx this.symm
    obtain ⟨els, h1, h2, h3, h4⟩ := key len (Nat.le_refl _)
    have hfl : els.flatten.length = len * s := by rw [flatten_len fun c hc => (h2 c hc).2, h1]
    refine ⟨_, ⟨els, h2, by omega, rfl⟩, .cons ?_ (RepL.nil _), by simp [Value.oneCell']⟩
    rw [h1]
    by_cases h0 : len = 0
    · subst h0
      have : els = [] := List.eq_nil_of_length_eq_zero h1
      subst this
      exact .sl0 _ _
    · have hpos : 0 < len * s := Nat.mul_pos (by omega) hs
      obtain ⟨v0, g0, _⟩ := h3 0 hpos
      obtain ⟨arr, el, fz, hsp, hblk, _⟩ := cell_of_some g0
      have hsp' : a.spot = none := by simpa [Addr.add] using hsp
      have hblk' : w.heap[a.block]? = some (.cells arr el fz) := by simpa [Addr.add] using hblk
      have hat : ∀ i, w.cell? (a.add i) = arr[a.off + i]? := fun i => by
        rw [add_off _ _ hsp', cell_at hblk']
      have hsize : a.off + len * s ≤ arr.size := by
        obtain ⟨v1, g1, _⟩ := h3 (len * s - 1) (by omega)
        rw [hat] at g1
        have := (Array.getElem?_eq_some_iff.1 g1).1
        omega
      refine .sl len els.flatten a cap arr el fz ?_ hblk' hsp' hl (by rw [hfl]; exact hsize) (fun i v hi hv => ?_) fun i x v hx hv => h4 i x v hx (by rw [hat]; exact hv)
      · show a.block < w.heap.size
        exact (Array.getElem?_eq_some_iff.1 hblk').1
      · obtain ⟨u, g1, g2⟩ := h3 i (by omega)
        rw [hat, hv] at g1
        cases g1; exact g2
/-- A structure: its parts, one behind the other. -/
theorem opens_struct {t : TypeId} {fs : Array Field} {Rs : List (Field × (List AV → Prop))} (ht : P.underlying t = some (.struct fs)) (hfs : fs.toList = Rs.map (·.1))
    (hoff : ∀ (i : Nat) (p : Field × (List AV → Prop)), Rs[i]? = some p → p.1.offset = ((Rs.take i).map fun q => P.cellsOf q.1.type).sum) (htot : P.cellsOf t = (Rs.map fun q => P.cellsOf q.1.type).sum)
    (hR : ∀ p ∈ Rs, Opens P H p.1.type p.2) :
    Opens P H t fun as => ∃ parts : List (List AV), parts.length = Rs.length ∧ (∀ (i : Nat) (p : Field × (List AV → Prop)) (c : List AV), Rs[i]? = some p → parts[i]? = some c → p.2 c ∧ c.length = P.cellsOf p.1.type) ∧ as = parts.flatten := by
  intro enc w base sp held n cs x h
  obtain ⟨xs, m, _, _, hl, hxl, hf⟩ := DataW.trod_struct ht h
  have key : ∀ (k : Nat), k ≤ Rs.length → ∃ parts : List (List AV), parts.length = k ∧ (∀ (i : Nat) (p : Field × (List AV → Prop)) (c : List AV), Rs[i]? = some p → parts[i]? = some c → p.2 c ∧ c.length = P.cellsOf p.1.type) ∧
      RepL (cxA w fun b => b < w.heap.size) parts.flatten (cs.take ((Rs.take k).map fun q => P.cellsOf q.1.type).sum) ∧ ∀ v ∈ cs.take ((Rs.take k).map fun q => P.cellsOf q.1.type).sum, v.oneCell' = true := by
    intro k
    induction k with
    | zero => intro _; exact ⟨[], rfl, fun i p c _ h => by simp at h, by simpa using RepL.nil _, by simp⟩
    | succ k ih =>
      intro hk
      obtain ⟨parts, h1, h2, h3, h4⟩ := ih (by omega)
      have hlt : k < Rs.length := by omega
      have hpk : Rs[k]? = some Rs[k] := List.getElem?_eq_getElem hlt
      have hfk : fs[k]? = some Rs[k].1 := by
        rw [← Array.getElem?_toList, hfs, List.getElem?_map, hpk]; rfl
      have hread := hf k _ hfk
      have hxk : k < xs.length := by
        have : fs.size = Rs.length := by rw [← Array.length_toList, hfs, List.length_map]
        omega
      rw [List.getElem?_eq_getElem hxk, hoff k _ hpk] at hread
      obtain ⟨as, r1, r2, r3⟩ := hR _ (List.getElem_mem hlt) enc w base sp held m _ _ hread
      have hsum : ((Rs.take (k + 1)).map fun q => P.cellsOf q.1.type).sum = ((Rs.take k).map fun q => P.cellsOf q.1.type).sum + P.cellsOf Rs[k].1.type := by
        rw [List.take_add_one, hpk, List.map_append, List.sum_append]
        simp only [Option.toList_some, List.map_cons, List.map_nil, List.sum_cons, List.sum_nil, Nat.add_zero]
      have hle : ((Rs.take (k + 1)).map fun q => P.cellsOf q.1.type).sum ≤ cs.length := by
        rw [hl, htot]
        have : Rs = Rs.take (k + 1) ++ Rs.drop (k + 1) := (List.take_append_drop _ _).symm
        conv => rhs; rw [this]
        rw [List.map_append, List.sum_append]; omega
      have hcs : cs.take ((Rs.take (k + 1)).map fun q => P.cellsOf q.1.type).sum = cs.take ((Rs.take k).map fun q => P.cellsOf q.1.type).sum ++ (cs.drop ((Rs.take k).map fun q => P.cellsOf q.1.type).sum).take (P.cellsOf Rs[k].1.type) := by
        rw [hsum, List.take_add]
      have hasl : as.length = P.cellsOf Rs[k].1.type := by
        rw [r2.1, List.length_take, List.length_drop]; omega
      refine ⟨parts ++ [as], by simp [h1], fun i p c hp hc => ?_, ?_, ?_⟩
      · by_cases hi : i < k
        · rw [List.getElem?_append_left (by omega)] at hc
          exact h2 i p c hp hc
        · have hik : i = k := by
            have := (List.getElem?_eq_some_iff.1 hc).1
            simp at this; omega
          subst hik
          rw [hpk] at hp; cases hp
          rw [List.getElem?_append_right (by omega), h1] at hc
          simp at hc; subst hc
          exact ⟨r1, hasl⟩
      · rw [hcs, List.flatten_append]
        simpa using h3.append r2
      · rw [hcs]
        intro v hv
        rcases List.mem_append.1 hv with hv | hv
        · exact h4 v hv
        · exact r3 v hv
  obtain ⟨parts, h1, h2, h3, h4⟩ := key Rs.length (Nat.le_refl _)
  rw [List.take_of_length_le (Nat.le_refl _), ← htot, ← hl, List.take_of_length_le (Nat.le_refl _)] at h3 h4
  exact ⟨_, ⟨parts, h1, h2, rfl⟩, h3, h4⟩
/-- All elements have a form: then the list has. -/
theorem all_form {α β : Type} {R : β → Prop} {f : α → β} : ∀ {l : List β}, (∀ c ∈ l, R c) → (∀ c, R c → ∃ a, c = f a) → ∃ as : List α, l = as.map f
  | [], _, _ => ⟨[], rfl⟩
  | c :: l, h, hf => by
    obtain ⟨a, rfl⟩ := hf c (h c List.mem_cons_self)
    obtain ⟨as, rfl⟩ := all_form (fun c hc => h c (List.mem_cons_of_mem _ hc)) hf
    exact ⟨a :: as, rfl⟩
theorem flatten_u8 : ∀ (l : List Int), (l.map fun n => [AV.int .u8 n]).flatten = u8s l
  | [] => rfl
  | n :: l => by rw [List.map_cons, List.flatten_cons, flatten_u8 l]; rfl
/-- Bytes. -/
theorem opens_bytes {t e : TypeId} (ht : P.underlying t = some (.slice e)) (he : P.underlying e = some (.int .u8)) (hc : P.cellsOf e = 1) :
    Opens P H t fun as => ∃ l : List Int, (∀ c ∈ l, 0 ≤ c ∧ c < 256) ∧ l.length ≤ maxLen ∧ as = [.sl l.length (u8s l)] := by
  refine (opens_slice ht hc (by omega) (opens_int he)).imp ?_
  rintro as ⟨els, h1, h2, rfl⟩
  obtain ⟨l, rfl⟩ := all_form (f := fun n : Int => [AV.int .u8 n]) h1 fun c hc => let ⟨⟨n, _, e⟩, _⟩ := hc; ⟨n, e⟩
  refine ⟨l, fun c hc => ?_, by simpa using h2, by rw [flatten_u8]; simp⟩
  obtain ⟨⟨n, hn, e⟩, _⟩ := h1 [AV.int .u8 c] (List.mem_map.2 ⟨c, hc, rfl⟩)
  simp only [List.cons.injEq, AV.int.injEq, true_and, and_true] at e
  subst e
  simp [IntKind.min, IntKind.max, IntKind.bits, IntKind.signed] at hn
  omega
/-- An argument of one cell, as the row reads it. -/
theorem trod_arg {t : TypeId} {R : List AV → Prop} (ho : Opens P H t R) {enc : TypeId × Value → H} {w : World} {base : Nat} {sp : Nat → Bool} {held : Bool} {v : Value} {d : DataW H} {ps : List MemPlace}
    (h : DataW.Trod enc P w base sp held t v d ps) (hv : v.cells = #[v]) : ∃ a, R [a] ∧ Rep (cxA w fun b => b < w.heap.size) a v := by
  obtain ⟨n, hn⟩ := h
  obtain ⟨as, h1, h2, _⟩ := ho enc w base sp held n _ _ hn
  rw [hv] at h2
  have hl := h2.1
  match as, h1, h2, hl with
  | [a], h1, h2, _ => exact ⟨a, h1, h2.2 0 a v rfl rfl⟩
  | [], _, _, hl => simp at hl
  | _ :: _ :: _, _, _, hl => simp at hl
/-- A structure or an array, as the row reads it. -/
theorem trod_agg {t : TypeId} {R : List AV → Prop} (ho : Opens P H t R) {enc : TypeId × Value → H} {w : World} {base : Nat} {sp : Nat → Bool} {held : Bool} {vs : Array Value} {d : DataW H} {ps : List MemPlace}
    (h : DataW.Trod enc P w base sp held t (.agg vs) d ps) : ∃ as, R as ∧ Rep (cxA w fun b => b < w.heap.size) (.agg as) (.agg vs) := by
  obtain ⟨n, hn⟩ := h
  obtain ⟨as, h1, h2, h3⟩ := ho enc w base sp held n _ _ hn
  refine ⟨as, h1, rep_mkagg h2 fun i u hu => h3 u ?_⟩
  show u ∈ vs.toList
  exact List.mem_of_getElem? (by simpa using hu)
end Go.Eng
