/- field: what is handed in, as the row reads it. -/
import Derived.Test.YtbkmbiccdhnibaaFldM
import Derived.Test.YtbkmbiccdhnibaaE19
set_option linter.unusedVariables false
namespace Go.Proofs.Ytbkmbiccdhnibaa
open Go Go.Eng
theorem opens_two {P : Program} {H : Type} {t e : TypeId} (ht : P.underlying t = some (.array 2 e)) (he : P.underlying e = some (.int .u8)) (hc : P.cellsOf e = 1) (hct : P.cellsOf t = 2) :
    OpensW P H t fun xs => ∃ a b : Int, xs = [.int .u8 a, .int .u8 b] := by
  intro enc w base sp held n cs x h hw
  cases n with
  | zero => simp [DataW.trod] at h
  | succ n =>
    unfold DataW.trod at h
    rw [ht] at h
    simp only [hc, hct, Nat.mul_one] at h
    split at h
    · rename_i hl
      obtain ⟨ys, hy, _⟩ := Option.map_eq_some_iff.1 h
      have hyl := mapM_some_length hy
      rw [List.length_range] at hyl
      have g0 := mapM_some_get hy 0 0 (by simp)
      have g1 := mapM_some_get hy 1 1 (by simp)
      rw [List.getElem?_eq_getElem (by omega)] at g0 g1
      obtain ⟨a, e0, _, _⟩ := DataW.trod_int he g0
      obtain ⟨b, e1, _, _⟩ := DataW.trod_int he g1
      match cs, hl with
      | [u, v], _ =>
        simp at e0 e1
        subst e0; subst e1
        exact ⟨_, ⟨a, b, rfl⟩, .cons (.int .u8 a) (.cons (.int .u8 b) (RepL.nil _)), by simp [Value.oneCell']⟩
    · cases h
theorem opens_struct4W {P : Program} {H : Type} {t : TypeId} {f0 f1 f2 f3 : Field} {R0 R1 R2 R3 : List AV → Prop} (ht : P.underlying t = some (.struct #[f0, f1, f2, f3])) (h0 : OpensW P H f0.type R0) (h1 : OpensW P H f1.type R1) (h2 : OpensW P H f2.type R2) (h3 : OpensW P H f3.type R3)
    (o0 : f0.offset = 0) (o1 : f1.offset = P.cellsOf f0.type) (o2 : f2.offset = P.cellsOf f0.type + P.cellsOf f1.type) (o3 : f3.offset = P.cellsOf f0.type + P.cellsOf f1.type + P.cellsOf f2.type) (tot : P.cellsOf t = P.cellsOf f0.type + P.cellsOf f1.type + P.cellsOf f2.type + P.cellsOf f3.type) :
    OpensW P H t fun xs => ∃ a b c d, R0 a ∧ R1 b ∧ R2 c ∧ R3 d ∧ xs = a ++ (b ++ (c ++ d)) := by
  refine (opens_structW (Rs := [(f0, R0), (f1, R1), (f2, R2), (f3, R3)]) ht rfl (fun i p hp => ?_) (by simp [tot, Nat.add_assoc]) (fun p hp => ?_)).imp ?_
  · match i, hp with
    | 0, hp => cases hp; simpa using o0
    | 1, hp => cases hp; simpa using o1
    | 2, hp => cases hp; simpa using o2
    | 3, hp => cases hp; simpa [Nat.add_assoc] using o3
    | n + 4, hp => simp at hp
  · simp only [List.mem_cons, List.not_mem_nil, or_false] at hp
    rcases hp with rfl | rfl | rfl | rfl
    · exact h0
    · exact h1
    · exact h2
    · exact h3
  · rintro xs ⟨parts, hl, hp, rfl⟩
    match parts, hl with
    | [a, b, c, d], _ =>
      exact ⟨a, b, c, d, (hp 0 _ a rfl rfl).1, (hp 1 _ b rfl rfl).1, (hp 2 _ c rfl rfl).1, (hp 3 _ d rfl rfl).1, by simp⟩
theorem opens_struct2W {P : Program} {H : Type} {t : TypeId} {f0 f1 : Field} {R0 R1 : List AV → Prop} (ht : P.underlying t = some (.struct #[f0, f1])) (h0 : OpensW P H f0.type R0) (h1 : OpensW P H f1.type R1)
    (o0 : f0.offset = 0) (o1 : f1.offset = P.cellsOf f0.type) (tot : P.cellsOf t = P.cellsOf f0.type + P.cellsOf f1.type) :
    OpensW P H t fun xs => ∃ a b, R0 a ∧ R1 b ∧ xs = a ++ b := by
  refine (opens_structW (Rs := [(f0, R0), (f1, R1)]) ht rfl (fun i p hp => ?_) (by simp [tot]) (fun p hp => ?_)).imp ?_
  · match i, hp with
    | 0, hp => cases hp; simpa using o0
    | 1, hp => cases hp; simpa using o1
    | n + 2, hp => simp at hp
  · simp only [List.mem_cons, List.not_mem_nil, or_false] at hp
    rcases hp with rfl | rfl
    · exact h0
    · exact h1
  · rintro xs ⟨parts, hl, hp, rfl⟩
    match parts, hl with
    | [a, b], _ => exact ⟨a, b, (hp 0 _ a rfl rfl).1, (hp 1 _ b rfl rfl).1, by simp⟩
theorem opensTextW {H : Type} : OpensW Try.prog H 22 fun xs => ∃ l : List Int, (∀ c ∈ l, 0 ≤ c ∧ c < 256) ∧ l.length ≤ 140737488351232 ∧ xs = [.sl l.length (u8s l)] :=
  opens_bytesW Try.underlying22 Try.underlying5 (by kernel_rfl) (by kernel_rfl)
theorem opensSubW {H : Type} : OpensW Try.prog H 57 fun xs => ∃ s : SubV, s.2.length ≤ 140737488351232 ∧ xs = sCells s := by
  refine (opens_struct2W Try.underlying57 (opens_intW Try.underlying5) opensTextW (by kernel_rfl) (by kernel_rfl) (by kernel_rfl)).imp ?_
  rintro xs ⟨a, b, ⟨n, _, rfl⟩, ⟨l, _, l2, rfl⟩, rfl⟩
  exact ⟨(n, l), l2, rfl⟩
theorem opensSubsW {H : Type} : OpensW Try.prog H 40 fun xs => ∃ L : List SubV, (∀ s ∈ L, s.2.length ≤ 140737488351232) ∧ L.length ≤ 140737488351232 ∧ xs = [.sl L.length (subCells L)] := by
  refine (opens_sliceW (s := 2) Try.underlying40 (by kernel_rfl) (by omega) (of_decide_eq_true (by kernel_rfl)) opensSubW).imp ?_
  rintro xs ⟨els, h1, h2, rfl⟩
  obtain ⟨L, rfl⟩ := all_form (f := sCells) h1 fun c hc => let ⟨⟨s, _, h⟩, _⟩ := hc; ⟨s, h⟩
  refine ⟨L, fun s hs => ?_, by simpa using h2, by rw [List.length_map]; rfl⟩
  obtain ⟨⟨s', l1, h⟩, _⟩ := h1 (sCells s) (List.mem_map.2 ⟨s, hs, rfl⟩)
  simp only [sCells, List.cons.injEq, AV.int.injEq, AV.sl.injEq, true_and, and_true] at h
  omega
theorem opensFieldW {H : Type} : OpensW Try.prog H 42 fun xs => ∃ f : FV, f.tag.length ≤ 140737488351232 ∧ f.text.length ≤ 140737488351232 ∧ (∀ s ∈ f.subs, s.2.length ≤ 140737488351232) ∧ f.subs.length ≤ 140737488351232 ∧ xs = fCells f := by
  refine (opens_struct4W Try.underlying42 (opens_strW Try.underlying9) opensTextW (opens_two Try.underlying39 Try.underlying5 (by kernel_rfl) (by kernel_rfl)) opensSubsW (by kernel_rfl) (by kernel_rfl) (by kernel_rfl) (by kernel_rfl) (by kernel_rfl)).imp ?_
  rintro xs ⟨a, b, c, d, ⟨tag, _, t2, rfl⟩, ⟨tx, _, x2, rfl⟩, ⟨i, j, rfl⟩, ⟨L, l1, l2, rfl⟩, rfl⟩
  exact ⟨⟨tag, tx, i, j, L⟩, t2, x2, l1, l2, rfl⟩
theorem opensU16W {H : Type} : OpensW Try.prog H 37 fun xs => ∃ n : Int, (IntKind.u16.min ≤ n ∧ n ≤ IntKind.u16.max) ∧ xs = [.int .u16 n] := opens_intW Try.underlying37
theorem FieldCut_call {xs : List AV} {b : AV} (h : ∃ f : FV, f.tag.length ≤ 140737488351232 ∧ f.text.length ≤ 140737488351232 ∧ (∀ s ∈ f.subs, s.2.length ≤ 140737488351232) ∧ f.subs.length ≤ 140737488351232 ∧ xs = fCells f) (k : ∃ n : Int, (IntKind.u16.min ≤ n ∧ n ≤ IntKind.u16.max) ∧ [b] = [.int .u16 n]) :
    ACall Try.prog 6 [.agg xs, b] (.bool true) none := by
  obtain ⟨f, h1, h2, h3, h4, rfl⟩ := h
  obtain ⟨n, k1, e⟩ := k
  cases e
  simp [IntKind.min, IntKind.max, IntKind.bits, IntKind.signed] at k1
  exact FieldCut_c f h1 h2 h3 h4 n (by omega)
end Go.Proofs.Ytbkmbiccdhnibaa
