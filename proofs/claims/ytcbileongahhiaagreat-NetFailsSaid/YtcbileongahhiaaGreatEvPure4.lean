/- The operations that look at no memory: all of them. -/
import Derived.Test.YtcbileongahhiaaGreatEvPure3
namespace Go.Proofs.YtcbileongahhiaaGreat.Ev
open Go
set_option linter.unusedVariables false
set_option linter.unusedSimpArgs false

section build
variable {P : Program} {ι : Inj}

theorem foldl_splice : ∀ (l : List Value) (cs : Array Value) (off k : Nat), off + k + l.length ≤ cs.size →
    ((l.zipIdx k).foldl (fun cs (x : Value × Nat) => cs.setIfInBounds (off + x.2) x.1) cs).toList = cs.toList.take (off + k) ++ l ++ cs.toList.drop (off + k + l.length)
  | [], cs, off, k, h => by simp
  | v :: l, cs, off, k, h => by
    simp only [List.zipIdx_cons, List.foldl_cons, List.length_cons] at h ⊢
    rw [foldl_splice l _ off (k + 1) (by simp; omega)]
    have hlt : off + k < cs.toList.length := by simp; omega
    simp only [Array.toList_setIfInBounds]
    rw [show off + (k + 1) = off + k + 1 by omega, show off + k + 1 + l.length = off + k + (l.length + 1) by omega]
    rw [List.take_set, List.drop_set_of_lt (by omega), List.take_succ_eq_append_getElem hlt]
    have : ((cs.toList.take (off + k) ++ [cs.toList[off + k]]).set (off + k) v) = cs.toList.take (off + k) ++ [v] := by
      have hl : (cs.toList.take (off + k)).length = off + k := by rw [List.length_take]; simp only [Array.length_toList] at hlt ⊢; omega
      rw [List.set_append_right _ _ (by omega), hl, Nat.sub_self]
      rfl
    rw [this]
    simp

theorem fill_run {pl : Nat → Option (Nat × Nat)} {pl' : Nat → Option (Nat × Nat)} (hp : ∀ i x, pl i = some x → pl' i = some x) : ∀ (ps : List (Nat × AV)) (ps' : List (Nat × Value)) (cells r : List AV) (cells' : Array Value),
    ps'.length = ps.length → (∀ (i : Nat) (x : Nat × AV) (x' : Nat × Value), ps[i]? = some x → ps'[i]? = some x' → x'.1 = x.1 ∧ VRL ι x.2.cells x'.2.cells.toList) → VRL ι cells cells'.toList → fillAV pl cells ps = some r →
    ∃ r', Instr.fill pl' cells' ps' = some r' ∧ VRL ι r r'.toList ∧ r'.size = cells'.size
  | [], ps', cells, r, cells', hl, _, hc, h => by
    have : ps' = [] := by simpa using hl
    subst this
    simp only [fillAV, Option.some.injEq] at h
    subst h
    exact ⟨cells', rfl, hc, rfl⟩
  | (i, v) :: ps, [], cells, r, cells', hl, _, _, _ => by simp at hl
  | (i, v) :: ps, (i', v') :: ps', cells, r, cells', hl, hr, hc, h => by
    obtain ⟨e, rv⟩ := hr 0 (i, v) (i', v') rfl rfl
    simp only at e rv
    subst e
    simp only [fillAV] at h
    cases hpl : pl i' with
    | none => simp [hpl] at h
    | some x =>
      obtain ⟨off, size⟩ := x
      simp only [hpl] at h
      split at h
      · cases h
      · rename_i hcond
        simp only [Bool.or_eq_true, bne_iff_ne, ne_eq, decide_eq_true_eq, not_or, Classical.not_not, Nat.not_lt] at hcond
        obtain ⟨c1, c2⟩ := hcond
        have hlen := VRL.length rv
        have hlen' := VRL.length hc
        rw [Array.length_toList] at hlen hlen'
        have hnew : VRL ι (cells.take off ++ v.cells ++ cells.drop (off + v.cells.length)) (v'.cells.zipIdx.foldl (fun cs (x : Value × Nat) => cs.setIfInBounds (off + x.2) x.1) cells').toList := by
          rw [← Array.foldl_toList, Array.toList_zipIdx, foldl_splice v'.cells.toList cells' off 0 (by simp; omega)]
          simp only [Nat.add_zero, Array.length_toList, hlen]
          exact VRL.append (VRL.append (VRL.take _ hc) rv) (VRL.drop _ hc)
        obtain ⟨r', h1, h2, h3⟩ := fill_run hp ps ps' _ r _ (by simpa using hl) (fun j x x' ha hb => hr (j + 1) x x' (by simpa using ha) (by simpa using hb)) hnew h
        refine ⟨r', ?_, h2, ?_⟩
        · simp only [Instr.fill, hp _ _ hpl]
          rw [if_neg]
          · exact h1
          · simp only [Bool.or_eq_true, bne_iff_ne, ne_eq, decide_eq_true_eq, not_or, Classical.not_not, Nat.not_lt]
            exact ⟨by omega, by omega⟩
        · rw [h3]
          have := VRL.length hnew
          rw [Array.length_toList] at this
          simp only [List.length_append, List.length_take, List.length_drop] at this
          omega

theorem partVals_rel {ρ : Operand → Option AV} {ev : Operand → Value} : ∀ {l : List (Nat × Operand)} {ps : List (Nat × AV)}, (∀ x ∈ l.map (·.2), ∀ a, ρ x = some a → VR ι a (ev x)) →
    partVals ρ l = some ps →
    (l.map fun x => (x.1, ev x.2)).length = ps.length ∧ ∀ (i : Nat) (x : Nat × AV) (x' : Nat × Value), ps[i]? = some x → (l.map fun x => (x.1, ev x.2))[i]? = some x' → x'.1 = x.1 ∧ VRL ι x.2.cells x'.2.cells.toList
  | [], ps, _, h => by simp [partVals] at h; subst h; simp
  | (k, x) :: l, ps, hρ, h => by
    simp only [partVals] at h
    cases h1 : ρ x with
    | none => simp [h1] at h
    | some a =>
      cases h2 : partVals ρ l with
      | none => simp [h1, h2] at h
      | some qs =>
        simp only [h1, h2, Option.some.injEq] at h
        subst h
        obtain ⟨e1, e2⟩ := partVals_rel (fun y hy => hρ y (by simp at hy ⊢; exact .inr hy)) h2
        refine ⟨by simpa using e1, fun i y y' ha hb => ?_⟩
        cases i with
        | zero =>
          simp at ha hb
          subst ha; subst hb
          exact ⟨rfl, VR.cells (hρ x (by simp) a h1)⟩
        | succ i => exact e2 i y y' (by simpa using ha) (by simpa using hb)

theorem mapM_run {α β : Type} (f : α → Sem β) (g : α → β) : ∀ (l : List α), (∀ a ∈ l, ∀ w, (f a).run P w = .ok (g a) w) → ∀ w, (l.mapM f).run P w = .ok (l.map g) w
  | [], _, w => rfl
  | a :: l, h, w => by
    rw [List.mapM_cons]
    simp only [Sem.run_bind, h a (by simp), Result.andThen_ok, mapM_run f g l (fun b hb => h b (by simp [hb])), Sem.run_pure, List.map_cons]

end build
end Go.Proofs.YtcbileongahhiaaGreat.Ev
