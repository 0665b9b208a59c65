/- A region whose order is drawn: what the text's order shows. -/
import Derived.Test.YtcbileongahhiaaGreatEvOps
import Derived.Orders
namespace Go.Proofs.YtcbileongahhiaaGreat.Ev
open Go
set_option linter.unusedVariables false
set_option linter.unusedSimpArgs false

/-! what stands ahead of what -/

section bef
variable {ops : Array Oper}

def mask (A : List Nat) (j : Nat) (es : List Edge) (s : Nat) : Nat := es.foldl (fun s e => if Region.binds .any e && decide (e.on < j) then s ||| (2 ^ e.on ||| A.getD e.on 0) else s) s

theorem mask_bit {A : List Nat} {j i : Nat} : ∀ (es : List Edge) (s : Nat), (mask A j es s).testBit i = true → s.testBit i = true ∨ ∃ e ∈ es, Region.binds .any e = true ∧ e.on < j ∧ (i = e.on ∨ (A.getD e.on 0).testBit i = true)
  | [], s, h => .inl h
  | e :: es, s, h => by
    unfold mask at h
    rw [List.foldl_cons] at h
    rcases mask_bit (A := A) (j := j) (i := i) es _ h with h | ⟨e', he', h⟩
    · split at h
      · rename_i hc
        simp only [Bool.and_eq_true, decide_eq_true_eq] at hc
        rw [Nat.testBit_or, Nat.testBit_or, Bool.or_eq_true, Bool.or_eq_true] at h
        rcases h with h | h | h
        · exact .inl h
        · rw [Nat.testBit_two_pow] at h
          exact .inr ⟨e, by simp, hc.1, hc.2, .inl (by simpa using (of_decide_eq_true h).symm)⟩
        · exact .inr ⟨e, by simp, hc.1, hc.2, .inr h⟩
      · exact .inl h
    · exact .inr ⟨e', by simp [he'], h⟩

theorem ancs_old : ∀ (rest : List Oper) (acc : List Nat) (i : Nat), i < acc.length → (ancs rest acc).getD i 0 = acc.getD i 0
  | [], acc, i, _ => rfl
  | o :: rest, acc, i, h => by
    rw [ancs, ancs_old rest _ i (by simp; omega)]
    simp only [List.getD_eq_getElem?_getD]
    rw [List.getElem?_append_left h]

theorem mask_congr {A B : List Nat} {j : Nat} (h : ∀ i, i < j → A.getD i 0 = B.getD i 0) : ∀ (es : List Edge) (s : Nat), mask A j es s = mask B j es s
  | [], s => rfl
  | e :: es, s => by
    unfold mask
    rw [List.foldl_cons, List.foldl_cons]
    have : (if Region.binds .any e && decide (e.on < j) then s ||| (2 ^ e.on ||| A.getD e.on 0) else s) = (if Region.binds .any e && decide (e.on < j) then s ||| (2 ^ e.on ||| B.getD e.on 0) else s) := by
      split
      · rename_i hc
        simp only [Bool.and_eq_true, decide_eq_true_eq] at hc
        rw [h e.on hc.2]
      · rfl
    rw [this]
    exact mask_congr h es _

theorem ancs_new : ∀ (rest : List Oper) (acc : List Nat) (k : Nat) (o : Oper), rest[k]? = some o → (ancs rest acc).getD (acc.length + k) 0 = mask (ancs rest acc) (acc.length + k) o.after.toList 0
  | [], acc, k, o, h => by simp at h
  | o :: rest, acc, 0, o', h => by
    simp at h
    subst h
    rw [Nat.add_zero]
    have h1 : (ancs (o :: rest) acc).getD acc.length 0 = mask acc acc.length o.after.toList 0 := by
      rw [ancs, ancs_old rest _ _ (by simp)]
      simp only [List.getD_eq_getElem?_getD, List.getElem?_concat_length, Option.getD_some]
      rfl
    rw [h1]
    exact mask_congr (fun i hi => (ancs_old (o :: rest) acc i hi).symm) _ _
  | o :: rest, acc, k + 1, o', h => by
    have ih := ancs_new rest (acc ++ [o.after.toList.foldl (fun s e => if Region.binds .any e && decide (e.on < acc.length) then s ||| (2 ^ e.on ||| acc.getD e.on 0) else s) 0]) k o' (by simpa using h)
    rw [List.length_append, List.length_singleton, show acc.length + 1 + k = acc.length + (k + 1) by omega] at ih
    rw [ancs]
    exact ih

theorem ancs_len : ∀ (rest : List Oper) (acc : List Nat), (ancs rest acc).length = acc.length + rest.length
  | [], acc => rfl
  | o :: rest, acc => by rw [ancs, ancs_len]; simp; omega

/-- one operation stands ahead of another in every order -/
def Bef (ops : Array Oper) (i j : Nat) : Prop := ((ancs ops.toList []).getD j 0).testBit i = true

theorem Bef.edge {i j : Nat} (h : Bef ops i j) : ∃ o e, ops[j]? = some o ∧ e ∈ o.after ∧ Region.binds .any e = true ∧ e.on < j ∧ (i = e.on ∨ Bef ops i e.on) := by
  unfold Bef at h
  cases ho : ops[j]? with
  | none =>
    have : (ancs ops.toList []).length ≤ j := by
      rw [ancs_len]; simp
      rcases Nat.lt_or_ge j ops.size with h' | h'
      · rw [Array.getElem?_eq_getElem h'] at ho; cases ho
      · exact h'
    rw [List.getD_eq_getElem?_getD, List.getElem?_eq_none this] at h
    simp at h
  | some o =>
    have h1 := ancs_new ops.toList [] j o (by simpa using ho)
    rw [List.length_nil, Nat.zero_add] at h1
    rw [h1] at h
    rcases mask_bit _ _ h with h | ⟨e, he, hb, hj, h⟩
    · simp at h
    · exact ⟨o, e, rfl, by simpa using he, hb, hj, h⟩

theorem Bef.lt {i : Nat} : ∀ {j : Nat}, Bef ops i j → i < j := by
  intro j
  induction j using Nat.strongRecOn with
  | _ j ih =>
    intro h
    obtain ⟨o, e, _, _, _, hj, h | h⟩ := h.edge
    · omega
    · have := ih e.on hj h; omega

theorem Bef.mem {S : Nat → Bool} (hS : ∀ j o, S j = true → ops[j]? = some o → ∀ e ∈ o.after, Region.binds .any e = true → S e.on = true) {i : Nat} :
    ∀ {j : Nat}, (∀ o, ops[j]? = some o → ∀ e ∈ o.after, Region.binds .any e = true → S e.on = true) → Bef ops i j → S i = true := by
  intro j
  induction j using Nat.strongRecOn with
  | _ j ih =>
    intro hj h
    obtain ⟨o, e, ho, he, hb, hlt, h | h⟩ := h.edge
    · subst h; exact hj o ho e he hb
    · exact ih e.on hlt (fun o' ho' => hS e.on o' (hj o ho e he hb) ho') h

theorem ordered_iff {i j : Nat} : orderedIn (ancs ops.toList []) i j = true ↔ Bef ops i j ∨ Bef ops j i := by
  simp [orderedIn, Bef]
end bef

/-! the trace of the text's order -/

structure Trace where
  ts : Nat → Tr AV
  m : Nat → Mem
  v : Nat → AV
  fx : Nat → Fx

section trace
variable {P : Program} {G : Nat} {call : FuncId → List AV → Mem → Option (AV × Mem)} {base : Nat} {ops : Array Oper}

structure Trace.At (P : Program) (G : Nat) (call : FuncId → List AV → Mem → Option (AV × Mem)) (base : Nat) (ops : Array Oper) (T : Trace) (i : Nat) (o : Oper) : Prop where
  ts : T.ts (i + 1) = setT (T.ts i) o.dst (T.v i)
  does : (wantedAV ops (T.ts i) o = some false ∧ T.v i = .tup [] ∧ T.m (i + 1) = T.m i ∧ T.fx i = .none) ∨
    (wantedAV ops (T.ts i) o = some true ∧ evOperAt P G call (base + i) o (T.ts i) (T.m i) = some (T.v i, T.m (i + 1), T.fx i))

theorem evOpsT_trace : ∀ (rest : List Oper) (i : Nat) (ts : Tr AV) (m : Mem) (ts' : Tr AV) (m' : Mem) (l : List Ev1), evOpsT P G call base ops rest i ts m = some (ts', m', l) →
    ∃ T : Trace, T.ts i = ts ∧ T.m i = m ∧ T.ts (i + rest.length) = ts' ∧ T.m (i + rest.length) = m' ∧
      ∀ k o, rest[k]? = some o → Trace.At P G call base ops T (i + k) o ∧ (T.fx (i + k) = .none ∨ (⟨i + k, T.fx (i + k), T.m (i + k), T.m (i + k + 1)⟩ : Ev1) ∈ l)
  | [], i, ts, m, ts', m', l, h => by
    simp only [evOpsT, Option.some.injEq, Prod.mk.injEq] at h
    obtain ⟨rfl, rfl, rfl⟩ := h
    exact ⟨⟨fun _ => ts, fun _ => m, fun _ => .nilp, fun _ => .none⟩, rfl, rfl, rfl, rfl, fun k o hk => by simp at hk⟩
  | o :: rest, i, ts, m, ts', m', l, h => by
    have key : ∀ (v : AV) (m1 : Mem) (fx : Fx) (l1 : List Ev1), evOpsT P G call base ops rest (i + 1) (setT ts o.dst v) m1 = some (ts', m', l1) →
        ((wantedAV ops ts o = some false ∧ v = .tup [] ∧ m1 = m ∧ fx = .none) ∨ (wantedAV ops ts o = some true ∧ evOperAt P G call (base + i) o ts m = some (v, m1, fx))) →
        (fx = .none ∨ (⟨i, fx, m, m1⟩ : Ev1) ∈ l) → (∀ x ∈ l1, x ∈ l) → ∃ T : Trace, T.ts i = ts ∧ T.m i = m ∧ T.ts (i + (o :: rest).length) = ts' ∧ T.m (i + (o :: rest).length) = m' ∧
          ∀ k o', (o :: rest)[k]? = some o' → Trace.At P G call base ops T (i + k) o' ∧ (T.fx (i + k) = .none ∨ (⟨i + k, T.fx (i + k), T.m (i + k), T.m (i + k + 1)⟩ : Ev1) ∈ l) := by
      intro v m1 fx l1 h1 hd hfx hl
      obtain ⟨T, e1, e2, e3, e4, hT⟩ := evOpsT_trace rest (i + 1) _ _ _ _ _ h1
      let U : Trace := ⟨fun j => if j = i then ts else T.ts j, fun j => if j = i then m else T.m j, fun j => if j = i then v else T.v j, fun j => if j = i then fx else T.fx j⟩
      have hU : ∀ j, j ≠ i → U.ts j = T.ts j ∧ U.m j = T.m j ∧ U.v j = T.v j ∧ U.fx j = T.fx j := fun j hj => by simp [U, hj]
      have hUi : U.ts i = ts ∧ U.m i = m ∧ U.v i = v ∧ U.fx i = fx := by simp [U]
      refine ⟨U, hUi.1, hUi.2.1, ?_, ?_, ?_⟩
      · rw [List.length_cons, (hU _ (by omega)).1, ← e3]; congr 1; omega
      · rw [List.length_cons, (hU _ (by omega)).2.1, ← e4]; congr 1; omega
      · intro k o' hk
        cases k with
        | zero =>
          simp at hk
          subst hk
          rw [Nat.add_zero]
          have hs := hU (i + 1) (by omega)
          refine ⟨⟨?_, ?_⟩, ?_⟩
          · rw [hs.1, e1, hUi.1, hUi.2.2.1]
          · rw [hUi.1, hUi.2.1, hUi.2.2.1, hUi.2.2.2, hs.2.1, e2]; exact hd
          · rw [hUi.2.1, hUi.2.2.2, hs.2.1, e2]; exact hfx
        | succ k =>
          have h3 := hT k o' (by simpa using hk)
          have ha := hU (i + (k + 1)) (by omega)
          have hb := hU (i + (k + 1) + 1) (by omega)
          rw [show i + 1 + k = i + (k + 1) by omega] at h3
          refine ⟨⟨?_, ?_⟩, ?_⟩
          · rw [hb.1, ha.1, ha.2.2.1]; exact h3.1.ts
          · rw [ha.1, ha.2.1, ha.2.2.1, ha.2.2.2, hb.2.1]; exact h3.1.does
          · rw [ha.2.1, ha.2.2.2, hb.2.1]
            exact h3.2.imp id (hl _)
    simp only [evOpsT] at h
    split at h
    · rename_i hw
      split at h
      · rename_i v m1 fx hop
        split at h
        · rename_i ts2 mm l1 h1
          simp only [Option.some.injEq, Prod.mk.injEq] at h
          obtain ⟨rfl, rfl, rfl⟩ := h
          exact key v m1 fx l1 h1 (.inr ⟨hw, hop⟩) (.inr (by simp)) (fun x hx => by simp [hx])
        · cases h
      · cases h
    · rename_i hw
      exact key (.tup []) m .none l h (.inl ⟨hw, rfl, rfl, rfl⟩) (.inl rfl) (fun x hx => hx)
    · cases h

/-- what the memory shows at a look -/
def gcells (g : Nat → Option Blk) (b off n : Nat) : Option (List AV) :=
  match g b with
  | some (.row _ _ _ cs) => if off + n ≤ cs.length then some ((cs.drop off).take n) else none
  | _ => none
def gelem (g : Nat → Option Blk) (b : Nat) : Option TypeId :=
  match g b with
  | some (.row true _ e _) => some e
  | _ => none
def gentries (g : Nat → Option Blk) (b : Nat) : Option (List (AV × AV)) :=
  match g b with
  | some (.map es) => some es
  | _ => none

def Agree (g g' : Nat → Option Blk) : Fx → Prop
  | .cells b off n => gcells g b off n = gcells g' b off n ∧ gelem g b = gelem g' b
  | .obj b => gentries g b = gentries g' b
  | _ => True

theorem Agree.refl (g : Nat → Option Blk) (fx : Fx) : Agree g g fx := by cases fx <;> simp [Agree]
theorem Agree.symm {g g' : Nat → Option Blk} {fx : Fx} (h : Agree g g' fx) : Agree g' g fx := by
  cases fx <;> simp only [Agree] at h ⊢
  · exact ⟨h.1.symm, h.2.symm⟩
  · exact h.symm
theorem Agree.trans {g g' g'' : Nat → Option Blk} {fx : Fx} (h : Agree g g' fx) (k : Agree g' g'' fx) : Agree g g'' fx := by
  cases fx <;> simp only [Agree] at h k ⊢
  · exact ⟨h.1.trans k.1, h.2.trans k.2⟩
  · exact h.trans k
theorem Agree.of_eq {g g' : Nat → Option Blk} {fx : Fx} (h : ∀ b, (match fx with | .cells b' _ _ => b' = b | .obj b' => b' = b | _ => False) → g b = g' b) : Agree g g' fx := by
  cases fx <;> simp only [Agree]
  · rename_i b off n
    have := h b rfl
    simp [gcells, gelem, this]
  · rename_i b
    have := h b rfl
    simp [gentries, this]

theorem sameEs_eq : ∀ {x y : List (AV × AV)}, sameEs x y = true → x = y
  | [], [], _ => rfl
  | (a, b) :: x, (c, d) :: y, h => by
    simp only [sameEs, Bool.and_eq_true] at h
    rw [same_eq _ _ h.1.1, same_eq _ _ h.1.2, sameEs_eq h.2]
  | [], _ :: _, h => by simp [sameEs] at h
  | _ :: _, [], h => by simp [sameEs] at h

theorem sameAt_agree {m m' : Mem} {fx : Fx} (h : sameAt m m' fx = true) : Agree m.get m'.get fx := by
  cases fx <;> simp only [Agree]
  · rename_i b off n
    unfold sameAt at h
    simp only at h
    split at h
    · rename_i h1 h2
      simp [gcells, gelem, h1, h2]
    · rename_i o f e cs o' f' e' cs' h1 h2
      simp only [Bool.and_eq_true, beq_iff_eq] at h
      obtain ⟨⟨⟨rfl, rfl⟩, hl⟩, hs⟩ := h
      have hs := sameL_eq _ _ hs
      simp only [gcells, gelem, h1, h2]
      refine ⟨?_, ?_⟩
      · by_cases hc : off + n ≤ cs.length
        · have hc' : off + n ≤ cs'.length := by simpa [hc] using hl
          rw [if_pos hc, if_pos hc', hs]
        · have hc' : ¬ off + n ≤ cs'.length := by simpa [hc] using hl
          rw [if_neg hc, if_neg hc']
      · cases o <;> rfl
    · cases h
  · rename_i b
    unfold sameAt at h
    simp only at h
    split at h
    · rename_i h1 h2
      simp [gentries, h1, h2]
    · rename_i h1 h2
      simp [gentries, h1, h2, sameEs_eq h]
    · cases h

theorem evRead_agree {ρ : Operand → Option AV} {o : Oper} {m m' : Mem} {v : AV} {fx : Fx} (h : evRead P ρ o m = some (v, fx)) (ha : Agree m.get m'.get fx) : evRead P ρ o m' = some (v, fx) := by
  have hC : ∀ b off n, Agree m.get m'.get (.cells b off n) → m'.cells b off n = m.cells b off n ∧ m'.elem b = m.elem b := fun b off n h => ⟨h.1.symm, h.2.symm⟩
  have hO : ∀ b, Agree m.get m'.get (.obj b) → m'.entries b = m.entries b := fun b h => Eq.symm h
  unfold evRead at h ⊢
  split at h
  · split at h
    · simp only [Option.map_eq_some_iff, Prod.mk.injEq] at h
      obtain ⟨cs, hc, rfl, rfl⟩ := h
      rw [(hC _ _ _ ha).1, hc]; rfl
    · split at h
      · rename_i hc
        simp only [Option.some.injEq, Prod.mk.injEq] at h
        obtain ⟨rfl, rfl⟩ := h
        rw [(hC _ _ _ ha).1, hc]
      · cases h
    · cases h
  · split at h
    · split at h
      · rename_i hcond
        simp only [Option.map_eq_some_iff, Prod.mk.injEq] at h
        obtain ⟨cs, hc, rfl, rfl⟩ := h
        rw [if_pos hcond, (hC _ _ _ ha).1, hc]; rfl
      · cases h
    · split at h
      · rename_i n hn
        split at h
        · rename_i hcond
          simp only [Option.map_eq_some_iff, Prod.mk.injEq] at h
          obtain ⟨cs, hc, rfl, rfl⟩ := h
          have := hC _ _ _ ha
          rw [this.2, if_pos hcond, this.1, hc]; rfl
        · cases h
      · cases h
    · split at h
      · obtain ⟨cs, hc, h⟩ := Option.bind_eq_some_iff.1 h
        simp only [Option.map_eq_some_iff, Prod.mk.injEq] at h
        obtain ⟨s, hs, rfl, rfl⟩ := h
        rw [(hC _ _ _ ha).1, hc, Option.bind_some, hs]; rfl
      · cases h
    · cases h
  · split at h
    · rename_i kt et b k hu hx hk
      split at h
      · rename_i es hes
        have hfx : fx = .obj b := by
          split at h
          · split at h
            · simp only [Option.some.injEq, Prod.mk.injEq] at h; exact h.2.symm
            · simp only [Option.map_eq_some_iff, Prod.mk.injEq] at h; obtain ⟨_, _, _, h⟩ := h; exact h.symm
            · cases h
          · cases h
        rw [hfx] at ha
        rw [hO _ ha, hes]
        exact h
      · cases h
    · cases h
  · split at h
    · split at h
      · split at h
        · rename_i hcond
          simp only [Option.map_eq_some_iff, Prod.mk.injEq] at h
          obtain ⟨cs, hc, rfl, rfl⟩ := h
          rw [if_pos hcond, (hC _ _ _ ha).1, hc]; rfl
        · cases h
      · cases h
    · cases h
  · split at h
    · simp only [Option.map_eq_some_iff, Prod.mk.injEq] at h
      obtain ⟨cs, hc, rfl, rfl⟩ := h
      rw [hO _ ha, hc]; rfl
    · cases h
  · cases h

end trace
end Go.Proofs.YtcbileongahhiaaGreat.Ev
