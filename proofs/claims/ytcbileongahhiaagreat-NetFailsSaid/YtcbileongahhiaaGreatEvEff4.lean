/- The operations that write memory: the theorem of them all. -/
import Derived.Test.YtcbileongahhiaaGreatEvEff3
namespace Go.Proofs.YtcbileongahhiaaGreat.Ev
open Go
set_option linter.unusedVariables false
set_option linter.unusedSimpArgs false

section
variable {P : Program} {B0 : Nat} {ι : Inj} {m : Mem} {w : World}

/-- what an operation gives: a value, or a skip, which gives undef -/
def Gives (P : Program) (ev : Operand → Value) (o : Oper) (w : World) (z : Value) (w' : World) : Prop :=
  (execOp ev o).run P w = .ok (.value z) w' ∨ ((execOp ev o).run P w = .ok .skip w' ∧ z = .tuple #[])

theorem evEff_run (hR : Rel P B0 ι m w) {ρ : Operand → Option AV} {ev : Operand → Value} {o : Oper} {r : AV} {m' : Mem} (hρ : OpdR ι ρ ev o) (h : evEff P ρ o m = some (r, m')) :
    ∃ z w' κ, Gives P ev o w z w' ∧ Step P B0 ι m w κ m' w' ∧ VR κ r z := by
  have hρ' := hρ
  unfold OpdR at hρ
  unfold evEff at h
  split at h
  · rename_i t a x hop
    split at h
    · rename_i b off v n ha hx hn
      split at h
      · rename_i hlen
        simp only [Option.map_eq_some_iff, Prod.mk.injEq] at h
        obtain ⟨m2, hst, rfl, rfl⟩ := h
        obtain ⟨p, hp, e⟩ := VR.ptr_inv (hρ a (by simp [hop, Op.operands]) _ ha)
        have rv := hρ x (by simp [hop, Op.operands]) _ hx
        obtain ⟨w', hrun, st⟩ := store_run hR hp hst (VR.cells rv)
        have hl := VRL.length (VR.cells rv)
        have hsz := fun w => run_sizeOf' (P := P) w hn
        refine ⟨.tuple #[], w', ι, .inr ⟨?_, rfl⟩, st, VR.tup0⟩
        rw [Array.length_toList] at hl
        simp [execOp, hop, Instr.storeAt, e, Instr.sureAddr, storeVar, hsz, hl, hlen, hrun]
      · cases h
    · cases h
  · rename_i t x k v hop
    split at h
    · rename_i kt et b k v hu hx hk hv
      obtain ⟨es, hes, h⟩ := Option.bind_eq_some_iff.1 h
      split at h
      · rename_i hkey
        have h2 : r = .tup [] := by
          split at h
          · split at h
            · split at h
              · simp only [Option.some.injEq, Prod.mk.injEq] at h; exact h.1.symm
              · cases h
            · cases h
          · simp only [Option.some.injEq, Prod.mk.injEq] at h; exact h.1.symm
          · cases h
        subst h2
        obtain ⟨w', hrun, st⟩ := mapUpdate_run hR hu (hρ x (by simp [hop, Op.operands]) _ hx) (hρ _ (by simp [hop, Op.operands]) _ hk) (hρ _ (by simp [hop, Op.operands]) _ hv) hes hkey h
        exact ⟨.tuple #[], w', ι, .inr ⟨by simp [execOp, hop, hrun], rfl⟩, st, VR.tup0⟩
      · cases h
    · cases h
  · rename_i t x k v hop
    split at h
    · rename_i kt et b k v hu hx hk hv
      obtain ⟨es, hes, h⟩ := Option.bind_eq_some_iff.1 h
      split at h
      · rename_i hkey
        have h2 : r = .tup [] := by
          split at h
          · split at h
            · split at h
              · simp only [Option.some.injEq, Prod.mk.injEq] at h; exact h.1.symm
              · cases h
            · cases h
          · simp only [Option.some.injEq, Prod.mk.injEq] at h; exact h.1.symm
          · cases h
        subst h2
        obtain ⟨w', hrun, st⟩ := mapUpdate_run hR hu (hρ x (by simp [hop, Op.operands]) _ hx) (hρ _ (by simp [hop, Op.operands]) _ hk) (hρ _ (by simp [hop, Op.operands]) _ hv) hes hkey h
        exact ⟨.tuple #[], w', ι, .inr ⟨by simp [execOp, hop, hrun], rfl⟩, st, VR.tup0⟩
      · cases h
    · cases h
  · rename_i b args argTypes hop
    obtain ⟨l, hl, h⟩ := Option.bind_eq_some_iff.1 h
    obtain ⟨z, w', κ, hrun, st, rz⟩ := evBuiltin_run (ty := o.type) (consts := args.map fun | .const _ => true | _ => false) hR (args_of hρ' hop hl) h
    exact ⟨z, w', κ, .inl (by simp [execOp, hop, resolve, invoke]; exact hrun), st, rz⟩
  · cases h

theorem Gives.upon {a : Act} {o : Oper} {z : Value} {w' : World} {K : Act → World → Prop} {Q : Exit → Act → World → Prop} (h : Gives P a.eval o w z w') (hK : K (a.put o.dst z) w') : o.wp P a w K Q := by
  unfold Oper.wp
  rcases h with h | ⟨h, rfl⟩
  · rw [h]; exact hK
  · rw [h]; exact hK

end
end Go.Proofs.YtcbileongahhiaaGreat.Ev
