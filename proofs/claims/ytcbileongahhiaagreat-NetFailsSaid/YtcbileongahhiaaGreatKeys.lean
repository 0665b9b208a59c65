/- The iterator over an empty map's keys makes no round. -/
import Derived.Test.YtcbileongahhiaaGreatSane
import Derived.WalkKit
import Derived.ProofKit
namespace Go.Proofs.YtcbileongahhiaaGreat.Ev
open Go Go.RowKit
set_option linter.unusedVariables false
set_option linter.unusedSimpArgs false

theorem leftOf_none (seen : Array Nat) : (leftOf #[] seen).toList = [] := by unfold leftOf; rfl

theorem keys140 : KeysOk Tryz.prog 140 := by
  refine ⟨fun args w => enter_run Tryz.func140 (by kernel_rfl) rfl args w, ?_⟩
  intro l p W h
  rcases h with h | ⟨q, clock, h, hq⟩
  · have hrg := run_range_nilMap (P := Tryz.prog) W 175 _ _ Tryz.underlying175
    have hnx : ∀ ty, (Instr.next (.pointer (some ⟨W.heap.size, 0, none⟩)) false ty).run Tryz.prog (W.alloc (.mapIter none 0 #[] 0)) = _ := fun ty => run_next_nilMap _ ty 0 0 #[]
    go_enter Tryz.func140, Tryz.ntmps140
    go_wp2
    refine wp_loop_rounds 1 ?_
    rw [rounds_succ]
    go_wp2
    go_end0
    exact ⟨_, rfl, (Below.refl _ W).alloc (Nat.le_refl _) _⟩
  · have hrg := run_range_map (P := Tryz.prog) W 175 _ _ q #[] clock Tryz.underlying175 hq
    have hnx : ∀ ty, (Instr.next (.pointer (some ⟨W.heap.size, 0, none⟩)) false ty).run Tryz.prog (W.alloc (.mapIter (some q) clock #[] clock)) = .ok (.tuple #[.bool false]) (W.alloc (.mapIter (some q) clock #[] clock)) := fun ty => by
      rcases run_next_map (P := Tryz.prog) W ty q clock clock #[] #[] clock hq (by simp) (Nat.le_refl _) with ⟨_, h⟩ | ⟨e, he, _⟩
      · exact h
      · rw [leftOf_none] at he; cases he
    go_enter Tryz.func140, Tryz.ntmps140
    go_wp2
    refine wp_loop_rounds 1 ?_
    rw [rounds_succ]
    go_wp2
    go_end0
    exact ⟨_, rfl, (Below.refl _ W).alloc (Nat.le_refl _) _⟩
end Go.Proofs.YtcbileongahhiaaGreat.Ev
