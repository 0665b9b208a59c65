/- The contracts of this program's functions that the evaluator does not step through. -/
import Derived.Test.YtcbileongahhiaaGreatKeys
namespace Go.Proofs.YtcbileongahhiaaGreat.Ev
open Go
set_option linter.unusedVariables false
set_option linter.unusedSimpArgs false

noncomputable def prims : Prim := fun f =>
  if f = 226 then some fun args m => match args with | [x] => some (x, m) | _ => none
  else if f = 203 then some (seqPrim Tryz.prog (ev Tryz.prog (fun _ => none) 0 60) 0 140 Tryz.f203)
  else if f = 399 then some (noZero 5)
  else none

theorem noPrims (B0 : Nat) : PrimOk Tryz.prog B0 0 (fun _ => none) := fun f p h => by cases h

theorem primsOk (B0 : Nat) : PrimOk Tryz.prog B0 0 prims := by
  intro f p hp args m v m' h ι w arr hG hR hargs
  unfold prims at hp
  split at hp
  · rename_i e
    injection hp with hp
    subst hp; subst e
    exact gives_same Tryz.func226 (by kernel_rfl) (by kernel_rfl) (by kernel_rfl) (by kernel_rfl) h hR hargs
  · split at hp
    · rename_i e
      injection hp with hp
      subst hp; subst e
      exact seqPrim_ok sane (ev_ok mixed (noPrims B0) sane 60).1 keys140 Tryz.func203 h hG hR hargs
    · split at hp
      · rename_i e
        injection hp with hp
        subst hp; subst e
        exact gives_noZero (ps := #[3]) Tryz.func399 (by kernel_rfl) (by kernel_rfl) (by kernel_rfl) (by kernel_rfl) (show Tryz.prog.underlying 103 = some (.slice 5) by kernel_rfl) h hR hargs
      · cases hp
end Go.Proofs.YtcbileongahhiaaGreat.Ev
