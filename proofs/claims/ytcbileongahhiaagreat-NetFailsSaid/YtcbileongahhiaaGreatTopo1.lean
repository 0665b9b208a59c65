/- topo: the contracts of right, Size, Peer, Home. -/
import Derived.Test.YtcbileongahhiaaGreatEvTy
import Derived.Test.YtcbileongahhiaaGreatEvDr
import Derived.Test.YtcbileongahhiaaGreatSane
namespace Go.Proofs.YtcbileongahhiaaGreat.Ev
open Go Go.Proofs
set_option linter.unusedVariables false
set_option linter.unusedSimpArgs false

/-- a link -/
structure LinkL where
  (a pa b pb : Int) (c : Nat)
def LinkL.av (x : LinkL) : List AV := [.int .i64 x.a, .int .i64 x.pa, .int .i64 x.b, .int .i64 x.pb, .flt .f64 x.c]
def costOk (c : Nat) : Bool := fltGeq .f64 c 0 && fltLeq .f64 c 4741671816366391296
def rightL (x : LinkL) (size : Int) : Bool :=
  if x.a < 1 then false else if size < x.a then false else if x.pa < 1 then false else if 16 < x.pa then false
  else if fltGeq .f64 x.c 0 = false then false else if fltLeq .f64 x.c 4741671816366391296 = false then false
  else if x.b < 0 then (if -64 ≤ x.b then decide (x.pb = 0) else false)
  else if x.b = 0 then false else if size < x.b then false else if x.b = x.a then false else if x.pb < 1 then false else decide (x.pb ≤ 16)

theorem right_ok {m : Mem} {x : LinkL} {size : Int} : Contr Tryz.prog 0 77 [.agg x.av, .int .i64 size] m (.bool (rightL x size)) m := by
  refine contr_go (call := tab0) mixed sane Tryz.func77 rfl (by rw [Tryz.ntmps77]; exact Nat.le_of_ble_eq_true rfl) tab0_ok fun hfr => ?_
  obtain ⟨a, pa, b, pb, c⟩ := x
  simp only [LinkL.av]
  have fin : ∀ {e : Env} {t : Bool}, e 4 = some (.bool t) → rightL ⟨a, pa, b, pb, c⟩ size = t → ∀ x : Blk, Fin Tryz.prog Tryz.f77 m (.bool (rightL ⟨a, pa, b, pb, c⟩ size)) m .ret e (m.new x) := by
    rintro e t he rfl x
    exact fin_flat hfr Ext.refl.new trivial (by rw [Tryz.results77]; simp [he]; rfl) rfl rfl
  by_cases h1 : a < 1
  · simp -implicitDefEqProofs [h1]
    exact fin rfl (by simp [rightL, h1]) _
  by_cases h2 : size < a
  · simp -implicitDefEqProofs [h1, h2]
    exact fin rfl (by simp [rightL, h1, h2]) _
  by_cases h3 : pa < 1
  · simp -implicitDefEqProofs [h1, h2, h3]
    exact fin rfl (by simp [rightL, h1, h2, h3]) _
  by_cases h4 : 16 < pa
  · simp -implicitDefEqProofs [h1, h2, h3, h4]
    exact fin rfl (by simp [rightL, h1, h2, h3, h4]) _
  cases h5 : fltGeq .f64 c 0 with
  | false =>
    simp -implicitDefEqProofs [h1, h2, h3, h4, h5]
    exact fin rfl (by simp [rightL, h1, h2, h3, h4, h5]) _
  | true =>
  cases h6 : fltLeq .f64 c 4741671816366391296 with
  | false =>
    simp -implicitDefEqProofs [h1, h2, h3, h4, h5, h6]
    exact fin rfl (by simp [rightL, h1, h2, h3, h4, h5, h6]) _
  | true =>
  by_cases h7 : b < 0
  · by_cases h8 : -64 ≤ b
    · simp -implicitDefEqProofs [h1, h2, h3, h4, h5, h6, h7, h8]
      exact fin rfl (by simp [rightL, h1, h2, h3, h4, h5, h6, h7, h8]) _
    · simp -implicitDefEqProofs [h1, h2, h3, h4, h5, h6, h7, h8]
      exact fin rfl (by simp [rightL, h1, h2, h3, h4, h5, h6, h7, h8]) _
  by_cases h8 : b = 0
  · subst h8
    simp -implicitDefEqProofs [h1, h2, h3, h4, h5, h6]
    exact fin rfl (by simp [rightL, h1, h2, h3, h4, h5, h6]) _
  by_cases h9 : size < b
  · have h9' : ¬ b ≤ size := by omega
    simp -implicitDefEqProofs [h1, h2, h3, h4, h5, h6, h7, h8, h9, h9']
    exact fin rfl (by simp [rightL, h1, h2, h3, h4, h5, h6, h7, h8, h9]) _
  have h9' : b ≤ size := by omega
  by_cases h10 : b = a
  · subst h10
    simp -implicitDefEqProofs [h1, h2, h3, h4, h5, h6, h7, h8, h9, h9']
    exact fin rfl (by simp [rightL, h1, h2, h3, h4, h5, h6, h7, h8, h9]) _
  by_cases h11 : pb < 1
  · have h11' : ¬ 1 ≤ pb := by omega
    simp -implicitDefEqProofs [h1, h2, h3, h4, h5, h6, h7, h8, h9, h9', h10, h11, h11']
    exact fin rfl (by simp [rightL, h1, h2, h3, h4, h5, h6, h7, h8, h9, h10, h11]) _
  have h11' : 1 ≤ pb := by omega
  simp -implicitDefEqProofs [h1, h2, h3, h4, h5, h6, h7, h8, h9, h9', h10, h11, h11']
  exact fin rfl (by simp [rightL, h1, h2, h3, h4, h5, h6, h7, h8, h9, h10, h11]) _
end Go.Proofs.YtcbileongahhiaaGreat.Ev
